/- Both sides' EncodeSuper and DecodeSuper answer alike. -/
import Derived.Test.YtefmihbjboacdaaRefDec
namespace Go.Proofs.Ytefmihbjboacdaa.SupersBoth
open Go.ChangeShapes Go.WideShapes Go.ChangeAt Go.RowKit
open Go.Proofs.Ytefmihbjboacdaa.Kit Go.Proofs.Ytefmihbjboacdaa.Crc Go.Proofs.Ytefmihbjboacdaa.Reads Go.Proofs.Ytefmihbjboacdaa.Copy Go.Proofs.Ytefmihbjboacdaa.Lay Go.Proofs.Ytefmihbjboacdaa.Plan Go.Proofs.Ytefmihbjboacdaa.SuperEnc Go.Proofs.Ytefmihbjboacdaa.SuperDec Go.Proofs.Ytefmihbjboacdaa.RefSuper Go.Proofs.Ytefmihbjboacdaa.RefDec
set_option linter.unusedVariables false

def EncPost (L : Nat) (l : List UInt8) (er : Int) (w : World) (e : Ending) (w' : World) : Prop :=
  ∃ A, e = .returned (.tuple #[.slice A L L, .int .i64 er]) ∧ Hid (Below w.heap.size w w' ∧ Bytes w' A l)
theorem enc_both (a b c : Int) : ∃ (L : Nat) (l : List UInt8) (er : Int), l.length = L ∧ L ≤ 512 ∧
    (∀ w, Calls Try.prog 24 #[.agg #[.int .i64 a, .int .i64 b, .int .i64 c]] w (EncPost L l er w)) ∧
    (∀ w, Calls Try.prog 25 #[.agg #[.int .i64 a, .int .i64 b, .int .i64 c]] w (EncPost L l er w)) := by
  by_cases h : Fits a b c
  · have hh := h
    unfold Fits at hh
    obtain ⟨a, rfl⟩ := Int.eq_ofNat_of_zero_le (show 0 ≤ a by omega)
    obtain ⟨b, rfl⟩ := Int.eq_ofNat_of_zero_le (show 0 ≤ b by omega)
    obtain ⟨c, rfl⟩ := Int.eq_ofNat_of_zero_le (show 0 ≤ c by omega)
    refine ⟨512, superBytes a b c, 0, superBytes_length _ _ _, by decide, fun w => ?_, fun w => ?_⟩
    · refine (enc_yes a b c w h).mono ?_
      rintro e w' ⟨B, rfl, hm⟩
      exact ⟨_, rfl, hm.2.1, Bytes.own' hm.2.2⟩
    · refine (ref_yes a b c w h).mono ?_
      rintro e w' ⟨B, rfl, hm⟩
      exact ⟨_, rfl, hm.2.1, Bytes.own' hm.2.2⟩
  · refine ⟨0, [], 22, rfl, by decide, fun w => ?_, fun w => ?_⟩
    · refine (enc_no a b c w h).mono ?_
      rintro e w' ⟨rfl, hb⟩
      exact ⟨_, rfl, hb, Bytes.nil _ _⟩
    · refine (ref_no a b c w h).mono ?_
      rintro e w' ⟨rfl, hb⟩
      exact ⟨_, rfl, hb, Bytes.nil _ _⟩

def DecBoth (x y z er : Int) (w : World) (e : Ending) (w' : World) : Prop :=
  e = .returned (.tuple #[.agg #[.int .i64 x, .int .i64 y, .int .i64 z], .int .i64 er]) ∧ Hid (Below w.heap.size w w')
theorem decoded_form (l : List UInt8) : ∃ x y z er : Int, decoded l = .tuple #[.agg #[.int .i64 x, .int .i64 y, .int .i64 z], .int .i64 er] := by
  unfold decoded
  split
  · split
    · exact ⟨_, _, _, _, rfl⟩
    · exact ⟨_, _, _, _, rfl⟩
  · exact ⟨_, _, _, _, rfl⟩
theorem dec_both (l : List UInt8) : ∃ x y z er : Int,
    (∀ A c n w, l.length = n → n ≤ c → c ≤ 9223372036854775807 → Bytes w A l → Calls Try.prog 23 #[.slice A n c] w (DecBoth x y z er w)) ∧
    (∀ A c n w, l.length = n → n ≤ c → c ≤ 9223372036854775807 → Bytes w A l → Calls Try.prog 27 #[.slice A n c] w (DecBoth x y z er w)) := by
  obtain ⟨x, y, z, er, hd⟩ := decoded_form l
  refine ⟨x, y, z, er, fun A c n w hn hc hc9 H => ?_, fun A c n w hn hc hc9 H => ?_⟩
  · by_cases h : l.length = 512
    · obtain rfl : n = 512 := hn.symm.trans h
      refine (dec_full A c l w h hc hc9 H).mono ?_
      rintro e w' ⟨rfl, hb⟩
      exact ⟨by rw [hd], hb⟩
    · rw [decoded_len h] at hd
      refine (dec_short A c n w (by rw [← hn]; exact h) (by omega)).mono ?_
      rintro e w' ⟨rfl, hb⟩
      exact ⟨by rw [hd], hb⟩
  · by_cases h : l.length = 512
    · obtain rfl : n = 512 := hn.symm.trans h
      refine (rdec_full A c l w h H).mono ?_
      rintro e w' ⟨rfl, hb⟩
      exact ⟨by rw [hd], hb⟩
    · rw [decoded_len h] at hd
      refine (rdec_short A c n w (by rw [← hn]; exact h) (by omega)).mono ?_
      rintro e w' ⟨rfl, hb⟩
      exact ⟨by rw [hd], hb⟩
theorem same_at (A A' : Option Addr) (c c' n : Nat) (l : List UInt8) (w : World) (hl : l.length = n) (hn : n ≤ 9223372036854775807) (H : Hid (Bytes w A l)) (H' : Hid (Bytes w A' l)) :
    Calls Try.prog 26 #[.slice A n c, .slice A' n c'] w fun e w' => e = .returned (.bool true) ∧ Still w w' := by
  subst hl
  refine (same_any A A' c c' l l w hn H H').mono ?_
  rintro e w' ⟨rfl, h⟩
  exact ⟨by simp, h⟩
end Go.Proofs.Ytefmihbjboacdaa.SupersBoth
