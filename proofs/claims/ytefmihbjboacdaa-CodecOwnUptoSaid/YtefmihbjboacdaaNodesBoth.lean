/- Both sides' EncodeNode and DecodeNode answer alike. -/
import Derived.Test.YtefmihbjboacdaaNodeRefDec
import Derived.Test.YtefmihbjboacdaaSupersBoth
namespace Go.Proofs.Ytefmihbjboacdaa.NodesBoth
open Go.ChangeShapes Go.WideShapes Go.ChangeAt Go.RowKit
open Go.Proofs.Ytefmihbjboacdaa.Kit Go.Proofs.Ytefmihbjboacdaa.Crc Go.Proofs.Ytefmihbjboacdaa.Reads Go.Proofs.Ytefmihbjboacdaa.Copy Go.Proofs.Ytefmihbjboacdaa.Lay Go.Proofs.Ytefmihbjboacdaa.NodeLay Go.Proofs.Ytefmihbjboacdaa.NodeEnc Go.Proofs.Ytefmihbjboacdaa.NodeDec Go.Proofs.Ytefmihbjboacdaa.NodeDecAll Go.Proofs.Ytefmihbjboacdaa.NodeRef Go.Proofs.Ytefmihbjboacdaa.NodeRefDec
open Go.Proofs.Ytefmihbjboacdaa.SupersBoth (EncPost same_at)
set_option linter.unusedVariables false

theorem enc_both (f : Nat → Int) : ∃ (L : Nat) (l : List UInt8) (er : Int), l.length = L ∧ L ≤ 512 ∧
    (∀ w, Calls Try.prog 29 #[.agg (ncs f)] w (EncPost L l er w)) ∧
    (∀ w, Calls Try.prog 30 #[.agg (ncs f)] w (EncPost L l er w)) := by
  by_cases h : NOk f
  · refine ⟨128, nodeOf f, 0, nodeOf_length f, by decide, fun w => ?_, fun w => ?_⟩
    · refine (enc_ok f w h).mono ?_
      rintro e w' ⟨B, rfl, hm⟩
      exact ⟨_, rfl, hm.2.1, Bytes.own' hm.2.2⟩
    · refine (ref_ok f w h).mono ?_
      rintro e w' ⟨B, rfl, hm⟩
      exact ⟨_, rfl, hm.2.1, Bytes.own' hm.2.2⟩
  · refine ⟨0, [], 20, rfl, by decide, fun w => ?_, fun w => ?_⟩
    · refine (enc_bad f w h).mono ?_
      rintro e w' ⟨rfl, hb⟩
      exact ⟨_, rfl, hb, Bytes.nil _ _⟩
    · refine (ref_bad f w h).mono ?_
      rintro e w' ⟨rfl, hb⟩
      exact ⟨_, rfl, hb, Bytes.nil _ _⟩

def DecBoth (q : Nat → Int) (er : Int) (w : World) (e : Ending) (w' : World) : Prop :=
  e = .returned (.tuple #[.agg (ncs q), .int .i64 er]) ∧ Hid (Below w.heap.size w w')
theorem nodeDec_form (l : List UInt8) : ∃ (q : Nat → Int) (er : Int), nodeDec l = .tuple #[.agg (ncs q), .int .i64 er] := by
  unfold nodeDec
  split
  · split
    · exact ⟨_, _, rfl⟩
    · exact ⟨fun _ => 0, _, rfl⟩
  · exact ⟨fun _ => 0, _, rfl⟩
theorem dec_both (l : List UInt8) : ∃ (q : Nat → Int) (er : Int),
    (∀ A c n w, l.length = n → n ≤ c → c ≤ 9223372036854775807 → Bytes w A l → Calls Try.prog 28 #[.slice A n c] w (DecBoth q er w)) ∧
    (∀ A c n w, l.length = n → n ≤ c → c ≤ 9223372036854775807 → Bytes w A l → Calls Try.prog 31 #[.slice A n c] w (DecBoth q er w)) := by
  obtain ⟨q, er, hd⟩ := nodeDec_form l
  refine ⟨q, er, fun A c n w hn hc hc9 H => ?_, fun A c n w hn hc hc9 H => ?_⟩
  · by_cases h : l.length = 128
    · obtain rfl : n = 128 := hn.symm.trans h
      refine (dec_full A c l w h hc hc9 H).mono ?_
      rintro e w' ⟨rfl, hb⟩
      exact ⟨by rw [hd], hb⟩
    · rw [nodeDec_len h] at hd
      refine (dec_short A c n w (by rw [← hn]; exact h) (by omega)).mono ?_
      rintro e w' ⟨rfl, hb⟩
      exact ⟨by rw [hd], hb⟩
  · by_cases h : l.length = 128
    · obtain rfl : n = 128 := hn.symm.trans h
      refine (rdec_full A c l w h H).mono ?_
      rintro e w' ⟨rfl, hb⟩
      exact ⟨by rw [hd], hb⟩
    · rw [nodeDec_len h] at hd
      refine (rdec_short A c n w (by rw [← hn]; exact h) (by omega)).mono ?_
      rintro e w' ⟨rfl, hb⟩
      exact ⟨by rw [hd], hb⟩
end Go.Proofs.Ytefmihbjboacdaa.NodesBoth
