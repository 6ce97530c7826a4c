/- Both sides' EncodeEntry and DecodeEntry answer alike. -/
import Derived.Test.YtefmihbjboacdaaEntryRefDec
import Derived.Test.YtefmihbjboacdaaSupersBoth
namespace Go.Proofs.Ytefmihbjboacdaa.EntriesBoth
open Go.ChangeShapes Go.WideShapes Go.ChangeAt Go.RowKit
open Go.Proofs.Ytefmihbjboacdaa.Kit Go.Proofs.Ytefmihbjboacdaa.Crc Go.Proofs.Ytefmihbjboacdaa.Reads Go.Proofs.Ytefmihbjboacdaa.Copy Go.Proofs.Ytefmihbjboacdaa.Lay Go.Proofs.Ytefmihbjboacdaa.EntryEnc Go.Proofs.Ytefmihbjboacdaa.EntryDec Go.Proofs.Ytefmihbjboacdaa.EntryRef Go.Proofs.Ytefmihbjboacdaa.EntryRefDec
open Go.Proofs.Ytefmihbjboacdaa.SupersBoth (EncPost same_at)
set_option linter.unusedVariables false

theorem enc_both (n k : Int) (s : ByteArray) (sl : Int) : ∃ (L : Nat) (l : List UInt8) (er : Int), l.length = L ∧ L ≤ 512 ∧
    (∀ w, Calls Try.prog 35 #[.agg #[.int .i64 n, .int .i64 k, .string s, .int .i64 sl]] w (EncPost L l er w)) ∧
    (∀ w, Calls Try.prog 36 #[.agg #[.int .i64 n, .int .i64 k, .string s, .int .i64 sl]] w (EncPost L l er w)) := by
  by_cases h : EOk n k s
  · refine ⟨64, entryOf n k s, 0, entryOf_length h, by decide, fun w => ?_, fun w => ?_⟩
    · refine (enc_ok n k s sl w h).mono ?_
      rintro e w' ⟨B, rfl, hm⟩
      exact ⟨_, rfl, hm.2.1, Bytes.own' hm.2.2⟩
    · refine (ref_ok n k s sl w h).mono ?_
      rintro e w' ⟨B, rfl, hm⟩
      exact ⟨_, rfl, hm.2.1, Bytes.own' hm.2.2⟩
  · refine ⟨0, [], 20, rfl, by decide, fun w => ?_, fun w => ?_⟩
    · refine (enc_bad n k s sl w h).mono ?_
      rintro e w' ⟨rfl, hb⟩
      exact ⟨_, rfl, hb, Bytes.nil _ _⟩
    · refine (ref_bad n k s sl w h).mono ?_
      rintro e w' ⟨rfl, hb⟩
      exact ⟨_, rfl, hb, Bytes.nil _ _⟩

def DecBoth (q : Int × Int × ByteArray) (er : Int) (w : World) (e : Ending) (w' : World) : Prop :=
  e = .returned (.tuple #[.agg #[.int .i64 q.1, .int .i64 q.2.1, .string q.2.2, .int .i64 0], .int .i64 er]) ∧ Hid (Below w.heap.size w w')
theorem entryDec_form (l : List UInt8) : ∃ (q : Int × Int × ByteArray) (er : Int), entryDec l = .tuple #[.agg #[.int .i64 q.1, .int .i64 q.2.1, .string q.2.2, .int .i64 0], .int .i64 er] := by
  unfold entryDec
  split
  · split
    · exact ⟨(_, _, _), _, rfl⟩
    · exact ⟨(_, _, _), _, rfl⟩
  · exact ⟨(_, _, _), _, rfl⟩
theorem dec_both (l : List UInt8) : ∃ (q : Int × Int × ByteArray) (er : Int),
    (∀ A c n w, l.length = n → n ≤ c → c ≤ 9223372036854775807 → Bytes w A l → Calls Try.prog 34 #[.slice A n c] w (DecBoth q er w)) ∧
    (∀ A c n w, l.length = n → n ≤ c → c ≤ 9223372036854775807 → Bytes w A l → Calls Try.prog 37 #[.slice A n c] w (DecBoth q er w)) := by
  obtain ⟨q, er, hd⟩ := entryDec_form l
  refine ⟨q, er, fun A c n w hn hc hc9 H => ?_, fun A c n w hn hc hc9 H => ?_⟩
  · by_cases h : l.length = 64
    · obtain rfl : n = 64 := hn.symm.trans h
      refine (dec_full A c l w h hc hc9 H).mono ?_
      rintro e w' ⟨rfl, hb⟩
      exact ⟨by rw [hd], hb⟩
    · rw [entryDec_len h] at hd
      refine (dec_short A c n w (by rw [← hn]; exact h) (by omega)).mono ?_
      rintro e w' ⟨rfl, hb⟩
      exact ⟨by rw [hd], hb⟩
  · by_cases h : l.length = 64
    · obtain rfl : n = 64 := hn.symm.trans h
      refine (rdec_full A c l w h hc hc9 H).mono ?_
      rintro e w' ⟨rfl, hb⟩
      exact ⟨by rw [hd], hb⟩
    · rw [entryDec_len h] at hd
      refine (rdec_short A c n w (by rw [← hn]; exact h) (by omega)).mono ?_
      rintro e w' ⟨rfl, hb⟩
      exact ⟨by rw [hd], hb⟩
end Go.Proofs.Ytefmihbjboacdaa.EntriesBoth
