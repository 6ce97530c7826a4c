/- What is decoded fits, and its bytes are these: a node, an entry, a superblock. -/
import Derived.Test.YtefmihbjboacdaaNodesBoth
import Derived.Test.YtefmihbjboacdaaEntriesBoth
import Derived.Test.YtefmihbjboacdaaNodeCells
namespace Go.Proofs.Ytefmihbjboacdaa.Forms
open Go.ChangeShapes Go.WideShapes Go.ChangeAt Go.RowKit
open Go.Proofs.Ytefmihbjboacdaa.Kit Go.Proofs.Ytefmihbjboacdaa.Crc Go.Proofs.Ytefmihbjboacdaa.Reads Go.Proofs.Ytefmihbjboacdaa.Copy Go.Proofs.Ytefmihbjboacdaa.Lay Go.Proofs.Ytefmihbjboacdaa.Plan Go.Proofs.Ytefmihbjboacdaa.Lists Go.Proofs.Ytefmihbjboacdaa.NodeLay Go.Proofs.Ytefmihbjboacdaa.EntryEnc Go.Proofs.Ytefmihbjboacdaa.SuperEnc Go.Proofs.Ytefmihbjboacdaa.SuperDec Go.Proofs.Ytefmihbjboacdaa.Equal
set_option linter.unusedVariables false

theorem node_form (l : List UInt8) : ∃ (q : Nat → Int) (er : Int),
    (∀ A c n w, l.length = n → n ≤ c → c ≤ 9223372036854775807 → Bytes w A l → Calls Try.prog 28 #[.slice A n c] w (NodesBoth.DecBoth q er w)) ∧ (er = 0 → NOk q ∧ nodeOf q = l) := by
  by_cases h : l.length = 128
  · by_cases hs : IsNode l
    · refine ⟨nI (readN l), 0, fun A c n w hn hc hc9 H => ?_, fun _ => hs⟩
      obtain rfl : n = 128 := hn.symm.trans h
      refine (NodeDecAll.dec_full A c l w h hc hc9 H).mono ?_
      rintro e w' ⟨rfl, hb⟩
      exact ⟨by rw [NodeDecAll.nodeDec_yes h hs], hb⟩
    · refine ⟨fun _ => 0, 6, fun A c n w hn hc hc9 H => ?_, fun e => absurd e (by decide)⟩
      obtain rfl : n = 128 := hn.symm.trans h
      refine (NodeDecAll.dec_full A c l w h hc hc9 H).mono ?_
      rintro e w' ⟨rfl, hb⟩
      exact ⟨by rw [NodeDecAll.nodeDec_no h hs]; rfl, hb⟩
  · refine ⟨fun _ => 0, 2, fun A c n w hn hc hc9 H => ?_, fun e => absurd e (by decide)⟩
    refine (NodeDecAll.dec_short A c n w (by rw [← hn]; exact h) (by omega)).mono ?_
    rintro e w' ⟨rfl, hb⟩
    exact ⟨rfl, hb⟩
theorem entry_form (l : List UInt8) : ∃ (q : Int × Int × ByteArray) (er : Int),
    (∀ A c n w, l.length = n → n ≤ c → c ≤ 9223372036854775807 → Bytes w A l → Calls Try.prog 34 #[.slice A n c] w (EntriesBoth.DecBoth q er w)) ∧ (er = 0 → EOk q.1 q.2.1 q.2.2 ∧ entryOf q.1 q.2.1 q.2.2 = l) := by
  by_cases h : l.length = 64
  · by_cases hs : EntryDec.IsEntry l
    · refine ⟨((fieldAt l 0 4 : Nat), (fieldAt l 4 1 : Nat), text (EntryDec.nameOf l)), 0, fun A c n w hn hc hc9 H => ?_, fun _ => hs.2⟩
      obtain rfl : n = 64 := hn.symm.trans h
      refine (EntryDec.dec_full A c l w h hc hc9 H).mono ?_
      rintro e w' ⟨rfl, hb⟩
      exact ⟨by rw [EntryDec.entryDec_yes h hs]; rfl, hb⟩
    · refine ⟨(0, 0, ⟨#[]⟩), 6, fun A c n w hn hc hc9 H => ?_, fun e => absurd e (by decide)⟩
      obtain rfl : n = 64 := hn.symm.trans h
      refine (EntryDec.dec_full A c l w h hc hc9 H).mono ?_
      rintro e w' ⟨rfl, hb⟩
      exact ⟨by rw [EntryDec.entryDec_no h hs], hb⟩
  · refine ⟨(0, 0, ⟨#[]⟩), 2, fun A c n w hn hc hc9 H => ?_, fun e => absurd e (by decide)⟩
    refine (EntryDec.dec_short A c n w (by rw [← hn]; exact h) (by omega)).mono ?_
    rintro e w' ⟨rfl, hb⟩
    exact ⟨rfl, hb⟩
def SuperIs (x y z : Int) (l : List UInt8) : Prop := ∃ a b c : Nat, x = a ∧ y = b ∧ z = c ∧ Fits a b c ∧ superBytes a b c = l
theorem super_form (l : List UInt8) : ∃ (x y z er : Int),
    (∀ A c n w, l.length = n → n ≤ c → c ≤ 9223372036854775807 → Bytes w A l → Calls Try.prog 23 #[.slice A n c] w (SupersBoth.DecBoth x y z er w)) ∧ (er = 0 → SuperIs x y z l) := by
  by_cases h : l.length = 512
  · by_cases hs : IsSuper l
    · refine ⟨(fieldAt l 8 4 : Nat), (fieldAt l 12 4 : Nat), (fieldAt l 16 4 : Nat), 0, fun A c n w hn hc hc9 H => ?_, fun _ => ⟨_, _, _, rfl, rfl, rfl, hs⟩⟩
      obtain rfl : n = 512 := hn.symm.trans h
      refine (SuperDec.dec_full A c l w h hc hc9 H).mono ?_
      rintro e w' ⟨rfl, hb⟩
      exact ⟨by rw [decoded_yes h hs], hb⟩
    · refine ⟨0, 0, 0, 6, fun A c n w hn hc hc9 H => ?_, fun e => absurd e (by decide)⟩
      obtain rfl : n = 512 := hn.symm.trans h
      refine (SuperDec.dec_full A c l w h hc hc9 H).mono ?_
      rintro e w' ⟨rfl, hb⟩
      exact ⟨by rw [decoded_no h hs], hb⟩
  · refine ⟨0, 0, 0, 2, fun A c n w hn hc hc9 H => ?_, fun e => absurd e (by decide)⟩
    refine (SuperDec.dec_short A c n w (by rw [← hn]; exact h) (by omega)).mono ?_
    rintro e w' ⟨rfl, hb⟩
    exact ⟨rfl, hb⟩
/-- 128 zeros are the empty node -/
theorem node_zeros (A : Option Addr) (w : World) (H : Hid (Bytes w A (zs 128))) : Calls Try.prog 28 #[.slice A 128 128] w (NodesBoth.DecBoth (fun _ => 0) 0 w) := by
  have hz : NOk (fun _ => 0) := .inl (fun _ _ => rfl)
  have e : nodeOf (fun _ => 0) = zs 128 := if_pos (fun _ _ => rfl)
  have hs : IsNode (zs 128) := by have := isNode_of hz; rwa [e] at this
  have hr := readN_of hz
  rw [e] at hr
  refine (NodeDecAll.dec_full A 128 (zs 128) w (zs_length _) (by decide) (by decide) H).mono ?_
  rintro e' w' ⟨rfl, hb⟩
  exact ⟨by rw [NodeDecAll.nodeDec_yes (zs_length _) hs, ncs_congr hr], hb⟩
/-- 512 zeros are no superblock -/
theorem super_zeros (A : Option Addr) (w : World) (H : Hid (Bytes w A (zs 512))) : Calls Try.prog 23 #[.slice A 512 512] w (SupersBoth.DecBoth 0 0 0 6 w) := by
  have hs : ¬ IsSuper (zs 512) := fun h => by
    have h1 := h.1
    have hz : ∀ p n, fieldAt (zs 512) p n = 0 := fun p n => by
      unfold fieldAt zs
      rw [List.drop_replicate, List.take_replicate, leVal_zeros]
    rw [hz, hz, hz] at h1
    exact absurd h1.1 (by decide)
  refine (SuperDec.dec_full A 512 (zs 512) w (zs_length _) (by decide) (by decide) H).mono ?_
  rintro e' w' ⟨rfl, hb⟩
  exact ⟨by rw [decoded_no (zs_length _) hs], hb⟩
theorem enc_node (f : Nat → Int) (w : World) (h : NOk f) : Calls Try.prog 29 #[.agg (ncs f)] w (SupersBoth.EncPost 128 (nodeOf f) 0 w) := by
  refine (NodeEnc.enc_ok f w h).mono ?_
  rintro e w' ⟨B, rfl, hm⟩
  exact ⟨_, rfl, hm.2.1, Bytes.own' hm.2.2⟩
theorem enc_entry (q : Int × Int × ByteArray) (w : World) (h : EOk q.1 q.2.1 q.2.2) : Calls Try.prog 35 #[.agg #[.int .i64 q.1, .int .i64 q.2.1, .string q.2.2, .int .i64 0]] w (SupersBoth.EncPost 64 (entryOf q.1 q.2.1 q.2.2) 0 w) := by
  refine (EntryEnc.enc_ok q.1 q.2.1 q.2.2 0 w h).mono ?_
  rintro e w' ⟨B, rfl, hm⟩
  exact ⟨_, rfl, hm.2.1, Bytes.own' hm.2.2⟩
theorem enc_super (x y z : Int) (l : List UInt8) (w : World) (h : SuperIs x y z l) : Calls Try.prog 24 #[.agg #[.int .i64 x, .int .i64 y, .int .i64 z]] w (SupersBoth.EncPost 512 l 0 w) := by
  obtain ⟨a, b, c, rfl, rfl, rfl, hf, rfl⟩ := h
  refine (enc_yes a b c w hf).mono ?_
  rintro e w' ⟨B, rfl, hm⟩
  exact ⟨_, rfl, hm.2.1, Bytes.own' hm.2.2⟩
theorem same_li (A A' : Option Addr) (c c' n n' : Nat) (l l' : List UInt8) (w : World) (hn : l.length = n) (hn' : l'.length = n') (hl : n ≤ 9223372036854775807) (he : l' = l) (H : Hid (Bytes w A l)) (H' : Hid (Bytes w A' l')) :
    Calls Try.prog 26 #[.slice A n c, .slice A' n' c'] w fun e w' => e = .returned (.bool true) ∧ Still w w' := by
  subst hn hn' he
  refine (same_any A A' c c' l' l' w hl H H').mono ?_
  rintro e w' ⟨rfl, h⟩
  exact ⟨by simp, h⟩
end Go.Proofs.Ytefmihbjboacdaa.Forms
