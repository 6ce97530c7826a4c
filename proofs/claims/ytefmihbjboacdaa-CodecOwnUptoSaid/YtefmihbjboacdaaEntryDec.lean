/- DecodeEntry: the entry of which these are the bytes, if there is one; else ErrCorrupt; ErrLength where the length is wrong. -/
import Derived.Test.YtefmihbjboacdaaEntryEnc
import Derived.Test.YtefmihbjboacdaaSuperDec
namespace Go.Proofs.Ytefmihbjboacdaa.EntryDec
open Go.ChangeShapes Go.WideShapes Go.ChangeAt Go.RowKit
open Go.Proofs.Ytefmihbjboacdaa.Kit Go.Proofs.Ytefmihbjboacdaa.Crc Go.Proofs.Ytefmihbjboacdaa.Reads Go.Proofs.Ytefmihbjboacdaa.Copy Go.Proofs.Ytefmihbjboacdaa.Lay Go.Proofs.Ytefmihbjboacdaa.Writer Go.Proofs.Ytefmihbjboacdaa.Reader Go.Proofs.Ytefmihbjboacdaa.Guard Go.Proofs.Ytefmihbjboacdaa.SuperEnc Go.Proofs.Ytefmihbjboacdaa.SuperDec Go.Proofs.Ytefmihbjboacdaa.Equal Go.Proofs.Ytefmihbjboacdaa.Lists Go.Proofs.Ytefmihbjboacdaa.Name Go.Proofs.Ytefmihbjboacdaa.EntryEnc
set_option linter.unusedVariables false

/-- do these fields make these bytes? -/
def Encodes (n k : Nat) (s : List UInt8) (l : List UInt8) : Prop := EOk n k (text s) ∧ entryOf n k (text s) = l
instance (n k : Nat) (s l : List UInt8) : Decidable (Encodes n k s l) := by unfold Encodes; infer_instance
def nameOf (l : List UInt8) : List UInt8 := (l.drop 6).take (fieldAt l 5 1)
def IsEntry (l : List UInt8) : Prop := fieldAt l 5 1 ≤ 54 ∧ Encodes (fieldAt l 0 4) (fieldAt l 4 1) (nameOf l) l
instance (l : List UInt8) : Decidable (IsEntry l) := by unfold IsEntry; infer_instance
theorem text_data (l : List UInt8) : (text l).data.toList = l := by simp [text]
theorem encodes_bounds {n k : Nat} {s l : List UInt8} (h : Encodes n k s l) : n ≤ 1024 ∧ k ≤ 3 := by
  have := eok_bounds h.1
  omega
theorem not_e1 {l : List UInt8} (h : ¬ fieldAt l 0 4 ≤ 1024) : ¬ IsEntry l := fun hs => h (encodes_bounds hs.2).1
theorem not_e2 {l : List UInt8} (h : ¬ fieldAt l 4 1 ≤ 3) : ¬ IsEntry l := fun hs => h (encodes_bounds hs.2).2
theorem not_e3 {l : List UInt8} (h : ¬ fieldAt l 5 1 ≤ 54) : ¬ IsEntry l := fun hs => h hs.1

def ents (n k : Int) (s : ByteArray) : Array Value := #[.int .i64 n, .int .i64 k, .string s, .int .i64 0]
def EPost (w1 : World) (P4 : Nat) (l : List UInt8) (e : Ending) (w2 : World) : Prop :=
  (e = .returned (.tuple #[]) ∧ IsEntry l ∧ Blk w2 P4 (ents (fieldAt l 0 4 : Nat) (fieldAt l 4 1 : Nat) (text (nameOf l))) 61 ∧ Chg (fun k => k = P4) w1 w2) ∨
  (Broken e ∧ ¬ IsEntry l ∧ Chg (fun k => k = P4) w1 w2)

set_option maxRecDepth 100000 in
set_option maxHeartbeats 1600000 in
theorem take_zero (R : Nat) (ad : Addr) (n c place : Nat) (w : World) (hn : n ≤ 140737488351232) (hc : n ≤ c) (hc9 : c ≤ 9223372036854775807) (hk : place ≤ n) (H : Hid (Rd w R (some ad) n c place)) :
    Calls Try.prog 48 #[.pointer (some ⟨R, 0, none⟩), .int .i64 0] w fun e w' => ∃ A, e = .returned (.slice A 0 0) ∧ Hid (Only R w w' ∧ Rd w' R (some ad) n c place) := by
  have c0 : w.cell? ⟨R, 0, none⟩ = some (.slice (some ad) n c) := (H.out.cell 0).trans rfl
  have c1 : w.cell? ⟨R, 1, none⟩ = some (.int .i64 (place : Int)) := (H.out.cell 1).trans rfl
  have f1 := H.out.frozen 1
  have g1 : decide ((n : Int) - (place : Int) < 0) = false := decide_eq_false (by omega)
  have i0 : (0 : Int) ≤ (n : Int) - (place : Int) := by omega
  have i1 : (n : Int) ≤ 9223372036854775807 := by omega
  have i2 : (place : Int) ≤ (c : Int) := by omega
  have i3 : (place : Int) ≤ (place : Int) := by omega
  have HN := Lib.hid hn
  have HK := Lib.hid hk
  clear hn hk
  go_enter Try.func48, Try.ntmps48
  go_upto_region 3 with (go_quiet (fail))
  go_wp2_with fail
  go_quiet (fail)
  go_wp2_with fail
  go_ret
  refine ⟨_, rfl, ?_, ?_⟩
  · exact (((Only.refl R w).drewN _).setCell ⟨R, 1, none⟩ rfl _).drewN _
  · exact H.out.put 1 (.int .i64 (place : Int))

/-- what the literal holds on to once it has written into the captured entry -/
structure Mid (w1 w : World) (P1 P4 R : Nat) (A : Option Addr) (c : Nat) (l : List UInt8) (cs : Array Value) (p : Nat) : Prop where
  hR : w1.heap.size ≤ R
  h1 : P1 < w1.heap.size
  h4 : P4 < w1.heap.size
  chg : Chg (fun k => k = P4) w1 w
  b1 : Blk w P1 #[.slice A 64 c] 34
  b4 : Blk w P4 cs 61
  by' : Bytes w A l
  hA : ∀ ad, A = some ad → ad.block ≠ R
  rd : Rd w R A l.length c p
theorem chg_only {w1 w w' : World} {P4 R : Nat} (h : Chg (fun k => k = P4) w1 w) (ho : Only R w w') (hR : w1.heap.size ≤ R) : Chg (fun k => k = P4) w1 w' :=
  ⟨ho.os.trans h.os, ho.tape.trans h.tape, ho.output.trans h.output, by rw [ho.size]; exact h.size, fun k hk hn => (ho.block k (by omega)).trans (h.block k hk hn)⟩
theorem only_chg {R : Nat} {w w' : World} (h : Only R w w') : Chg (fun k => k = R) w w' := ⟨h.os, h.tape, h.output, by rw [h.size]; exact Nat.le_refl _, fun k _ hn => h.block k hn⟩
theorem Mid.only {w1 w w' : World} {P1 P4 R : Nat} {A : Option Addr} {c : Nat} {l : List UInt8} {cs : Array Value} {p q : Nat} (h : Mid w1 w P1 P4 R A c l cs p) (ho : Only R w w') (hr : Rd w' R A l.length c q) : Mid w1 w' P1 P4 R A c l cs q where
  hR := h.hR
  h1 := h.h1
  h4 := h.h4
  chg := chg_only h.chg ho h.hR
  b1 := ho.blk h.b1 (by have := h.hR; have := h.h1; omega)
  b4 := ho.blk h.b4 (by have := h.hR; have := h.h4; omega)
  by' := bytes_chg h.by' (only_chg ho) h.hA
  hA := h.hA
  rd := hr
theorem mid_number {w1 w : World} {P1 P4 R : Nat} {A : Option Addr} {c : Nat} {l : List UInt8} {cs : Array Value} {p : Nat} (h : Hid (Mid w1 w P1 P4 R A c l cs p)) (q m : Int) (n most : Nat) (hq : q = (n : Int)) (hm : m = (most : Int)) (hl : l.length ≤ 140737488351232) (hc : l.length ≤ c) (hc9 : c ≤ 9223372036854775807) (hk : p + n ≤ l.length) (hn0 : 0 < n) (hn8 : n ≤ 8) (hmm : most ≤ 9223372036854775807) :
    Calls Try.prog 49 #[.pointer (some ⟨R, 0, none⟩), .int .i64 q, .int .i64 m] w fun e w' => (fieldAt l p n ≤ most ∧ e = .returned (.int .i64 (fieldAt l p n : Nat)) ∧ Hid (Mid w1 w' P1 P4 R A c l cs (p + n))) ∨ (¬ fieldAt l p n ≤ most ∧ Broken e ∧ Hid (Chg (fun k => k = P4) w1 w')) := by
  subst hq hm
  refine (number_any R A c p n most l w hl hc hc9 (by omega) hn0 hn8 hmm h.out.rd h.out.by' h.out.hA).mono ?_
  rintro e w' (⟨_, h2, h3, h4⟩ | ⟨h2, h3, h4⟩)
  · exact .inl ⟨h2, h3, h.out.only h4.out.1 h4.out.2⟩
  · exact .inr ⟨fun hh => h2 ⟨hk, hh⟩, h3, chg_only h.out.chg h4.out h.out.hR⟩
theorem mid_take {w1 w : World} {P1 P4 R : Nat} {A : Option Addr} {c : Nat} {l : List UInt8} {cs : Array Value} {p : Nat} (h : Hid (Mid w1 w P1 P4 R A c l cs p)) (q : Int) (k : Nat) (hq : q = (k : Int)) (hl : l.length ≤ 140737488351232) (hl0 : 0 < l.length) (hc : l.length ≤ c) (hc9 : c ≤ 9223372036854775807) (hk : p + k ≤ l.length) (hk9 : k ≤ 1000) :
    Calls Try.prog 48 #[.pointer (some ⟨R, 0, none⟩), .int .i64 q] w fun e w' => ∃ A' c', e = .returned (.slice A' k c') ∧ Hid (Mid w1 w' P1 P4 R A c l cs (p + k) ∧ Bytes w' A' ((l.drop p).take k)) := by
  subst hq
  obtain ⟨ad, rfl, _⟩ := h.out.by' 0 hl0
  by_cases hk0 : k = 0
  · subst hk0
    refine (take_zero R ad l.length c p w hl hc hc9 (by omega) h.out.rd).mono ?_
    rintro e w' ⟨A', rfl, h1⟩
    exact ⟨A', 0, rfl, h.out.only h1.out.1 h1.out.2, by rw [List.take_zero]; exact Bytes.nil _ _⟩
  · refine (take_yes R ad l.length c p k w hl hc hc9 hk (by omega) hk9 h.out.rd).mono ?_
    rintro e w' ⟨rfl, h1⟩
    refine ⟨_, _, rfl, h.out.only h1.out.1 h1.out.2, ?_⟩
    exact bytes_sub h.out.by' p k h1.out.1 (fun _ => h.out.hA ad rfl)

set_option maxRecDepth 100000 in
set_option maxHeartbeats 3200000 in
theorem clo_any (P1 P4 : Nat) (A : Option Addr) (c : Nat) (l : List UInt8) (w1 : World) (hl : l.length = 64) (hc : 64 ≤ c) (hc9 : c ≤ 9223372036854775807) (hne : P1 ≠ P4)
    (hP1 : Hid (Blk w1 P1 #[.slice A 64 c] 34)) (hP4 : Hid (Blk w1 P4 (ents 0 0 ⟨#[]⟩) 61)) (HB : Hid (Bytes w1 A l)) (hA : ∀ ad, A = some ad → ad.block ≠ P4) :
    Calls Try.prog 62 #[.pointer (some ⟨P1, 0, none⟩), .pointer (some ⟨P4, 0, none⟩)] w1 (EPost w1 P4 l) := by
  have HA := Lib.hid hA
  have HL := Lib.hid hl
  have HNE := Lib.hid hne
  have HC := Lib.hid (And.intro hc hc9)
  clear hA hl hne hc hc9
  have p1 : w1.cell? ⟨P1, 0, none⟩ = some (.slice A 64 c) := (hP1.out.cell 0).trans rfl
  go_enter Try.func62, Try.ntmps62
  go_upto_region 1 with (fail)
  refine gen_world (fun w => Hid (Held w1 w P1 P4 w1.heap.size A c l 0)) ?_ ?_
  · refine ⟨Nat.le_refl _, hP1.out.lt, hP4.out.lt, HNE.out, (Below.refl _ _).alloc (Nat.le_refl _) _, ?_⟩
    unfold Rd
    rw [HL.out]
    exact Blk.new _ _ _
  obtain ⟨R, hR⟩ : ∃ R, w1.heap.size = R := ⟨_, rfl⟩
  rw [hR]
  have HR := Lib.hid hR
  clear hR p1
  rintro w h
  go_wp2_with fail
  refine (held_number h HB 4 1024 4 1024 rfl rfl (by rw [HL.out]; decide) (by rw [HL.out]; exact HC.out.1) HC.out.2 (by rw [HL.out]; decide) (by decide) (by decide) (by decide)).mono ?_
  rintro e w' (⟨hf1, rfl, h'⟩ | ⟨hf, he, hb⟩)
  case inr =>
    unfold Broken at he
    subst he
    exact ⟨rfl, .inr ⟨rfl, not_e1 hf, Chg.of_below hb⟩⟩
  clear h
  have h := h'
  clear h'
  have F1 := Lib.hid hf1
  clear hf1
  go_wp2_with fail
  refine (held_number h HB 1 3 1 3 rfl rfl (by rw [HL.out]; decide) (by rw [HL.out]; exact HC.out.1) HC.out.2 (by rw [HL.out]; decide) (by decide) (by decide) (by decide)).mono ?_
  rintro e w' (⟨hf2, rfl, h'⟩ | ⟨hf, he, hb⟩)
  case inr =>
    unfold Broken at he
    subst he
    exact ⟨rfl, .inr ⟨rfl, not_e2 hf, Chg.of_below hb⟩⟩
  clear h
  have h := h'
  clear h'
  have F2 := Lib.hid hf2
  clear hf2
  have G1 : Hid (fieldAt l 0 4 ≤ 1024) := F1
  have G2 : Hid (fieldAt l 4 1 ≤ 3) := F2
  clear F1 F2
  simp only [Nat.zero_add]
  obtain ⟨fa, hfa⟩ : ∃ x, fieldAt l 0 4 = x := ⟨_, rfl⟩
  obtain ⟨fb, hfb⟩ : ∃ x, fieldAt l 4 1 = x := ⟨_, rfl⟩
  rw [hfa, hfb]
  have FA := Lib.hid hfa
  have FB := Lib.hid hfb
  clear hfa hfb
  have hk4 := hP4.out.below h.out.2.2.2.2.1 h.out.2.2.1
  have c0 : w'.cell? ⟨P4, 0, none⟩ = some (.int .i64 0) := (hk4.cell 0).trans rfl
  have c1 : w'.cell? ⟨P4, 1, none⟩ = some (.int .i64 0) := (hk4.cell 1).trans rfl
  have c2 : w'.cell? ⟨P4, 2, none⟩ = some (.string ⟨#[]⟩) := (hk4.cell 2).trans rfl
  have c3 : w'.cell? ⟨P4, 3, none⟩ = some (.int .i64 0) := (hk4.cell 3).trans rfl
  have f0 := hk4.frozen
  have HK4 := Lib.hid hk4
  clear hk4
  go_upto_region 2 with (fail)
  refine gen_world (fun w2 => Hid (Mid w1 w2 P1 P4 R A c l (ents fa fb ⟨#[]⟩) 5)) ?_ ?_
  · have hb := h.out.2.2.2.2.1
    refine ⟨h.out.1, h.out.2.1, h.out.2.2.1, ?_, ?_, ?_, ?_, ?_, ?_⟩
    · exact ((((Chg.of_below hb).trans (chg_cell P4 0 _ _)).trans (chg_cell P4 1 _ _)).trans (chg_cell P4 2 _ _)).trans (chg_cell P4 3 _ _)
    · exact ((((hP1.out.below hb hP1.out.lt).far HNE.out _).far HNE.out _).far HNE.out _).far HNE.out _
    · exact (((HK4.out.put 0 _).put 1 _).put 2 _).put 3 _
    · exact bytes_far (bytes_far (bytes_far (bytes_far (HB.out.below hb) HA.out 0 _) HA.out 1 _) HA.out 2 _) HA.out 3 _
    · intro ad e
      subst e
      have := bytes_block HB.out (by rw [HL.out]; decide)
      have := HR.out
      omega
    · have hne : R ≠ P4 := by have := h.out.2.2.1; have := HR.out; omega
      exact (((h.out.2.2.2.2.2.far hne _).far hne _).far hne _).far hne _
  clear c0 c1 c2 c3 f0 HK4 h
  rintro w2 h2
  go_wp2_with fail
  refine (mid_number h2 1 54 1 54 rfl rfl (by rw [HL.out]; decide) (by rw [HL.out]; exact HC.out.1) HC.out.2 (by rw [HL.out]; decide) (by decide) (by decide) (by decide)).mono ?_
  rintro e w' (⟨hf1, rfl, h'⟩ | ⟨hf, he, hb⟩)
  case inr =>
    unfold Broken at he
    subst he
    exact ⟨rfl, .inr ⟨rfl, not_e3 hf, hb.out⟩⟩
  clear h2
  have h := h'
  clear h'
  have F1 := Lib.hid hf1
  clear hf1
  go_wp2_with fail
  refine (mid_take h _ (fieldAt l 5 1) rfl (by rw [HL.out]; decide) (by rw [HL.out]; decide) (by rw [HL.out]; exact HC.out.1) HC.out.2 (by rw [HL.out]; have := F1.out; omega) (by have := F1.out; omega)).mono ?_
  rintro e w3 ⟨A', c', rfl, h3⟩
  clear h
  have hnl : (nameOf l).length = fieldAt l 5 1 := by unfold nameOf; rw [List.length_take, List.length_drop, HL.out]; have := F1.out; omega
  have hcv : (convert 34 9 (.slice A' (fieldAt l 5 1) c')).run Try.prog w3 = .ok (.string (text (nameOf l))) w3 := by
    have h := string_bytes (P := Try.prog) (src := 34) (dst := 9) (c := c') Try.underlying34 Try.underlying5 Try.underlying9 h3.out.2
    rw [show ((l.drop (5 + 1)).take (fieldAt l 5 1)).length = fieldAt l 5 1 from hnl] at h
    exact h
  obtain ⟨sn, hsn⟩ : ∃ s, nameOf l = s := ⟨_, rfl⟩
  rw [hsn] at hcv
  have HSN := Lib.hid hsn
  clear hsn hnl
  generalize fieldAt l 5 1 = fm at hcv ⊢
  have c2 : w3.cell? ⟨P4, 2, none⟩ = some (.string ⟨#[]⟩) := (h3.out.1.b4.cell 2).trans rfl
  have f0 := h3.out.1.b4.frozen
  go_upto_region 3 with (fail)
  refine gen_world (fun w2 => Hid (Blk w2 P4 (ents fa fb (text sn)) 61 ∧ Blk w2 P1 #[.slice A 64 c] 34 ∧ Bytes w2 A l ∧ Chg (fun k => k = P4) w1 w2)) ?_ ?_
  · exact ⟨h3.out.1.b4.put 2 _, h3.out.1.b1.far HNE.out _, bytes_far h3.out.1.by' HA.out 2 _, h3.out.1.chg.trans (chg_cell P4 2 _ _)⟩
  clear c2 f0 h3 hcv
  rintro w4 h4
  have c0 : w4.cell? ⟨P4, 0, none⟩ = some (.int .i64 fa) := (h4.out.1.cell 0).trans rfl
  have c1 : w4.cell? ⟨P4, 1, none⟩ = some (.int .i64 fb) := (h4.out.1.cell 1).trans rfl
  have c2 : w4.cell? ⟨P4, 2, none⟩ = some (.string (text sn)) := (h4.out.1.cell 2).trans rfl
  have c3 : w4.cell? ⟨P4, 3, none⟩ = some (.int .i64 0) := (h4.out.1.cell 3).trans rfl
  by_cases hfit : EOk fa fb (text sn)
  · go_wp2_with fail
    refine (enc_ok fa fb (text sn) 0 _ hfit).mono ?_
    rintro e w5 ⟨D, rfl, hD, hb5, hk5⟩
    have HK5 := Lib.hid hk5
    have HB5 := Lib.hid hb5
    have HFIT := Lib.hid hfit
    clear hD hb5 hk5 c0 c1 c2 c3 hfit
    have p1 : w5.cell? ⟨P1, 0, none⟩ = some (.slice A 64 c) := ((h4.out.2.1.below HB5.out h4.out.2.1.lt).cell 0).trans rfl
    go_wp2_with fail
    refine (equal_any (some ⟨D, 0, none⟩) A 64 64 64 c (entryOf fa fb (text sn)) l _ (entryOf_length HFIT.out) HL.out (Bytes.own' HK5.out) (h4.out.2.2.1.below HB5.out)).mono ?_
    have hch : Chg (fun k => k = P4) w1 w5 := h4.out.2.2.2.trans (Chg.of_below HB5.out)
    have HCH := Lib.hid hch
    clear hch
    by_cases heq : entryOf fa fb (text sn) = l
    · have hs : IsEntry l := by
        unfold IsEntry
        rw [FA.out, FB.out, HSN.out]
        exact ⟨F1.out, HFIT.out, heq⟩
      have HS := Lib.hid hs
      rw [decide_eq_true heq]
      clear hs heq
      rintro e w6 ⟨rfl, rfl⟩
      go_wp2_with fail
      refine (fits_yes _).mono ?_
      rintro e w7 ⟨rfl, rfl⟩
      go_wp2_with fail
      go_end0
      refine .inl ⟨rfl, HS.out, ?_, HCH.out⟩
      rw [FA.out, FB.out, HSN.out]
      exact h4.out.1.below HB5.out h4.out.1.lt
    · have hs : ¬ IsEntry l := fun h => by
        have h2 := h.2.2
        rw [FA.out, FB.out, HSN.out] at h2
        exact heq h2
      have HS := Lib.hid hs
      rw [decide_eq_false heq]
      clear hs heq
      rintro e w6 ⟨rfl, rfl⟩
      go_wp2_with fail
      refine (fits_no _).mono ?_
      rintro e w7 ⟨he, rfl⟩
      unfold Broken at he
      subst he
      exact ⟨rfl, .inr ⟨rfl, HS.out, HCH.out⟩⟩
  · have hs : ¬ IsEntry l := fun h => by
      have h2 := h.2.1
      rw [FA.out, FB.out, HSN.out] at h2
      exact hfit h2
    have HS := Lib.hid hs
    clear hs
    go_wp2_with fail
    refine (enc_bad fa fb (text sn) 0 _ hfit).mono ?_
    rintro e w5 ⟨rfl, hb5⟩
    have HB5 := Lib.hid hb5
    clear hb5 c0 c1 c2 c3 hfit
    go_wp2_with fail
    refine (fits_no _).mono ?_
    rintro e w7 ⟨he, rfl⟩
    unfold Broken at he
    subst he
    exact ⟨rfl, .inr ⟨rfl, HS.out, h4.out.2.2.2.trans (Chg.of_below HB5.out)⟩⟩

/-- what DecodeEntry answers -/
def entryDec (l : List UInt8) : Value :=
  if l.length = 64 then
    if IsEntry l then .tuple #[.agg (ents (fieldAt l 0 4 : Nat) (fieldAt l 4 1 : Nat) (text (nameOf l))), .int .i64 0]
    else .tuple #[.agg (ents 0 0 ⟨#[]⟩), .int .i64 6]
  else .tuple #[.agg (ents 0 0 ⟨#[]⟩), .int .i64 2]

set_option maxRecDepth 100000 in
set_option maxHeartbeats 3200000 in
theorem dec_short (A : Option Addr) (c n : Nat) (w : World) (hn : ¬ n = 64) (hn2 : n ≤ 9223372036854775807) :
    Calls Try.prog 34 #[.slice A n c] w fun e w' => e = .returned (.tuple #[.agg #[.int .i64 0, .int .i64 0, .string ⟨#[]⟩, .int .i64 0], .int .i64 2]) ∧ Below w.heap.size w w' := by
  have t0 : ((n : Int) != 64) = true := by rw [bne_iff_ne]; omega
  have HN := Lib.hid hn
  clear hn
  go_enter Try.func34, Try.ntmps34
  go_wp2_with fail
  refine bodyPost_ret (v := .tuple #[.agg #[.int .i64 0, .int .i64 0, .string ⟨#[]⟩, .int .i64 0], .int .i64 2]) (by simp [results, Try.results34, go_sem]) rfl ⟨rfl, ?_⟩
  repeat (first | exact Below.refl _ _ | refine Below.drew ?_ | refine Below.alloc ?_ (by first | (simp; done) | (simp; omega)) _ | refine Below.setCell ?_ (by first | (simp; done) | (simp; omega)) _)

def EDPost (w : World) (l : List UInt8) (e : Ending) (w' : World) : Prop := e = .returned (entryDec l) ∧ Below w.heap.size w w'
theorem entryDec_yes {l : List UInt8} (hl : l.length = 64) (hs : IsEntry l) : entryDec l = .tuple #[.agg (ents (fieldAt l 0 4 : Nat) (fieldAt l 4 1 : Nat) (text (nameOf l))), .int .i64 0] := by
  unfold entryDec
  rw [if_pos hl, if_pos hs]
theorem entryDec_no {l : List UInt8} (hl : l.length = 64) (hs : ¬ IsEntry l) : entryDec l = .tuple #[.agg #[.int .i64 0, .int .i64 0, .string ⟨#[]⟩, .int .i64 0], .int .i64 6] := by
  unfold entryDec
  rw [if_pos hl, if_neg hs]
  rfl
theorem entryDec_len {l : List UInt8} (hl : ¬ l.length = 64) : entryDec l = .tuple #[.agg #[.int .i64 0, .int .i64 0, .string ⟨#[]⟩, .int .i64 0], .int .i64 2] := by
  unfold entryDec
  rw [if_neg hl]
  rfl

set_option maxRecDepth 100000 in
set_option maxHeartbeats 3200000 in
theorem dec_full (A : Option Addr) (c : Nat) (l : List UInt8) (w : World) (hl : l.length = 64) (hc : 64 ≤ c) (hc9 : c ≤ 9223372036854775807) (HB : Hid (Bytes w A l)) :
    Calls Try.prog 34 #[.slice A 64 c] w (EDPost w l) := by
  have hmf : ∀ (fn : Fn) (first cap : Array Value) (w : World), (Instr.makeFunc fn first cap).run Try.prog w = .ok (.func fn first cap) w := fun _ _ _ _ => rfl
  have HL := Lib.hid hl
  have HC := Lib.hid (And.intro hc hc9)
  clear hl hc hc9
  go_enter Try.func34, Try.ntmps34
  go_upto_region 4 with (fail)
  obtain ⟨P, hP⟩ : ∃ P, w.heap.size = P := ⟨_, rfl⟩
  refine gen_world (fun w1 => Hid (Below w.heap.size w w1 ∧ Blk w1 P #[.slice A 64 c] 34 ∧ Blk w1 (P + 1) (ents 0 0 ⟨#[]⟩) 61 ∧ Blk w1 (P + 1 + 1) (ents 0 0 ⟨#[]⟩) 61 ∧ Bytes w1 A l ∧ w1.heap.size = P + 3)) ?_ ?_
  · subst hP
    have hb : Below w.heap.size w (((w.alloc (.cells #[.slice A 64 c] 34)).alloc (.cells (ents 0 0 ⟨#[]⟩) 61)).alloc (.cells (ents 0 0 ⟨#[]⟩) 61)) :=
      (((Below.refl _ _).alloc (Nat.le_refl _) _).alloc (by simp) _).alloc (by simp; omega) _
    refine ⟨hb, ((Blk.new w _ _).alloc _).alloc _, ?_, ?_, HB.out.below hb, by simp⟩
    · have h := (Blk.new (w.alloc (.cells #[.slice A 64 c] 34)) (ents 0 0 ⟨#[]⟩) 61).alloc (.cells (ents 0 0 ⟨#[]⟩) 61)
      simpa [ents] using h
    · have h := Blk.new ((w.alloc (.cells #[.slice A 64 c] 34)).alloc (.cells (ents 0 0 ⟨#[]⟩) 61)) (ents 0 0 ⟨#[]⟩) 61
      simpa [ents] using h
  rw [hP]
  have HP := Lib.hid hP
  clear hP
  rintro w1 h1
  have hA : ∀ ad, A = some ad → ad.block ≠ P + 1 + 1 := fun ad e => by
    subst e
    have h2 := bytes_block HB.out (by rw [HL.out]; decide)
    have := HP.out
    omega
  have HA := Lib.hid hA
  clear hA
  go_wp2_with fail
  refine (guarded_any 62 _ w1 (fun w2 => IsEntry l ∧ Blk w2 (P + 1 + 1) (ents (fieldAt l 0 4 : Nat) (fieldAt l 4 1 : Nat) (text (nameOf l))) 61 ∧ Chg (fun k => k = P + 1 + 1) w1 w2) (fun w2 => ¬ IsEntry l ∧ Chg (fun k => k = P + 1 + 1) w1 w2) (enter62 _) ?_).mono ?_
  · intro wq hbq hkq
    refine (clo_any P (P + 1 + 1) A c l wq HL.out HC.out.1 HC.out.2 (by omega) (h1.out.2.1.below hbq h1.out.2.1.lt) (h1.out.2.2.2.1.below hbq h1.out.2.2.2.1.lt) (h1.out.2.2.2.2.1.below hbq) HA.out).mono ?_
    have hsz := h1.out.2.2.2.2.2
    rintro e w2 (⟨rfl, hs, hk, hch⟩ | ⟨he, hs, hch⟩)
    · exact .inl ⟨rfl, hch.blk hkq (by omega), hs, hk, (Chg.of_below hbq).trans hch⟩
    · exact .inr ⟨he, hch.blk hkq (by omega), hs, (Chg.of_below hbq).trans hch⟩
  have hsz := h1.out.2.2.2.2.2
  have HSZ := Lib.hid hsz
  rw [hsz]
  clear hsz
  rintro e w' (⟨rfl, w2, ⟨hs, hk, hch⟩, hg⟩ | ⟨rfl, w2, ⟨hs, hch⟩, hg⟩)
  · have hk2 : Blk w' (P + 1 + 1) (ents (fieldAt l 0 4 : Nat) (fieldAt l 4 1 : Nat) (text (nameOf l))) 61 := hg.blk hk (by omega)
    have hk1 : Blk w' (P + 1) (ents 0 0 ⟨#[]⟩) 61 := hg.blk (hch.blk h1.out.2.2.1 (by omega)) (by have := hk.lt; have := HSZ.out; omega)
    have HV := Lib.hid (entryDec_yes HL.out hs)
    have HF := Lib.hid (And.intro hch hg)
    clear hs hk hch hg
    generalize ((fieldAt l 0 4 : Nat) : Int) = fa at *
    generalize ((fieldAt l 4 1 : Nat) : Int) = fb at *
    generalize text (nameOf l) = fc at *
    have c0 : w'.cell? ⟨P + 1 + 1, 0, none⟩ = some (.int .i64 fa) := (hk2.cell 0).trans rfl
    have c1 : w'.cell? ⟨P + 1 + 1, 1, none⟩ = some (.int .i64 fb) := (hk2.cell 1).trans rfl
    have c2 : w'.cell? ⟨P + 1 + 1, 2, none⟩ = some (.string fc) := (hk2.cell 2).trans rfl
    have c3 : w'.cell? ⟨P + 1 + 1, 3, none⟩ = some (.int .i64 0) := (hk2.cell 3).trans rfl
    have d0 : w'.cell? ⟨P + 1, 0, none⟩ = some (.int .i64 0) := (hk1.cell 0).trans rfl
    have d1 : w'.cell? ⟨P + 1, 1, none⟩ = some (.int .i64 0) := (hk1.cell 1).trans rfl
    have d2 : w'.cell? ⟨P + 1, 2, none⟩ = some (.string ⟨#[]⟩) := (hk1.cell 2).trans rfl
    have d3 : w'.cell? ⟨P + 1, 3, none⟩ = some (.int .i64 0) := (hk1.cell 3).trans rfl
    have df := hk1.frozen
    clear hk1 hk2
    go_wp2_with fail
    refine bodyPost_ret (v := .tuple #[.agg #[.int .i64 fa, .int .i64 fb, .string fc, .int .i64 0], .int .i64 0]) (by simp [results, Try.results34, go_sem, d0, d1, d2, d3]) rfl ⟨by rw [HV.out]; rfl, ?_⟩
    have hb : Below w.heap.size w w' := by
      have e := HP.out
      subst e
      exact h1.out.1.trans ((HF.out.1.below h1.out.1.size (fun k hk => by omega)).trans (HF.out.2.below (Nat.le_trans h1.out.1.size HF.out.1.size) (fun k hk => by omega)))
    have hge : w.heap.size ≤ P + 1 := by have := HP.out; omega
    exact (((hb.setCell hge _).setCell hge _).setCell hge _).setCell hge _
  · have hk1 : Blk w' (P + 1) (ents 0 0 ⟨#[]⟩) 61 := hg.blk (hch.blk h1.out.2.2.1 (by omega)) (by omega)
    have HV := Lib.hid (entryDec_no HL.out hs)
    have HF := Lib.hid (And.intro hch hg)
    clear hs hch hg
    have d0 : w'.cell? ⟨P + 1, 0, none⟩ = some (.int .i64 0) := (hk1.cell 0).trans rfl
    have d1 : w'.cell? ⟨P + 1, 1, none⟩ = some (.int .i64 0) := (hk1.cell 1).trans rfl
    have d2 : w'.cell? ⟨P + 1, 2, none⟩ = some (.string ⟨#[]⟩) := (hk1.cell 2).trans rfl
    have d3 : w'.cell? ⟨P + 1, 3, none⟩ = some (.int .i64 0) := (hk1.cell 3).trans rfl
    have df := hk1.frozen
    clear hk1
    go_wp2_with fail
    refine bodyPost_ret (v := .tuple #[.agg #[.int .i64 0, .int .i64 0, .string ⟨#[]⟩, .int .i64 0], .int .i64 6]) (by simp [results, Try.results34, go_sem, d0, d1, d2, d3]) rfl ⟨by rw [HV.out], ?_⟩
    have hb : Below w.heap.size w w' := by
      have e := HP.out
      subst e
      exact h1.out.1.trans ((HF.out.1.below h1.out.1.size (fun k hk => by omega)).trans (HF.out.2.below (Nat.le_trans h1.out.1.size HF.out.1.size) (fun k hk => by omega)))
    have hge : w.heap.size ≤ P + 1 := by have := HP.out; omega
    exact (((hb.setCell hge _).setCell hge _).setCell hge _).setCell hge _
end Go.Proofs.Ytefmihbjboacdaa.EntryDec
