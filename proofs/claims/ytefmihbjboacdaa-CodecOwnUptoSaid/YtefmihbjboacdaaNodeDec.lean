/- DecodeNode: the node of which these are the bytes, if there is one; else ErrCorrupt; ErrLength where the length is wrong. -/
import Derived.Test.YtefmihbjboacdaaNodeEnc
import Derived.Test.YtefmihbjboacdaaEntryDec
namespace Go.Proofs.Ytefmihbjboacdaa.NodeDec
open Go.ChangeShapes Go.WideShapes Go.ChangeAt Go.RowKit
open Go.Proofs.Ytefmihbjboacdaa.Kit Go.Proofs.Ytefmihbjboacdaa.Crc Go.Proofs.Ytefmihbjboacdaa.Reads Go.Proofs.Ytefmihbjboacdaa.Copy Go.Proofs.Ytefmihbjboacdaa.Lay Go.Proofs.Ytefmihbjboacdaa.Writer Go.Proofs.Ytefmihbjboacdaa.Reader Go.Proofs.Ytefmihbjboacdaa.Guard Go.Proofs.Ytefmihbjboacdaa.SuperEnc Go.Proofs.Ytefmihbjboacdaa.SuperDec Go.Proofs.Ytefmihbjboacdaa.Equal Go.Proofs.Ytefmihbjboacdaa.Lists Go.Proofs.Ytefmihbjboacdaa.NodeLay Go.Proofs.Ytefmihbjboacdaa.NodeEnc
open Go.Proofs.Ytefmihbjboacdaa.EntryDec (chg_only only_chg)
set_option linter.unusedVariables false

def NPost (w1 : World) (P4 : Nat) (l : List UInt8) (e : Ending) (w2 : World) : Prop :=
  (e = .returned (.tuple #[]) ∧ IsNode l ∧ Blk w2 P4 (ncs (nI (readN l))) 51 ∧ Chg (fun k => k = P4) w1 w2) ∨
  (Broken e ∧ ¬ IsNode l ∧ Chg (fun k => k = P4) w1 w2)
def limit (k : Nat) : Nat := if k = 0 then 3 else if k = 1 then 64 else if k = 2 then 1024 else if k = 3 then 8459264 else 2048
theorem isNode_limit {l : List UInt8} (h : IsNode l) (k : Nat) (hk : k < 17) : readN l k ≤ limit k := by
  obtain ⟨h0, h1, h2, h3, h4, h5⟩ := nok_bounds h.1
  match k, hk with
  | 0, _ => have h := h0.2; unfold nI at h; show _ ≤ 3; omega
  | 1, _ => have h := h1.2; unfold nI at h; show _ ≤ 64; omega
  | 2, _ => have h := h2.2; unfold nI at h; show _ ≤ 1024; omega
  | 3, _ => have h := h3.2; unfold nI at h; show _ ≤ 8459264; omega
  | 4, _ => have h := h4.2; unfold nI at h; show _ ≤ 2048; omega
  | k + 5, hk =>
    have h := (h5 k (by omega)).2
    unfold nI at h
    rw [Nat.add_comm k 5]
    have e : limit (5 + k) = 2048 := by unfold limit; rw [if_neg (by omega), if_neg (by omega), if_neg (by omega), if_neg (by omega)]
    omega
theorem not_n {l : List UInt8} (k lim : Nat) (hk : k < 17) (hlim : limit k = lim) (h : ¬ fieldAt l (pos k) (wd k) ≤ lim) : ¬ IsNode l := fun hs => h (by
  have := isNode_limit hs k hk
  rw [hlim] at this
  exact this)
/-- the node so far: the first m fields read -/
def gk (l : List UInt8) (m : Nat) : Nat → Int := fun k => if k < m then (readN l k : Int) else 0
theorem gk_all (l : List UInt8) : ncs (gk l 17) = ncs (nI (readN l)) := ncs_congr (fun k hk => if_pos hk)
theorem gk_step (l : List UInt8) (m : Nat) (v : Int) (hm : m < 17) (hv : v = (readN l m : Int)) : (ncs (gk l m)).setIfInBounds m (.int .i64 v) = ncs (gk l (m + 1)) := by
  rw [ncs_set _ _ _ hm]
  refine ncs_congr (fun k hk => ?_)
  unfold fset gk
  by_cases e : k = m
  · subst e
    rw [if_pos rfl, if_pos (by omega), hv]
  · rw [if_neg e]
    by_cases h1 : k < m
    · rw [if_pos h1, if_pos (by omega)]
    · rw [if_neg h1, if_neg (by omega)]
theorem gk5 {l : List UInt8} {a b c d e : Nat} (ha : fieldAt l 0 2 = a) (hb : fieldAt l 2 2 = b) (hc : fieldAt l 4 4 = c) (hd : fieldAt l 8 8 = d) (he : fieldAt l 16 8 = e) :
    ncs (gk l 5) = #[.int .i64 a, .int .i64 b, .int .i64 c, .int .i64 d, .int .i64 e, .int .i64 0, .int .i64 0, .int .i64 0, .int .i64 0, .int .i64 0, .int .i64 0, .int .i64 0, .int .i64 0, .int .i64 0, .int .i64 0, .int .i64 0, .int .i64 0] := by
  have e0 : readN l 0 = a := ha
  have e1 : readN l 1 = b := hb
  have e2 : readN l 2 = c := hc
  have e3 : readN l 3 = d := hd
  have e4 : readN l 4 = e := he
  simp only [ncs, gk, e0, e1, e2, e3, e4]
  rfl
/-- what the literal holds on to once it has written into the captured node -/
structure MidN (w1 w : World) (P1 P4 R : Nat) (A : Option Addr) (c : Nat) (l : List UInt8) (cs : Array Value) (p : Nat) : Prop where
  hR : w1.heap.size ≤ R
  h1 : P1 < w1.heap.size
  h4 : P4 < w1.heap.size
  hne : P1 ≠ P4
  chg : Chg (fun k => k = P4) w1 w
  b1 : Blk w P1 #[.slice A 128 c] 34
  b4 : Blk w P4 cs 51
  by' : Bytes w A l
  hA : ∀ ad, A = some ad → ad.block ≠ R
  hA4 : ∀ ad, A = some ad → ad.block ≠ P4
  rd : Rd w R A l.length c p
theorem MidN.only {w1 w w' : World} {P1 P4 R : Nat} {A : Option Addr} {c : Nat} {l : List UInt8} {cs : Array Value} {p q : Nat} (h : MidN w1 w P1 P4 R A c l cs p) (ho : Only R w w') (hr : Rd w' R A l.length c q) : MidN w1 w' P1 P4 R A c l cs q where
  hR := h.hR
  h1 := h.h1
  h4 := h.h4
  hne := h.hne
  chg := chg_only h.chg ho h.hR
  b1 := ho.blk h.b1 (by have := h.hR; have := h.h1; omega)
  b4 := ho.blk h.b4 (by have := h.hR; have := h.h4; omega)
  by' := bytes_chg h.by' (only_chg ho) h.hA
  hA := h.hA
  hA4 := h.hA4
  rd := hr
theorem MidN.set {w1 w : World} {P1 P4 R : Nat} {A : Option Addr} {c : Nat} {l : List UInt8} {cs cs2 : Array Value} {p : Nat} (h : MidN w1 w P1 P4 R A c l cs p) (i : Nat) (v : Value) (he : cs.setIfInBounds i v = cs2) : MidN w1 (w.setCell ⟨P4, i, none⟩ v) P1 P4 R A c l cs2 p where
  hR := h.hR
  h1 := h.h1
  h4 := h.h4
  hne := h.hne
  chg := h.chg.trans (chg_cell P4 i _ _)
  b1 := h.b1.far h.hne _
  b4 := he ▸ h.b4.put i v
  by' := bytes_far h.by' h.hA4 i _
  hA := h.hA
  hA4 := h.hA4
  rd := h.rd.far (by have := h.hR; have := h.h4; show R ≠ P4; omega) _
theorem midn_number {w1 w : World} {P1 P4 R : Nat} {A : Option Addr} {c : Nat} {l : List UInt8} {cs : Array Value} {p : Nat} (h : Hid (MidN w1 w P1 P4 R A c l cs p)) (q m : Int) (n most : Nat) (hq : q = (n : Int)) (hm : m = (most : Int)) (hl : l.length ≤ 140737488351232) (hc : l.length ≤ c) (hc9 : c ≤ 9223372036854775807) (hk : p + n ≤ l.length) (hn0 : 0 < n) (hn8 : n ≤ 8) (hmm : most ≤ 9223372036854775807) :
    Calls Try.prog 49 #[.pointer (some ⟨R, 0, none⟩), .int .i64 q, .int .i64 m] w fun e w' => (fieldAt l p n ≤ most ∧ e = .returned (.int .i64 (fieldAt l p n : Nat)) ∧ Hid (MidN w1 w' P1 P4 R A c l cs (p + n))) ∨ (¬ fieldAt l p n ≤ most ∧ Broken e ∧ Hid (Chg (fun k => k = P4) w1 w')) := by
  subst hq hm
  refine (number_any R A c p n most l w hl hc hc9 (by omega) hn0 hn8 hmm h.out.rd h.out.by' h.out.hA).mono ?_
  rintro e w' (⟨_, h2, h3, h4⟩ | ⟨h2, h3, h4⟩)
  · exact .inl ⟨h2, h3, h.out.only h4.out.1 h4.out.2⟩
  · exact .inr ⟨fun hh => h2 ⟨hk, hh⟩, h3, chg_only h.out.chg h4.out h.out.hR⟩
/-- a pointer read at place 24 + 4 i -/
theorem ptr_number {w1 w : World} {P1 P4 R : Nat} {A : Option Addr} {c : Nat} {l : List UInt8} {cs : Array Value} {i p : Nat} (hp : p = 24 + 4 * i) (h : Hid (MidN w1 w P1 P4 R A c l cs p)) (hi : i < 12) (hl : l.length = 128) (hc : 128 ≤ c ∧ c ≤ 9223372036854775807) :
    Calls Try.prog 49 #[.pointer (some ⟨R, 0, none⟩), .int .i64 4, .int .i64 2048] w fun e w' => (e = .returned (.int .i64 (readN l (5 + i) : Nat)) ∧ Hid (MidN w1 w' P1 P4 R A c l cs (24 + 4 * (i + 1)))) ∨ (Broken e ∧ ¬ IsNode l ∧ Hid (Chg (fun k => k = P4) w1 w')) := by
  subst hp
  have e : readN l (5 + i) = fieldAt l (24 + 4 * i) 4 := by unfold readN; rw [pos_ptr, wd_ptr]
  have hlim : limit (5 + i) = 2048 := by unfold limit; rw [if_neg (by omega), if_neg (by omega), if_neg (by omega), if_neg (by omega)]
  refine (midn_number h 4 2048 4 2048 rfl rfl (by omega) (by omega) hc.2 (by omega) (by decide) (by decide) (by decide)).mono ?_
  rintro e' w' (⟨hf, rfl, h'⟩ | ⟨hf, he, hb⟩)
  · exact .inl ⟨by rw [e], h'⟩
  · exact .inr ⟨he, not_n (5 + i) 2048 (by omega) hlim (by rw [pos_ptr, wd_ptr]; exact hf), hb⟩

set_option maxRecDepth 100000 in
set_option maxHeartbeats 3200000 in
theorem clo_any (P1 P4 : Nat) (A : Option Addr) (c : Nat) (l : List UInt8) (w1 : World) (hl : l.length = 128) (hc : 128 ≤ c) (hc9 : c ≤ 9223372036854775807) (hne : P1 ≠ P4)
    (hP1 : Hid (Blk w1 P1 #[.slice A 128 c] 34)) (hP4 : Hid (Blk w1 P4 #[.int .i64 0, .int .i64 0, .int .i64 0, .int .i64 0, .int .i64 0, .int .i64 0, .int .i64 0, .int .i64 0, .int .i64 0, .int .i64 0, .int .i64 0, .int .i64 0, .int .i64 0, .int .i64 0, .int .i64 0, .int .i64 0, .int .i64 0] 51)) (HB : Hid (Bytes w1 A l)) (hA : ∀ ad, A = some ad → ad.block ≠ P4) :
    Calls Try.prog 57 #[.pointer (some ⟨P1, 0, none⟩), .pointer (some ⟨P4, 0, none⟩)] w1 (NPost w1 P4 l) := by
  have HA := Lib.hid hA
  have HL := Lib.hid hl
  have HNE := Lib.hid hne
  have HC := Lib.hid (And.intro hc hc9)
  clear hA hl hne hc hc9
  have p1 : w1.cell? ⟨P1, 0, none⟩ = some (.slice A 128 c) := (hP1.out.cell 0).trans rfl
  go_enter Try.func57, Try.ntmps57
  go_upto_region 1 with (fail)
  refine gen_world (fun w => Hid (Held w1 w P1 P4 w1.heap.size A c l 0)) ?_ ?_
  · refine ⟨Nat.le_refl _, hP1.out.lt, hP4.out.lt, HNE.out, (Below.refl _ _).alloc (Nat.le_refl _) _, ?_⟩
    unfold Rd
    rw [HL.out]
    exact Blk.new _ _ _
  obtain ⟨R, hR⟩ : ∃ R, w1.heap.size = R := ⟨_, rfl⟩
  rw [hR]
  have HR := Lib.hid hR
  clear hR p1
  rintro w h
  go_wp2_with fail
  refine (held_number h HB 2 3 2 3 rfl rfl (by rw [HL.out]; decide) (by rw [HL.out]; exact HC.out.1) HC.out.2 (by rw [HL.out]; decide) (by decide) (by decide) (by decide)).mono ?_
  rintro e w' (⟨hf0, rfl, h'⟩ | ⟨hf, he, hb⟩)
  case inr =>
    unfold Broken at he
    subst he
    exact ⟨rfl, .inr ⟨rfl, not_n 0 3 (by decide) (by decide) hf, Chg.of_below hb⟩⟩
  clear h
  have h := h'
  clear h' hf0
  go_wp2_with fail
  refine (held_number h HB 2 64 2 64 rfl rfl (by rw [HL.out]; decide) (by rw [HL.out]; exact HC.out.1) HC.out.2 (by rw [HL.out]; decide) (by decide) (by decide) (by decide)).mono ?_
  rintro e w' (⟨hf1, rfl, h'⟩ | ⟨hf, he, hb⟩)
  case inr =>
    unfold Broken at he
    subst he
    exact ⟨rfl, .inr ⟨rfl, not_n 1 64 (by decide) (by decide) hf, Chg.of_below hb⟩⟩
  clear h
  have h := h'
  clear h' hf1
  go_wp2_with fail
  refine (held_number h HB 4 1024 4 1024 rfl rfl (by rw [HL.out]; decide) (by rw [HL.out]; exact HC.out.1) HC.out.2 (by rw [HL.out]; decide) (by decide) (by decide) (by decide)).mono ?_
  rintro e w' (⟨hf2, rfl, h'⟩ | ⟨hf, he, hb⟩)
  case inr =>
    unfold Broken at he
    subst he
    exact ⟨rfl, .inr ⟨rfl, not_n 2 1024 (by decide) (by decide) hf, Chg.of_below hb⟩⟩
  clear h
  have h := h'
  clear h' hf2
  go_wp2_with fail
  refine (held_number h HB 8 8459264 8 8459264 rfl rfl (by rw [HL.out]; decide) (by rw [HL.out]; exact HC.out.1) HC.out.2 (by rw [HL.out]; decide) (by decide) (by decide) (by decide)).mono ?_
  rintro e w' (⟨hf3, rfl, h'⟩ | ⟨hf, he, hb⟩)
  case inr =>
    unfold Broken at he
    subst he
    exact ⟨rfl, .inr ⟨rfl, not_n 3 8459264 (by decide) (by decide) hf, Chg.of_below hb⟩⟩
  clear h
  have h := h'
  clear h' hf3
  go_wp2_with fail
  refine (held_number h HB 8 2048 8 2048 rfl rfl (by rw [HL.out]; decide) (by rw [HL.out]; exact HC.out.1) HC.out.2 (by rw [HL.out]; decide) (by decide) (by decide) (by decide)).mono ?_
  rintro e w' (⟨hf4, rfl, h'⟩ | ⟨hf, he, hb⟩)
  case inr =>
    unfold Broken at he
    subst he
    exact ⟨rfl, .inr ⟨rfl, not_n 4 2048 (by decide) (by decide) hf, Chg.of_below hb⟩⟩
  clear h
  have h := h'
  clear h' hf4
  simp only [Nat.zero_add, Nat.reduceAdd] at h ⊢
  obtain ⟨fa, hfa⟩ : ∃ x, fieldAt l 0 2 = x := ⟨_, rfl⟩
  obtain ⟨fb, hfb⟩ : ∃ x, fieldAt l 2 2 = x := ⟨_, rfl⟩
  obtain ⟨fc, hfc⟩ : ∃ x, fieldAt l 4 4 = x := ⟨_, rfl⟩
  obtain ⟨fd, hfd⟩ : ∃ x, fieldAt l 8 8 = x := ⟨_, rfl⟩
  obtain ⟨fe, hfe⟩ : ∃ x, fieldAt l 16 8 = x := ⟨_, rfl⟩
  rw [hfa, hfb, hfc, hfd, hfe]
  have FK := Lib.hid (gk5 hfa hfb hfc hfd hfe)
  clear hfa hfb hfc hfd hfe
  have hk4 := hP4.out.below h.out.2.2.2.2.1 h.out.2.2.1
  have c0 : w'.cell? ⟨P4, 0, none⟩ = some (.int .i64 0) := (hk4.cell 0).trans rfl
  have c1 : w'.cell? ⟨P4, 1, none⟩ = some (.int .i64 0) := (hk4.cell 1).trans rfl
  have c2 : w'.cell? ⟨P4, 2, none⟩ = some (.int .i64 0) := (hk4.cell 2).trans rfl
  have c3 : w'.cell? ⟨P4, 3, none⟩ = some (.int .i64 0) := (hk4.cell 3).trans rfl
  have c4 : w'.cell? ⟨P4, 4, none⟩ = some (.int .i64 0) := (hk4.cell 4).trans rfl
  have c5 : w'.cell? ⟨P4, 5, none⟩ = some (.int .i64 0) := (hk4.cell 5).trans rfl
  have c6 : w'.cell? ⟨P4, 6, none⟩ = some (.int .i64 0) := (hk4.cell 6).trans rfl
  have c7 : w'.cell? ⟨P4, 7, none⟩ = some (.int .i64 0) := (hk4.cell 7).trans rfl
  have c8 : w'.cell? ⟨P4, 8, none⟩ = some (.int .i64 0) := (hk4.cell 8).trans rfl
  have c9 : w'.cell? ⟨P4, 9, none⟩ = some (.int .i64 0) := (hk4.cell 9).trans rfl
  have c10 : w'.cell? ⟨P4, 10, none⟩ = some (.int .i64 0) := (hk4.cell 10).trans rfl
  have c11 : w'.cell? ⟨P4, 11, none⟩ = some (.int .i64 0) := (hk4.cell 11).trans rfl
  have c12 : w'.cell? ⟨P4, 12, none⟩ = some (.int .i64 0) := (hk4.cell 12).trans rfl
  have c13 : w'.cell? ⟨P4, 13, none⟩ = some (.int .i64 0) := (hk4.cell 13).trans rfl
  have c14 : w'.cell? ⟨P4, 14, none⟩ = some (.int .i64 0) := (hk4.cell 14).trans rfl
  have c15 : w'.cell? ⟨P4, 15, none⟩ = some (.int .i64 0) := (hk4.cell 15).trans rfl
  have c16 : w'.cell? ⟨P4, 16, none⟩ = some (.int .i64 0) := (hk4.cell 16).trans rfl
  have f0 := hk4.frozen
  have HK4 := Lib.hid hk4
  clear hk4
  go_upto_region 2 with (fail)
  refine gen_world (fun w2 => Hid (MidN w1 w2 P1 P4 R A c l (ncs (gk l 5)) 24)) ?_ ?_
  · have hb := h.out.2.2.2.2.1
    refine ⟨h.out.1, h.out.2.1, h.out.2.2.1, HNE.out, ?_, ?_, ?_, ?_, ?_, HA.out, ?_⟩
    · exact ((((((((((((((((((Chg.of_below hb).trans (chg_cell P4 0 _ _)).trans (chg_cell P4 1 _ _)).trans (chg_cell P4 2 _ _)).trans (chg_cell P4 3 _ _)).trans (chg_cell P4 4 _ _)).trans (chg_cell P4 5 _ _)).trans (chg_cell P4 6 _ _)).trans (chg_cell P4 7 _ _)).trans (chg_cell P4 8 _ _)).trans (chg_cell P4 9 _ _)).trans (chg_cell P4 10 _ _)).trans (chg_cell P4 11 _ _)).trans (chg_cell P4 12 _ _)).trans (chg_cell P4 13 _ _)).trans (chg_cell P4 14 _ _)).trans (chg_cell P4 15 _ _)).trans (chg_cell P4 16 _ _))
    · exact ((((((((((((((((((hP1.out.below hb hP1.out.lt).far HNE.out _).far HNE.out _).far HNE.out _).far HNE.out _).far HNE.out _).far HNE.out _).far HNE.out _).far HNE.out _).far HNE.out _).far HNE.out _).far HNE.out _).far HNE.out _).far HNE.out _).far HNE.out _).far HNE.out _).far HNE.out _).far HNE.out _)
    · have hput := (((((((((((((((((HK4.out.put 0 (.int .i64 fa)).put 1 (.int .i64 fb)).put 2 (.int .i64 fc)).put 3 (.int .i64 fd)).put 4 (.int .i64 fe)).put 5 (.int .i64 0)).put 6 (.int .i64 0)).put 7 (.int .i64 0)).put 8 (.int .i64 0)).put 9 (.int .i64 0)).put 10 (.int .i64 0)).put 11 (.int .i64 0)).put 12 (.int .i64 0)).put 13 (.int .i64 0)).put 14 (.int .i64 0)).put 15 (.int .i64 0)).put 16 (.int .i64 0))
      simp only [List.setIfInBounds_toArray, List.set_cons_zero, List.set_cons_succ] at hput
      rw [FK.out]
      exact hput
    · exact (bytes_far (bytes_far (bytes_far (bytes_far (bytes_far (bytes_far (bytes_far (bytes_far (bytes_far (bytes_far (bytes_far (bytes_far (bytes_far (bytes_far (bytes_far (bytes_far (bytes_far (HB.out.below hb) HA.out 0 _) HA.out 1 _) HA.out 2 _) HA.out 3 _) HA.out 4 _) HA.out 5 _) HA.out 6 _) HA.out 7 _) HA.out 8 _) HA.out 9 _) HA.out 10 _) HA.out 11 _) HA.out 12 _) HA.out 13 _) HA.out 14 _) HA.out 15 _) HA.out 16 _)
    · intro ad e
      subst e
      have := bytes_block HB.out (by rw [HL.out]; decide)
      have := HR.out
      omega
    · have hne : R ≠ P4 := by have := h.out.2.2.1; have := HR.out; omega
      exact (((((((((((((((((h.out.2.2.2.2.2.far hne _).far hne _).far hne _).far hne _).far hne _).far hne _).far hne _).far hne _).far hne _).far hne _).far hne _).far hne _).far hne _).far hne _).far hne _).far hne _).far hne _)
  clear c0 c1 c2 c3 c4 c5 c6 c7 c8 c9 c10 c11 c12 c13 c14 c15 c16 f0 HK4 h
  rintro w2 h2
  go_wp2_with fail
  go_loopw [20] (fun i wr => ∃ (j : Nat), i = .int .i64 j ∧ j ≤ 10 ∧ Hid (MidN w1 wr P1 P4 R A c l (ncs (gk l (5 + j))) (24 + 4 * j))) (fun i _ => 10 - (intOf i).toNat)
  case atStart => exact ⟨0, rfl, by omega, h2⟩
  case round =>
    clear h2
    obtain ⟨j, rfl, hj, h3⟩ := hrel
    by_cases hlt : j < 10
    · go_wp2_with fail
      refine (ptr_number rfl h3 (by omega) HL.out HC.out).mono ?_
      rintro e w4 (⟨rfl, h4⟩ | ⟨he, hs, hb⟩)
      case inr =>
        unfold Broken at he
        subst he
        exact ⟨rfl, .inr ⟨rfl, hs, hb.out⟩⟩
      clear h3
      have cj : ∃ v, w4.cell? ⟨P4, 5 + j, none⟩ = some v := ⟨_, (h4.out.b4.cell (5 + j)).trans (ncs_get _ (5 + j) (by omega))⟩
      obtain ⟨vj, cj⟩ := cj
      have fj := h4.out.b4.frozen (5 + j)
      go_wp2_with fail
      refine ⟨⟨j + 1, by go_num, by omega, h4.out.set (5 + j) _ (gk_step l (5 + j) _ (by omega) rfl)⟩, by simp [intOf]; omega⟩
    · obtain rfl : j = 10 := by omega
      have h4 : Hid (MidN w1 wr P1 P4 R A c l (ncs (gk l 15)) 64) := h3
      clear h3
      go_wp2_with fail
      refine (ptr_number (i := 10) rfl h4 (by omega) HL.out HC.out).mono ?_
      rintro e w4 (⟨rfl, h5⟩ | ⟨he, hs, hb⟩)
      case inr =>
        unfold Broken at he
        subst he
        exact ⟨rfl, .inr ⟨rfl, hs, hb.out⟩⟩
      clear h4
      have cj : ∃ v, w4.cell? ⟨P4, 15, none⟩ = some v := ⟨_, (h5.out.b4.cell 15).trans (ncs_get _ 15 (by omega))⟩
      obtain ⟨vj, cj⟩ := cj
      have fj := h5.out.b4.frozen 15
      go_upto_region 8 with (fail)
      refine gen_world (fun w2 => Hid (MidN w1 w2 P1 P4 R A c l (ncs (gk l 16)) 68)) ?_ ?_
      · exact h5.out.set 15 _ (gk_step l 15 _ (by omega) rfl)
      clear cj fj h5
      rintro w5 h5
      go_wp2_with fail
      refine (ptr_number (i := 11) rfl h5 (by omega) HL.out HC.out).mono ?_
      rintro e w6 (⟨rfl, h6⟩ | ⟨he, hs, hb⟩)
      case inr =>
        unfold Broken at he
        subst he
        exact ⟨rfl, .inr ⟨rfl, hs, hb.out⟩⟩
      clear h5
      have cj : ∃ v, w6.cell? ⟨P4, 16, none⟩ = some v := ⟨_, (h6.out.b4.cell 16).trans (ncs_get _ 16 (by omega))⟩
      obtain ⟨vk, cj⟩ := cj
      have fj := h6.out.b4.frozen 16
      go_upto_region 9 with (fail)
      refine gen_world (fun w2 => Hid (MidN w1 w2 P1 P4 R A c l (ncs (nI (readN l))) 72)) ?_ ?_
      · exact h6.out.set 16 _ ((gk_step l 16 _ (by omega) rfl).trans (gk_all l))
      clear cj fj h6
      rintro w7 h7
      obtain ⟨f, hf⟩ : ∃ x, nI (readN l) = x := ⟨_, rfl⟩
      rw [hf] at h7
      have HF := Lib.hid hf
      clear hf
      have c0 : w7.cell? ⟨P4, 0, none⟩ = some (.int .i64 (f 0)) := (h7.out.b4.cell 0).trans rfl
      have c1 : w7.cell? ⟨P4, 1, none⟩ = some (.int .i64 (f 1)) := (h7.out.b4.cell 1).trans rfl
      have c2 : w7.cell? ⟨P4, 2, none⟩ = some (.int .i64 (f 2)) := (h7.out.b4.cell 2).trans rfl
      have c3 : w7.cell? ⟨P4, 3, none⟩ = some (.int .i64 (f 3)) := (h7.out.b4.cell 3).trans rfl
      have c4 : w7.cell? ⟨P4, 4, none⟩ = some (.int .i64 (f 4)) := (h7.out.b4.cell 4).trans rfl
      have c5 : w7.cell? ⟨P4, 5, none⟩ = some (.int .i64 (f 5)) := (h7.out.b4.cell 5).trans rfl
      have c6 : w7.cell? ⟨P4, 6, none⟩ = some (.int .i64 (f 6)) := (h7.out.b4.cell 6).trans rfl
      have c7 : w7.cell? ⟨P4, 7, none⟩ = some (.int .i64 (f 7)) := (h7.out.b4.cell 7).trans rfl
      have c8 : w7.cell? ⟨P4, 8, none⟩ = some (.int .i64 (f 8)) := (h7.out.b4.cell 8).trans rfl
      have c9 : w7.cell? ⟨P4, 9, none⟩ = some (.int .i64 (f 9)) := (h7.out.b4.cell 9).trans rfl
      have c10 : w7.cell? ⟨P4, 10, none⟩ = some (.int .i64 (f 10)) := (h7.out.b4.cell 10).trans rfl
      have c11 : w7.cell? ⟨P4, 11, none⟩ = some (.int .i64 (f 11)) := (h7.out.b4.cell 11).trans rfl
      have c12 : w7.cell? ⟨P4, 12, none⟩ = some (.int .i64 (f 12)) := (h7.out.b4.cell 12).trans rfl
      have c13 : w7.cell? ⟨P4, 13, none⟩ = some (.int .i64 (f 13)) := (h7.out.b4.cell 13).trans rfl
      have c14 : w7.cell? ⟨P4, 14, none⟩ = some (.int .i64 (f 14)) := (h7.out.b4.cell 14).trans rfl
      have c15 : w7.cell? ⟨P4, 15, none⟩ = some (.int .i64 (f 15)) := (h7.out.b4.cell 15).trans rfl
      have c16 : w7.cell? ⟨P4, 16, none⟩ = some (.int .i64 (f 16)) := (h7.out.b4.cell 16).trans rfl
      by_cases hfit : NOk f
      · go_wp2_with fail
        refine (enc_ok f _ hfit).mono ?_
        rintro e w5 ⟨D, rfl, hD, hb5, hk5⟩
        have HK5 := Lib.hid hk5
        have HB5 := Lib.hid hb5
        have HFIT := Lib.hid hfit
        clear hD hb5 hk5 c0 c1 c2 c3 c4 c5 c6 c7 c8 c9 c10 c11 c12 c13 c14 c15 c16 hfit
        have p1 : w5.cell? ⟨P1, 0, none⟩ = some (.slice A 128 c) := ((h7.out.b1.below HB5.out h7.out.b1.lt).cell 0).trans rfl
        go_wp2_with fail
        refine (equal_any (some ⟨D, 0, none⟩) A 128 128 128 c (nodeOf f) l _ (nodeOf_length f) HL.out (Bytes.own' HK5.out) (h7.out.by'.below HB5.out)).mono ?_
        have hch : Chg (fun k => k = P4) w1 w5 := h7.out.chg.trans (Chg.of_below HB5.out)
        have HCH := Lib.hid hch
        clear hch
        by_cases heq : nodeOf f = l
        · have hs : IsNode l := by
            unfold IsNode
            rw [HF.out]
            exact ⟨HFIT.out, heq⟩
          have HS := Lib.hid hs
          rw [decide_eq_true heq]
          clear hs heq
          rintro e w6 ⟨rfl, rfl⟩
          go_wp2_with fail
          refine (fits_yes _).mono ?_
          rintro e w7 ⟨rfl, rfl⟩
          go_wp2_with fail
          go_end0
          refine .inl ⟨rfl, HS.out, ?_, HCH.out⟩
          rw [HF.out]
          exact h7.out.b4.below HB5.out h7.out.b4.lt
        · have hs : ¬ IsNode l := fun h => by
            have h2 := h.2
            rw [HF.out] at h2
            exact heq h2
          have HS := Lib.hid hs
          rw [decide_eq_false heq]
          clear hs heq
          rintro e w6 ⟨rfl, rfl⟩
          go_wp2_with fail
          refine (fits_no _).mono ?_
          rintro e w7 ⟨he, rfl⟩
          unfold Broken at he
          subst he
          exact ⟨rfl, .inr ⟨rfl, HS.out, HCH.out⟩⟩
      · have hs : ¬ IsNode l := fun h => by
          have h2 := h.1
          rw [HF.out] at h2
          exact hfit h2
        have HS := Lib.hid hs
        clear hs
        go_wp2_with fail
        refine (enc_bad f _ hfit).mono ?_
        rintro e w5 ⟨rfl, hb5⟩
        have HB5 := Lib.hid hb5
        clear hb5 c0 c1 c2 c3 c4 c5 c6 c7 c8 c9 c10 c11 c12 c13 c14 c15 c16 hfit
        go_wp2_with fail
        refine (fits_no _).mono ?_
        rintro e w7 ⟨he, rfl⟩
        unfold Broken at he
        subst he
        exact ⟨rfl, .inr ⟨rfl, HS.out, h7.out.chg.trans (Chg.of_below HB5.out)⟩⟩
end Go.Proofs.Ytefmihbjboacdaa.NodeDec
