/- DecodeSuper: the geometry of which these are the bytes, if there is one; else ErrCorrupt; ErrLength where the length is wrong. -/
import Derived.Test.YtefmihbjboacdaaGuard
import Derived.Test.YtefmihbjboacdaaSuperEnc
namespace Go.Proofs.Ytefmihbjboacdaa.SuperDec
open Go.ChangeShapes Go.WideShapes Go.ChangeAt Go.RowKit
open Go.Proofs.Ytefmihbjboacdaa.Kit Go.Proofs.Ytefmihbjboacdaa.Crc Go.Proofs.Ytefmihbjboacdaa.Reads Go.Proofs.Ytefmihbjboacdaa.Copy Go.Proofs.Ytefmihbjboacdaa.Lay Go.Proofs.Ytefmihbjboacdaa.Writer Go.Proofs.Ytefmihbjboacdaa.Reader Go.Proofs.Ytefmihbjboacdaa.Guard Go.Proofs.Ytefmihbjboacdaa.Plan Go.Proofs.Ytefmihbjboacdaa.SuperEnc Go.Proofs.Ytefmihbjboacdaa.Equal
set_option linter.unusedVariables false

/-- the number in n bytes from a place on -/
def fieldAt (l : List UInt8) (p n : Nat) : Nat := leVal ((l.drop p).take n)
/-- are these the bytes of a geometry? -/
def IsSuper (l : List UInt8) : Prop := Fits (fieldAt l 8 4) (fieldAt l 12 4) (fieldAt l 16 4) ∧ superBytes (fieldAt l 8 4) (fieldAt l 12 4) (fieldAt l 16 4) = l
instance (l : List UInt8) : Decidable (IsSuper l) := by unfold IsSuper; infer_instance

def CloPost (w1 : World) (P4 : Nat) (l : List UInt8) (e : Ending) (w2 : World) : Prop :=
  (e = .returned (.tuple #[]) ∧ IsSuper l ∧ Blk w2 P4 #[.int .i64 (fieldAt l 8 4 : Nat), .int .i64 (fieldAt l 12 4 : Nat), .int .i64 (fieldAt l 16 4 : Nat)] 30 ∧ Chg (fun k => k = P4) w1 w2) ∨
  (Broken e ∧ ¬ IsSuper l ∧ Chg (fun k => k = P4) w1 w2)

/-- what the decoder's literal holds on to: the reader, the list, the two captured variables -/
def Held (w1 w : World) (P1 P4 R : Nat) (A : Option Addr) (c : Nat) (l : List UInt8) (place : Nat) : Prop :=
  w1.heap.size ≤ R ∧ P1 < w1.heap.size ∧ P4 < w1.heap.size ∧ P1 ≠ P4 ∧ Below w1.heap.size w1 w ∧ Rd w R A l.length c place
theorem Held.only {w1 w w' : World} {P1 P4 R : Nat} {A : Option Addr} {c : Nat} {l : List UInt8} {p q : Nat} (h : Held w1 w P1 P4 R A c l p) (ho : Only R w w') (hr : Rd w' R A l.length c q) : Held w1 w' P1 P4 R A c l q :=
  ⟨h.1, h.2.1, h.2.2.1, h.2.2.2.1, h.2.2.2.2.1.trans (ho.below h.1), hr⟩

theorem bytes_block {w : World} {ad : Addr} {l : List UInt8} (h : Bytes w (some ad) l) (h0 : 0 < l.length) : ad.block < w.heap.size := by
  obtain ⟨ad', e, hc⟩ := h 0 h0
  obtain rfl := Option.some.inj e
  have := World.block_lt_of_cell? w _ hc
  simpa [Addr.add] using this
theorem held_take {w1 w : World} {P1 P4 R : Nat} {A : Option Addr} {c : Nat} {l : List UInt8} {p : Nat} (h : Hid (Held w1 w P1 P4 R A c l p)) (HB : Hid (Bytes w1 A l)) (q : Int) (k : Nat) (hq : q = (k : Int)) (hl : l.length ≤ 140737488351232) (hc : l.length ≤ c) (hc9 : c ≤ 9223372036854775807) (hk : p + k ≤ l.length) (hk0 : 0 < k) (hk9 : k ≤ 1000) :
    Calls Try.prog 48 #[.pointer (some ⟨R, 0, none⟩), .int .i64 q] w fun e w' => ∃ v, e = .returned v ∧ Hid (Held w1 w' P1 P4 R A c l (p + k)) := by
  subst hq
  obtain ⟨ad, rfl, _⟩ := HB.out 0 (by omega)
  refine (take_yes R ad l.length c p k w hl hc hc9 hk hk0 hk9 h.out.2.2.2.2.2).mono ?_
  rintro e w' ⟨rfl, h1⟩
  exact ⟨_, rfl, h.out.only h1.out.1 h1.out.2⟩
theorem held_number {w1 w : World} {P1 P4 R : Nat} {A : Option Addr} {c : Nat} {l : List UInt8} {p : Nat} (h : Hid (Held w1 w P1 P4 R A c l p)) (HB : Hid (Bytes w1 A l)) (q m : Int) (n most : Nat) (hq : q = (n : Int)) (hm : m = (most : Int)) (hl : l.length ≤ 140737488351232) (hc : l.length ≤ c) (hc9 : c ≤ 9223372036854775807) (hk : p + n ≤ l.length) (hn0 : 0 < n) (hn8 : n ≤ 8) (hmm : most ≤ 9223372036854775807) :
    Calls Try.prog 49 #[.pointer (some ⟨R, 0, none⟩), .int .i64 q, .int .i64 m] w fun e w' => (fieldAt l p n ≤ most ∧ e = .returned (.int .i64 (fieldAt l p n : Nat)) ∧ Hid (Held w1 w' P1 P4 R A c l (p + n))) ∨ (¬ fieldAt l p n ≤ most ∧ Broken e ∧ Hid (Below w1.heap.size w1 w')) := by
  subst hq hm
  have hA : ∀ ad, A = some ad → ad.block ≠ R := fun ad e => by
    subst e
    have := bytes_block HB.out (by omega)
    have := h.out.1
    omega
  refine (number_any R A c p n most l w hl hc hc9 (by omega) hn0 hn8 hmm h.out.2.2.2.2.2 (HB.out.below h.out.2.2.2.2.1) hA).mono ?_
  rintro e w' (⟨_, h2, h3, h4⟩ | ⟨h2, h3, h4⟩)
  · exact .inl ⟨h2, h3, h.out.only h4.out.1 h4.out.2⟩
  · exact .inr ⟨fun hh => h2 ⟨hk, hh⟩, h3, h.out.2.2.2.2.1.trans (h4.out.below h.out.1)⟩
theorem bytes_far {w : World} {A : Option Addr} {l : List UInt8} {b : Nat} (h : Bytes w A l) (hA : ∀ ad, A = some ad → ad.block ≠ b) (i : Nat) (v : Value) : Bytes (w.setCell ⟨b, i, none⟩ v) A l := fun j hj => by
  obtain ⟨ad, e, hc⟩ := h j hj
  have hb : (ad.add j).block = ad.block := by unfold Addr.add; split <;> rfl
  exact ⟨ad, e, by rw [World.cell?_of_block (w := w) (Below.heap_setCell w ⟨b, i, none⟩ v _ (by rw [hb]; exact hA ad e)), hc]⟩
theorem bytes_chg {w w' : World} {A : Option Addr} {l : List UInt8} {S : Nat → Prop} (h : Bytes w A l) (hc : Chg S w w') (hA : ∀ ad, A = some ad → ¬ S ad.block) : Bytes w' A l := fun j hj => by
  obtain ⟨ad, e, hcell⟩ := h j hj
  have hb : (ad.add j).block = ad.block := by unfold Addr.add; split <;> rfl
  have hlt := World.block_lt_of_cell? w _ hcell
  exact ⟨ad, e, by rw [World.cell?_of_block (w := w) (hc.block _ hlt (by rw [hb]; exact hA ad e)), hcell]⟩
theorem chg_cell (b i : Nat) (w : World) (v : Value) : Chg (fun k => k = b) w (w.setCell ⟨b, i, none⟩ v) :=
  ⟨rfl, rfl, rfl, by simp [World.setCell], fun k _ h2 => Below.heap_setCell _ _ _ _ (by exact h2)⟩
theorem not_super1 {l : List UInt8} (h : ¬ fieldAt l 8 4 ≤ 2048) : ¬ IsSuper l := fun hs => by
  have := hs.1.2.2.2.2.2.1
  omega
theorem not_super2 {l : List UInt8} (h : ¬ fieldAt l 12 4 ≤ 256) : ¬ IsSuper l := fun hs => by
  have := hs.1.2.1
  omega
theorem not_super3 {l : List UInt8} (h : ¬ fieldAt l 16 4 ≤ 1024) : ¬ IsSuper l := fun hs => by
  have := hs.1.2.2.2.1
  omega

set_option maxRecDepth 100000 in
set_option maxHeartbeats 3200000 in
theorem clo_any (P1 P4 : Nat) (A : Option Addr) (c : Nat) (l : List UInt8) (x0 x1 x2 : Int) (w1 : World) (hl : l.length = 512) (hc : 512 ≤ c) (hc9 : c ≤ 9223372036854775807) (hne : P1 ≠ P4)
    (hP1 : Hid (Blk w1 P1 #[.slice A 512 c] 34)) (hP4 : Hid (Blk w1 P4 #[.int .i64 x0, .int .i64 x1, .int .i64 x2] 30)) (HB : Hid (Bytes w1 A l)) (hA : ∀ ad, A = some ad → ad.block ≠ P4) :
    Calls Try.prog 47 #[.pointer (some ⟨P1, 0, none⟩), .pointer (some ⟨P4, 0, none⟩)] w1 (CloPost w1 P4 l) := by
  have HA := Lib.hid hA
  have HL := Lib.hid hl
  have HNE := Lib.hid hne
  have HC := Lib.hid (And.intro hc hc9)
  clear hA hl hne hc hc9
  have p1 : w1.cell? ⟨P1, 0, none⟩ = some (.slice A 512 c) := (hP1.out.cell 0).trans rfl
  go_enter Try.func47, Try.ntmps47
  go_upto_region 1 with (fail)
  refine gen_world (fun w => Hid (Held w1 w P1 P4 w1.heap.size A c l 0)) ?_ ?_
  · refine ⟨Nat.le_refl _, hP1.out.lt, hP4.out.lt, HNE.out, (Below.refl _ _).alloc (Nat.le_refl _) _, ?_⟩
    unfold Rd
    rw [HL.out]
    exact Blk.new _ _ _
  obtain ⟨R, hR⟩ : ∃ R, w1.heap.size = R := ⟨_, rfl⟩
  rw [hR]
  have HR := Lib.hid hR
  clear hR p1
  rintro w h
  go_wp2_with fail
  refine (held_take h HB 8 8 rfl (by rw [HL.out]; decide) (by rw [HL.out]; exact HC.out.1) HC.out.2 (by rw [HL.out]; decide) (by decide) (by decide)).mono ?_
  rintro e w' ⟨v, rfl, h'⟩
  clear h
  have h := h'
  clear h'
  go_wp2_with fail
  refine (held_number h HB 4 2048 4 2048 rfl rfl (by rw [HL.out]; decide) (by rw [HL.out]; exact HC.out.1) HC.out.2 (by rw [HL.out]; decide) (by decide) (by decide) (by decide)).mono ?_
  rintro e w' (⟨hf1, rfl, h'⟩ | ⟨hf, he, hb⟩)
  case inr =>
    unfold Broken at he
    subst he
    exact ⟨rfl, .inr ⟨rfl, not_super1 hf, Chg.of_below hb⟩⟩
  clear h
  have h := h'
  clear h'
  have F1 := Lib.hid hf1
  clear hf1
  go_wp2_with fail
  refine (held_number h HB 4 256 4 256 rfl rfl (by rw [HL.out]; decide) (by rw [HL.out]; exact HC.out.1) HC.out.2 (by rw [HL.out]; decide) (by decide) (by decide) (by decide)).mono ?_
  rintro e w' (⟨hf2, rfl, h'⟩ | ⟨hf, he, hb⟩)
  case inr =>
    unfold Broken at he
    subst he
    exact ⟨rfl, .inr ⟨rfl, not_super2 hf, Chg.of_below hb⟩⟩
  clear h
  have h := h'
  clear h'
  have F2 := Lib.hid hf2
  clear hf2
  go_wp2_with fail
  refine (held_number h HB 4 1024 4 1024 rfl rfl (by rw [HL.out]; decide) (by rw [HL.out]; exact HC.out.1) HC.out.2 (by rw [HL.out]; decide) (by decide) (by decide) (by decide)).mono ?_
  rintro e w' (⟨hf3, rfl, h'⟩ | ⟨hf, he, hb⟩)
  case inr =>
    unfold Broken at he
    subst he
    exact ⟨rfl, .inr ⟨rfl, not_super3 hf, Chg.of_below hb⟩⟩
  clear h
  have h := h'
  clear h'
  have F3 := Lib.hid hf3
  clear hf3
  have G1 : Hid (fieldAt l 8 4 ≤ 2048) := F1
  have G2 : Hid (fieldAt l 12 4 ≤ 256) := F2
  have G3 : Hid (fieldAt l 16 4 ≤ 1024) := F3
  clear F1 F2 F3
  simp only [Nat.zero_add, Nat.reduceAdd]
  obtain ⟨fa, hfa⟩ : ∃ x, fieldAt l 8 4 = x := ⟨_, rfl⟩
  obtain ⟨fb, hfb⟩ : ∃ x, fieldAt l 12 4 = x := ⟨_, rfl⟩
  obtain ⟨fc, hfc⟩ : ∃ x, fieldAt l 16 4 = x := ⟨_, rfl⟩
  rw [hfa, hfb, hfc]
  have FA := Lib.hid hfa
  have FB := Lib.hid hfb
  have FC := Lib.hid hfc
  clear hfa hfb hfc
  have hk4 := hP4.out.below h.out.2.2.2.2.1 h.out.2.2.1
  have c0 : w'.cell? ⟨P4, 0, none⟩ = some (.int .i64 x0) := (hk4.cell 0).trans rfl
  have c1 : w'.cell? ⟨P4, 1, none⟩ = some (.int .i64 x1) := (hk4.cell 1).trans rfl
  have c2 : w'.cell? ⟨P4, 2, none⟩ = some (.int .i64 x2) := (hk4.cell 2).trans rfl
  have f0 := hk4.frozen
  have HK4 := Lib.hid hk4
  clear hk4
  go_upto_region 3 with (fail)
  refine gen_world (fun w2 => Hid (Blk w2 P4 #[.int .i64 fa, .int .i64 fb, .int .i64 fc] 30 ∧ Blk w2 P1 #[.slice A 512 c] 34 ∧ Bytes w2 A l ∧ Chg (fun k => k = P4) w1 w2)) ?_ ?_
  · have hb := h.out.2.2.2.2.1
    refine ⟨((HK4.out.put 0 _).put 1 _).put 2 _, (((hP1.out.below hb hP1.out.lt).far HNE.out _).far HNE.out _).far HNE.out _, ?_, ?_⟩
    · exact bytes_far (bytes_far (bytes_far (HB.out.below hb) HA.out 0 _) HA.out 1 _) HA.out 2 _
    · exact (((Chg.of_below hb).trans (chg_cell P4 0 _ _)).trans (chg_cell P4 1 _ _)).trans (chg_cell P4 2 _ _)
  clear c0 c1 c2 f0 HK4
  rintro w2 h2
  have c0 : w2.cell? ⟨P4, 0, none⟩ = some (.int .i64 fa) := (h2.out.1.cell 0).trans rfl
  have c1 : w2.cell? ⟨P4, 1, none⟩ = some (.int .i64 fb) := (h2.out.1.cell 1).trans rfl
  have c2 : w2.cell? ⟨P4, 2, none⟩ = some (.int .i64 fc) := (h2.out.1.cell 2).trans rfl
  by_cases hfit : Fits fa fb fc
  · go_wp2_with fail
    refine (enc_yes fa fb fc _ hfit).mono ?_
    rintro e w3 ⟨D, rfl, hD, hb3, hk3⟩
    have HK3 := Lib.hid hk3
    have HB3 := Lib.hid hb3
    have HFIT := Lib.hid hfit
    clear hD hb3 hk3 c0 c1 c2 hfit
    have p1 : w3.cell? ⟨P1, 0, none⟩ = some (.slice A 512 c) := ((h2.out.2.1.below HB3.out h2.out.2.1.lt).cell 0).trans rfl
    go_wp2_with fail
    refine (equal_any (some ⟨D, 0, none⟩) A 512 512 512 c (superBytes fa fb fc) l _ (superBytes_length _ _ _) HL.out (Bytes.own' HK3.out) (h2.out.2.2.1.below HB3.out)).mono ?_
    have hch : Chg (fun k => k = P4) w1 w3 := h2.out.2.2.2.trans (Chg.of_below HB3.out)
    have HCH := Lib.hid hch
    clear hch
    by_cases heq : superBytes fa fb fc = l
    · have hs : IsSuper l := by
        unfold IsSuper
        rw [FA.out, FB.out, FC.out]
        exact ⟨HFIT.out, heq⟩
      have HS := Lib.hid hs
      rw [decide_eq_true heq]
      clear hs heq
      rintro e w4 ⟨rfl, rfl⟩
      go_wp2_with fail
      refine (fits_yes _).mono ?_
      rintro e w5 ⟨rfl, rfl⟩
      go_wp2_with fail
      go_end0
      refine .inl ⟨rfl, HS.out, ?_, HCH.out⟩
      rw [FA.out, FB.out, FC.out]
      exact h2.out.1.below HB3.out h2.out.1.lt
    · have hs : ¬ IsSuper l := fun h => by
        have h2 := h.2
        rw [FA.out, FB.out, FC.out] at h2
        exact heq h2
      have HS := Lib.hid hs
      rw [decide_eq_false heq]
      clear hs heq
      rintro e w4 ⟨rfl, rfl⟩
      go_wp2_with fail
      refine (fits_no _).mono ?_
      rintro e w5 ⟨he, rfl⟩
      unfold Broken at he
      subst he
      exact ⟨rfl, .inr ⟨rfl, HS.out, HCH.out⟩⟩
  · have hs : ¬ IsSuper l := fun h => by
      have h2 := h.1
      rw [FA.out, FB.out, FC.out] at h2
      exact hfit h2
    have HS := Lib.hid hs
    clear hs
    go_wp2_with fail
    refine (enc_no fa fb fc _ hfit).mono ?_
    rintro e w3 ⟨rfl, hb3⟩
    have HB3 := Lib.hid hb3
    clear hb3 c0 c1 c2 hfit
    go_wp2_with fail
    refine (fits_no _).mono ?_
    rintro e w5 ⟨he, rfl⟩
    unfold Broken at he
    subst he
    exact ⟨rfl, .inr ⟨rfl, HS.out, h2.out.2.2.2.trans (Chg.of_below HB3.out)⟩⟩
/-- what DecodeSuper answers -/
def decoded (l : List UInt8) : Value :=
  if l.length = 512 then
    if IsSuper l then .tuple #[.agg #[.int .i64 (fieldAt l 8 4 : Nat), .int .i64 (fieldAt l 12 4 : Nat), .int .i64 (fieldAt l 16 4 : Nat)], .int .i64 0]
    else .tuple #[.agg #[.int .i64 0, .int .i64 0, .int .i64 0], .int .i64 6]
  else .tuple #[.agg #[.int .i64 0, .int .i64 0, .int .i64 0], .int .i64 2]

set_option maxRecDepth 100000 in
set_option maxHeartbeats 3200000 in
theorem dec_short (A : Option Addr) (c n : Nat) (w : World) (hn : ¬ n = 512) (hn2 : n ≤ 9223372036854775807) :
    Calls Try.prog 23 #[.slice A n c] w fun e w' => e = .returned (.tuple #[.agg #[.int .i64 0, .int .i64 0, .int .i64 0], .int .i64 2]) ∧ Below w.heap.size w w' := by
  have t0 : ((n : Int) != 512) = true := by rw [bne_iff_ne]; omega
  have HN := Lib.hid hn
  clear hn
  go_enter Try.func23, Try.ntmps23
  go_wp2_with fail
  refine bodyPost_ret (v := .tuple #[.agg #[.int .i64 0, .int .i64 0, .int .i64 0], .int .i64 2]) (by simp [results, Try.results23, go_sem]) rfl ⟨rfl, ?_⟩
  repeat (first | exact Below.refl _ _ | refine Below.drew ?_ | refine Below.alloc ?_ (by first | (simp; done) | (simp; omega)) _ | refine Below.setCell ?_ (by first | (simp; done) | (simp; omega)) _)

def DecPost (w : World) (l : List UInt8) (e : Ending) (w' : World) : Prop := e = .returned (decoded l) ∧ Below w.heap.size w w'
theorem decoded_yes {l : List UInt8} (hl : l.length = 512) (hs : IsSuper l) : decoded l = .tuple #[.agg #[.int .i64 (fieldAt l 8 4 : Nat), .int .i64 (fieldAt l 12 4 : Nat), .int .i64 (fieldAt l 16 4 : Nat)], .int .i64 0] := by
  unfold decoded
  rw [if_pos hl, if_pos hs]
theorem decoded_no {l : List UInt8} (hl : l.length = 512) (hs : ¬ IsSuper l) : decoded l = .tuple #[.agg #[.int .i64 0, .int .i64 0, .int .i64 0], .int .i64 6] := by
  unfold decoded
  rw [if_pos hl, if_neg hs]
theorem decoded_len {l : List UInt8} (hl : ¬ l.length = 512) : decoded l = .tuple #[.agg #[.int .i64 0, .int .i64 0, .int .i64 0], .int .i64 2] := by
  unfold decoded
  rw [if_neg hl]

set_option maxRecDepth 100000 in
set_option maxHeartbeats 3200000 in
theorem dec_full (A : Option Addr) (c : Nat) (l : List UInt8) (w : World) (hl : l.length = 512) (hc : 512 ≤ c) (hc9 : c ≤ 9223372036854775807) (HB : Hid (Bytes w A l)) :
    Calls Try.prog 23 #[.slice A 512 c] w (DecPost w l) := by
  have hmf : ∀ (fn : Fn) (first cap : Array Value) (w : World), (Instr.makeFunc fn first cap).run Try.prog w = .ok (.func fn first cap) w := fun _ _ _ _ => rfl
  have HL := Lib.hid hl
  have HC := Lib.hid (And.intro hc hc9)
  clear hl hc hc9
  go_enter Try.func23, Try.ntmps23
  go_upto_region 4 with (fail)
  obtain ⟨P, hP⟩ : ∃ P, w.heap.size = P := ⟨_, rfl⟩
  refine gen_world (fun w1 => Hid (Below w.heap.size w w1 ∧ Blk w1 P #[.slice A 512 c] 34 ∧ Blk w1 (P + 1) #[.int .i64 0, .int .i64 0, .int .i64 0] 30 ∧ Blk w1 (P + 1 + 1) #[.int .i64 0, .int .i64 0, .int .i64 0] 30 ∧ Bytes w1 A l ∧ w1.heap.size = P + 3)) ?_ ?_
  · subst hP
    have hb : Below w.heap.size w (((w.alloc (.cells #[.slice A 512 c] 34)).alloc (.cells #[.int .i64 0, .int .i64 0, .int .i64 0] 30)).alloc (.cells #[.int .i64 0, .int .i64 0, .int .i64 0] 30)) :=
      (((Below.refl _ _).alloc (Nat.le_refl _) _).alloc (by simp) _).alloc (by simp; omega) _
    refine ⟨hb, ((Blk.new w _ _).alloc _).alloc _, ?_, ?_, HB.out.below hb, by simp⟩
    · have h := (Blk.new (w.alloc (.cells #[.slice A 512 c] 34)) #[.int .i64 0, .int .i64 0, .int .i64 0] 30).alloc (.cells #[.int .i64 0, .int .i64 0, .int .i64 0] 30)
      simpa using h
    · have h := Blk.new ((w.alloc (.cells #[.slice A 512 c] 34)).alloc (.cells #[.int .i64 0, .int .i64 0, .int .i64 0] 30)) #[.int .i64 0, .int .i64 0, .int .i64 0] 30
      simpa using h
  rw [hP]
  have HP := Lib.hid hP
  clear hP
  rintro w1 h1
  have hA : ∀ ad, A = some ad → ad.block ≠ P + 1 + 1 := fun ad e => by
    subst e
    have h2 := bytes_block HB.out (by rw [HL.out]; decide)
    have := HP.out
    omega
  have HA := Lib.hid hA
  clear hA
  go_wp2_with fail
  refine (guarded_any 47 _ w1 (fun w2 => IsSuper l ∧ Blk w2 (P + 1 + 1) #[.int .i64 (fieldAt l 8 4 : Nat), .int .i64 (fieldAt l 12 4 : Nat), .int .i64 (fieldAt l 16 4 : Nat)] 30 ∧ Chg (fun k => k = P + 1 + 1) w1 w2) (fun w2 => ¬ IsSuper l ∧ Chg (fun k => k = P + 1 + 1) w1 w2) (enter47 _) ?_).mono ?_
  · intro wq hbq hkq
    refine (clo_any P (P + 1 + 1) A c l 0 0 0 wq HL.out HC.out.1 HC.out.2 (by omega) (h1.out.2.1.below hbq h1.out.2.1.lt) (h1.out.2.2.2.1.below hbq h1.out.2.2.2.1.lt) (h1.out.2.2.2.2.1.below hbq) HA.out).mono ?_
    have hsz := h1.out.2.2.2.2.2
    rintro e w2 (⟨rfl, hs, hk, hch⟩ | ⟨he, hs, hch⟩)
    · exact .inl ⟨rfl, hch.blk hkq (by omega), hs, hk, (Chg.of_below hbq).trans hch⟩
    · exact .inr ⟨he, hch.blk hkq (by omega), hs, (Chg.of_below hbq).trans hch⟩
  have hsz := h1.out.2.2.2.2.2
  have HSZ := Lib.hid hsz
  rw [hsz]
  clear hsz
  rintro e w' (⟨rfl, w2, ⟨hs, hk, hch⟩, hg⟩ | ⟨rfl, w2, ⟨hs, hch⟩, hg⟩)
  · have hk2 : Blk w' (P + 1 + 1) #[.int .i64 (fieldAt l 8 4 : Nat), .int .i64 (fieldAt l 12 4 : Nat), .int .i64 (fieldAt l 16 4 : Nat)] 30 := hg.blk hk (by omega)
    have hk1 : Blk w' (P + 1) #[.int .i64 0, .int .i64 0, .int .i64 0] 30 := hg.blk (hch.blk h1.out.2.2.1 (by omega)) (by have := hk.lt; have := HSZ.out; omega)
    have HV := Lib.hid (decoded_yes HL.out hs)
    have HF := Lib.hid (And.intro hch hg)
    clear hs hk hch hg
    generalize ((fieldAt l 8 4 : Nat) : Int) = fa at *
    generalize ((fieldAt l 12 4 : Nat) : Int) = fb at *
    generalize ((fieldAt l 16 4 : Nat) : Int) = fc at *
    have c0 : w'.cell? ⟨P + 1 + 1, 0, none⟩ = some (.int .i64 fa) := (hk2.cell 0).trans rfl
    have c1 : w'.cell? ⟨P + 1 + 1, 1, none⟩ = some (.int .i64 fb) := (hk2.cell 1).trans rfl
    have c2 : w'.cell? ⟨P + 1 + 1, 2, none⟩ = some (.int .i64 fc) := (hk2.cell 2).trans rfl
    have d0 : w'.cell? ⟨P + 1, 0, none⟩ = some (.int .i64 0) := (hk1.cell 0).trans rfl
    have d1 : w'.cell? ⟨P + 1, 1, none⟩ = some (.int .i64 0) := (hk1.cell 1).trans rfl
    have d2 : w'.cell? ⟨P + 1, 2, none⟩ = some (.int .i64 0) := (hk1.cell 2).trans rfl
    have df := hk1.frozen
    clear hk1 hk2
    go_wp2_with fail
    refine bodyPost_ret (v := .tuple #[.agg #[.int .i64 fa, .int .i64 fb, .int .i64 fc], .int .i64 0]) (by simp [results, Try.results23, go_sem, d0, d1, d2]) rfl ⟨by rw [HV.out], ?_⟩
    have hb : Below w.heap.size w w' := by
      have e := HP.out
      subst e
      exact h1.out.1.trans ((HF.out.1.below h1.out.1.size (fun k hk => by omega)).trans (HF.out.2.below (Nat.le_trans h1.out.1.size HF.out.1.size) (fun k hk => by omega)))
    have hge : w.heap.size ≤ P + 1 := by have := HP.out; omega
    exact ((hb.setCell hge _).setCell hge _).setCell hge _
  · have hk1 : Blk w' (P + 1) #[.int .i64 0, .int .i64 0, .int .i64 0] 30 := hg.blk (hch.blk h1.out.2.2.1 (by omega)) (by omega)
    have HV := Lib.hid (decoded_no HL.out hs)
    have HF := Lib.hid (And.intro hch hg)
    clear hs hch hg
    have d0 : w'.cell? ⟨P + 1, 0, none⟩ = some (.int .i64 0) := (hk1.cell 0).trans rfl
    have d1 : w'.cell? ⟨P + 1, 1, none⟩ = some (.int .i64 0) := (hk1.cell 1).trans rfl
    have d2 : w'.cell? ⟨P + 1, 2, none⟩ = some (.int .i64 0) := (hk1.cell 2).trans rfl
    have df := hk1.frozen
    clear hk1
    go_wp2_with fail
    refine bodyPost_ret (v := .tuple #[.agg #[.int .i64 0, .int .i64 0, .int .i64 0], .int .i64 6]) (by simp [results, Try.results23, go_sem, d0, d1, d2]) rfl ⟨by rw [HV.out], ?_⟩
    have hb : Below w.heap.size w w' := by
      have e := HP.out
      subst e
      exact h1.out.1.trans ((HF.out.1.below h1.out.1.size (fun k hk => by omega)).trans (HF.out.2.below (Nat.le_trans h1.out.1.size HF.out.1.size) (fun k hk => by omega)))
    have hge : w.heap.size ≤ P + 1 := by have := HP.out; omega
    exact ((hb.setCell hge _).setCell hge _).setCell hge _
end Go.Proofs.Ytefmihbjboacdaa.SuperDec
