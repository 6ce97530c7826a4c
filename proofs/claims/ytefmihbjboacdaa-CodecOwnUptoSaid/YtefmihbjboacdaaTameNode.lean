/- tame: a node that fits. -/
import Derived.Test.YtefmihbjboacdaaTame
import Derived.Deep.DeepCutAuto
namespace Go.Proofs.Ytefmihbjboacdaa.TameNode
open Go.ChangeShapes Go.WideShapes Go.ChangeAt Go.RowKit
open Go.Proofs.Ytefmihbjboacdaa.Kit Go.Proofs.Ytefmihbjboacdaa.NodeLay Go.Proofs.Ytefmihbjboacdaa.NodeCells Go.Proofs.Ytefmihbjboacdaa.NodeEq Go.Proofs.Ytefmihbjboacdaa.NodeFits Go.Proofs.Ytefmihbjboacdaa.Forms Go.Proofs.Ytefmihbjboacdaa.Tame
open Go.Proofs.Ytefmihbjboacdaa.NodeDecAll (gen_body)
set_option linter.unusedVariables false

def NodePost (w : World) (e : Ending) (w' : World) : Prop := ∃ f : Nat → Int, NFits f ∧ e = .returned (.agg (ncs f)) ∧ Hid (Below w.heap.size w w')
theorem pk_set {f : Nat → Int} {j : Nat} {r : Int} (h : PK f j) (hj : j < 12) (hl : 0 ≤ r) (hu : r ≤ 2047) : PK (fset f (5 + j) r) (j + 1) := by
  have e : ∀ k, k < 5 → fset f (5 + j) r k = f k := fun k hk => if_neg (by omega)
  refine ⟨?_, fun i hi => ?_⟩
  · have h5 := h.1
    unfold B5 B3 at h5 ⊢
    rw [e 0 (by decide), e 1 (by decide), e 2 (by decide), e 3 (by decide), e 4 (by decide)]
    exact h5
  · by_cases hij : i = j
    · subst hij
      rw [show fset f (5 + i) r (5 + i) = r from if_pos rfl]
      exact ⟨hl, hu⟩
    · rw [show fset f (5 + j) r (5 + i) = f (5 + i) from if_neg (by omega)]
      exact h.2 i (by omega)

set_option maxRecDepth 100000 in
set_option maxHeartbeats 20000000 in
theorem tame_any (f0 : Nat → Int) (w : World) : Calls Try.prog 38 #[.agg #[.int .i64 (f0 0), .int .i64 (f0 1), .int .i64 (f0 2), .int .i64 (f0 3), .int .i64 (f0 4), .int .i64 (f0 5), .int .i64 (f0 6), .int .i64 (f0 7), .int .i64 (f0 8), .int .i64 (f0 9), .int .i64 (f0 10), .int .i64 (f0 11), .int .i64 (f0 12), .int .i64 (f0 13), .int .i64 (f0 14), .int .i64 (f0 15), .int .i64 (f0 16)]] w (NodePost w) := by
  go_enter Try.func38, Try.ntmps38
  go_upto_region 1 with (fail)
  obtain ⟨P, hP⟩ : ∃ P, w.heap.size = P := ⟨_, rfl⟩
  rw [hP]
  refine gen_world (fun w' => Hid (Below w.heap.size w w' ∧ Blk w' P (ncs f0) 51 ∧ Blk w' (P + 1) #[.int .i64 0, .int .i64 0, .int .i64 0, .int .i64 0, .int .i64 0, .int .i64 0, .int .i64 0, .int .i64 0, .int .i64 0, .int .i64 0, .int .i64 0, .int .i64 0, .int .i64 0, .int .i64 0, .int .i64 0, .int .i64 0, .int .i64 0] 51)) ?_ ?_
  · subst hP
    refine ⟨((Below.refl _ _).alloc (Nat.le_refl _) _).alloc (by simp) _, (Blk.new w _ _).alloc _, ?_⟩
    have h := Blk.new (w.alloc (.cells (ncs f0) 51)) #[.int .i64 0, .int .i64 0, .int .i64 0, .int .i64 0, .int .i64 0, .int .i64 0, .int .i64 0, .int .i64 0, .int .i64 0, .int .i64 0, .int .i64 0, .int .i64 0, .int .i64 0, .int .i64 0, .int .i64 0, .int .i64 0, .int .i64 0] 51
    simpa [ncs] using h
  have HGE : Hid (w.heap.size ≤ P) := by show _ ≤ _; omega
  clear hP
  obtain ⟨P1, hP1⟩ : ∃ P1, P + 1 = P1 := ⟨_, rfl⟩
  rw [hP1]
  have HNE : Hid (P ≠ P1 ∧ P1 ≠ P ∧ w.heap.size ≤ P1) := ⟨by omega, by omega, by have := HGE.out; omega⟩
  clear hP1
  obtain ⟨f, hf⟩ : ∃ g, f0 = g := ⟨_, rfl⟩
  have HB : Hid True := trivial
  rintro w1 h1
  rw [hf] at h1
  clear hf
  have cc : w1.cell? ⟨P, 0, none⟩ = some (.int .i64 (f 0)) := (h1.out.2.1.cell 0).trans rfl
  go_wp2_with fail
  refine (within_any (f 0) 1 3 _ (by decide) (by decide) (by decide)).mono ?_
  rintro e w2 ⟨rfl, r, rfl, hl, hu⟩
  have f1 := h1.out.2.1.frozen 0
  go_upto_region 2 with (fail)
  refine gen_world (fun w' => Hid (Below w.heap.size w w' ∧ Blk w' P (ncs (fset f 0 r)) 51 ∧ Blk w' P1 #[.int .i64 0, .int .i64 0, .int .i64 0, .int .i64 0, .int .i64 0, .int .i64 0, .int .i64 0, .int .i64 0, .int .i64 0, .int .i64 0, .int .i64 0, .int .i64 0, .int .i64 0, .int .i64 0, .int .i64 0, .int .i64 0, .int .i64 0] 51)) ?_ ?_
  · exact ⟨h1.out.1.setCell HGE.out _, by rw [← ncs_set f 0 _ (by decide)]; exact h1.out.2.1.put 0 _, h1.out.2.2.far HNE.out.2.1 _⟩
  have HN : Hid ((1 ≤ (fset f 0 r) 0 ∧ (fset f 0 r) 0 ≤ 3)) := by
    have h := HB.out
    have hr : (fset f 0 r) 0 = r := rfl
    exact ⟨hl, hu⟩
  clear cc f1 h1 w1 HB hl hu
  have HB := HN
  clear HN
  generalize fset f 0 r = f at *
  rintro w1 h1
  have cc : w1.cell? ⟨P, 1, none⟩ = some (.int .i64 (f 1)) := (h1.out.2.1.cell 1).trans rfl
  go_wp2_with fail
  refine (within_any (f 1) 0 64 _ (by decide) (by decide) (by decide)).mono ?_
  rintro e w2 ⟨rfl, r, rfl, hl, hu⟩
  have f1 := h1.out.2.1.frozen 1
  go_upto_region 3 with (fail)
  refine gen_world (fun w' => Hid (Below w.heap.size w w' ∧ Blk w' P (ncs (fset f 1 r)) 51 ∧ Blk w' P1 #[.int .i64 0, .int .i64 0, .int .i64 0, .int .i64 0, .int .i64 0, .int .i64 0, .int .i64 0, .int .i64 0, .int .i64 0, .int .i64 0, .int .i64 0, .int .i64 0, .int .i64 0, .int .i64 0, .int .i64 0, .int .i64 0, .int .i64 0] 51)) ?_ ?_
  · exact ⟨h1.out.1.setCell HGE.out _, by rw [← ncs_set f 1 _ (by decide)]; exact h1.out.2.1.put 1 _, h1.out.2.2.far HNE.out.2.1 _⟩
  have HN : Hid ((1 ≤ (fset f 1 r) 0 ∧ (fset f 1 r) 0 ≤ 3) ∧ (0 ≤ (fset f 1 r) 1 ∧ (fset f 1 r) 1 ≤ 64)) := by
    have h := HB.out
    have hr : (fset f 1 r) 1 = r := rfl
    exact ⟨h, hl, hu⟩
  clear cc f1 h1 w1 HB hl hu
  have HB := HN
  clear HN
  generalize fset f 1 r = f at *
  rintro w1 h1
  have cc : w1.cell? ⟨P, 2, none⟩ = some (.int .i64 (f 2)) := (h1.out.2.1.cell 2).trans rfl
  go_wp2_with fail
  refine (within_any (f 2) 1 1024 _ (by decide) (by decide) (by decide)).mono ?_
  rintro e w2 ⟨rfl, r, rfl, hl, hu⟩
  have f1 := h1.out.2.1.frozen 2
  go_upto_region 4 with (fail)
  refine gen_world (fun w' => Hid (Below w.heap.size w w' ∧ Blk w' P (ncs (fset f 2 r)) 51 ∧ Blk w' P1 #[.int .i64 0, .int .i64 0, .int .i64 0, .int .i64 0, .int .i64 0, .int .i64 0, .int .i64 0, .int .i64 0, .int .i64 0, .int .i64 0, .int .i64 0, .int .i64 0, .int .i64 0, .int .i64 0, .int .i64 0, .int .i64 0, .int .i64 0] 51)) ?_ ?_
  · exact ⟨h1.out.1.setCell HGE.out _, by rw [← ncs_set f 2 _ (by decide)]; exact h1.out.2.1.put 2 _, h1.out.2.2.far HNE.out.2.1 _⟩
  have HN : Hid ((1 ≤ (fset f 2 r) 0 ∧ (fset f 2 r) 0 ≤ 3) ∧ (0 ≤ (fset f 2 r) 1 ∧ (fset f 2 r) 1 ≤ 64) ∧ (1 ≤ (fset f 2 r) 2 ∧ (fset f 2 r) 2 ≤ 1024)) := by
    have h := HB.out
    have hr : (fset f 2 r) 2 = r := rfl
    exact ⟨h.1, h.2, hl, hu⟩
  clear cc f1 h1 w1 HB hl hu
  have HB := HN
  clear HN
  generalize fset f 2 r = f at *
  rintro w1 h1
  have cc : w1.cell? ⟨P, 0, none⟩ = some (.int .i64 (f 0)) := (h1.out.2.1.cell 0).trans rfl
  by_cases hk2 : f 0 = 2
  · have t2 : (f 0 != 2) = false := by simp [hk2]
    have HN : Hid (((1 ≤ f 0 ∧ f 0 ≤ 3) ∧ (0 ≤ f 1 ∧ f 1 ≤ 64)) ∧ (f 0 = 2 → 1 ≤ f 2 ∧ f 2 ≤ 1024) ∧ (¬ f 0 = 2 → f 2 = 0)) := by
      have h := HB.out
      exact ⟨⟨h.1, h.2.1⟩, fun _ => h.2.2, fun e => absurd hk2 e⟩
    clear HB hk2
    have HB := HN
    clear HN
    as_aux_lemma =>
      go_upto_region 6 with (fail)
      clear t2 cc
      have cc : w1.cell? ⟨P, 3, none⟩ = some (.int .i64 (f 3)) := (h1.out.2.1.cell 3).trans rfl
      go_wp2_with fail
      refine (within_any (f 3) 0 8459264 _ (by decide) (by decide) (by decide)).mono ?_
      rintro e w2 ⟨rfl, r, rfl, hl, hu⟩
      have f1 := h1.out.2.1.frozen 3
      go_upto_region 7 with (fail)
      refine gen_world (fun w' => Hid (Below w.heap.size w w' ∧ Blk w' P (ncs (fset f 3 r)) 51 ∧ Blk w' P1 #[.int .i64 0, .int .i64 0, .int .i64 0, .int .i64 0, .int .i64 0, .int .i64 0, .int .i64 0, .int .i64 0, .int .i64 0, .int .i64 0, .int .i64 0, .int .i64 0, .int .i64 0, .int .i64 0, .int .i64 0, .int .i64 0, .int .i64 0] 51)) ?_ ?_
      · exact ⟨h1.out.1.setCell HGE.out _, by rw [← ncs_set f 3 _ (by decide)]; exact h1.out.2.1.put 3 _, h1.out.2.2.far HNE.out.2.1 _⟩
      have HN : Hid (((1 ≤ (fset f 3 r) 0 ∧ (fset f 3 r) 0 ≤ 3) ∧ (0 ≤ (fset f 3 r) 1 ∧ (fset f 3 r) 1 ≤ 64)) ∧ ((fset f 3 r) 0 = 2 → 1 ≤ (fset f 3 r) 2 ∧ (fset f 3 r) 2 ≤ 1024) ∧ (¬ (fset f 3 r) 0 = 2 → (fset f 3 r) 2 = 0) ∧ (0 ≤ (fset f 3 r) 3 ∧ (fset f 3 r) 3 ≤ 8459264)) := by
        have h := HB.out
        exact ⟨h.1, h.2.1, h.2.2, hl, hu⟩
      clear cc f1 h1 w1 HB hl hu
      have HB := HN
      clear HN
      generalize fset f 3 r = f at *
      rintro w1 h1
      have cc : w1.cell? ⟨P, 4, none⟩ = some (.int .i64 (f 4)) := (h1.out.2.1.cell 4).trans rfl
      go_wp2_with fail
      refine (within_any (f 4) 0 2048 _ (by decide) (by decide) (by decide)).mono ?_
      rintro e w2 ⟨rfl, r, rfl, hl, hu⟩
      have f1 := h1.out.2.1.frozen 4
      go_upto_region 8 with (fail)
      refine gen_world (fun w' => Hid (Below w.heap.size w w' ∧ Blk w' P (ncs (fset f 4 r)) 51 ∧ Blk w' P1 #[.int .i64 0, .int .i64 0, .int .i64 0, .int .i64 0, .int .i64 0, .int .i64 0, .int .i64 0, .int .i64 0, .int .i64 0, .int .i64 0, .int .i64 0, .int .i64 0, .int .i64 0, .int .i64 0, .int .i64 0, .int .i64 0, .int .i64 0] 51)) ?_ ?_
      · exact ⟨h1.out.1.setCell HGE.out _, by rw [← ncs_set f 4 _ (by decide)]; exact h1.out.2.1.put 4 _, h1.out.2.2.far HNE.out.2.1 _⟩
      have HN : Hid (PK (fset f 4 r) 0) := by
        have h := HB.out
        exact ⟨⟨⟨h.1.1, h.1.2, h.2.2.2, hl, hu⟩, h.2.1, h.2.2.1⟩, fun i hi => absurd hi (Nat.not_lt_zero i)⟩
      clear cc f1 h1 w1 HB hl hu
      have HB := HN
      clear HN
      generalize fset f 4 r = f at *
      rintro w1 h1
      go_wp2_with fail
      go_loopw [3] (fun i wr => ∃ (j : Nat) (f : Nat → Int), i = .int .i64 j ∧ j ≤ 10 ∧ Hid (PK f j) ∧ Hid (Below w.heap.size w wr ∧ Blk wr P (ncs f) 51 ∧ Blk wr P1 #[.int .i64 0, .int .i64 0, .int .i64 0, .int .i64 0, .int .i64 0, .int .i64 0, .int .i64 0, .int .i64 0, .int .i64 0, .int .i64 0, .int .i64 0, .int .i64 0, .int .i64 0, .int .i64 0, .int .i64 0, .int .i64 0, .int .i64 0] 51)) (fun i _ => 10 - (intOf i).toNat)
      case atStart => exact ⟨0, f, rfl, by omega, HB, h1⟩
      case round =>
        clear h1 HB f
        obtain ⟨j, f, rfl, hj, HB, h1⟩ := hrel
        by_cases hlt : j < 10
        · have cc : wr.cell? ⟨P, 5 + j, none⟩ = some (.int .i64 (f (5 + j))) := (h1.out.2.1.cell (5 + j)).trans (ncs_get f (5 + j) (by omega))
          have ff := h1.out.2.1.frozen (5 + j)
          generalize hv : f (5 + j) = v at cc
          clear hv
          go_wp2_with fail
          refine (within_any v 0 2047 _ (by decide) (by decide) (by decide)).mono ?_
          rintro e w2 ⟨rfl, r, rfl, hl, hu⟩
          go_wp2_with fail
          exact ⟨⟨j + 1, fset f (5 + j) r, by go_num, by omega, pk_set HB.out (by omega) hl hu, h1.out.1.setCell HGE.out _, by rw [← ncs_set f (5 + j) _ (by omega)]; exact h1.out.2.1.put (5 + j) _, h1.out.2.2.far HNE.out.2.1 _⟩, by simp [intOf]; omega⟩
        · obtain rfl : j = 10 := by omega
          generalize wr = w1 at *
          have cc : w1.cell? ⟨P, 15, none⟩ = some (.int .i64 (f 15)) := (h1.out.2.1.cell 15).trans rfl
          go_wp2_with fail
          refine (within_any (f 15) 0 2047 _ (by decide) (by decide) (by decide)).mono ?_
          rintro e w2 ⟨rfl, r, rfl, hl, hu⟩
          have f1 := h1.out.2.1.frozen 15
          go_upto_region 13 with (fail)
          refine gen_world (fun w' => Hid (Below w.heap.size w w' ∧ Blk w' P (ncs (fset f 15 r)) 51 ∧ Blk w' P1 #[.int .i64 0, .int .i64 0, .int .i64 0, .int .i64 0, .int .i64 0, .int .i64 0, .int .i64 0, .int .i64 0, .int .i64 0, .int .i64 0, .int .i64 0, .int .i64 0, .int .i64 0, .int .i64 0, .int .i64 0, .int .i64 0, .int .i64 0] 51)) ?_ ?_
          · exact ⟨h1.out.1.setCell HGE.out _, by rw [← ncs_set f 15 _ (by decide)]; exact h1.out.2.1.put 15 _, h1.out.2.2.far HNE.out.2.1 _⟩
          have HN : Hid (PK (fset f 15 r) 11) := by
            have h := HB.out
            exact pk_set (j := 10) h (by decide) hl hu
          clear cc f1 h1 w1 HB hl hu
          have HB := HN
          clear HN
          generalize fset f 15 r = f at *
          rintro w1 h1
          have cc : w1.cell? ⟨P, 16, none⟩ = some (.int .i64 (f 16)) := (h1.out.2.1.cell 16).trans rfl
          go_wp2_with fail
          refine (within_any (f 16) 0 2047 _ (by decide) (by decide) (by decide)).mono ?_
          rintro e w2 ⟨rfl, r, rfl, hl, hu⟩
          have f1 := h1.out.2.1.frozen 16
          go_upto_region 14 with (fail)
          refine gen_world (fun w' => Hid (Below w.heap.size w w' ∧ Blk w' P (ncs (fset f 16 r)) 51 ∧ Blk w' P1 #[.int .i64 0, .int .i64 0, .int .i64 0, .int .i64 0, .int .i64 0, .int .i64 0, .int .i64 0, .int .i64 0, .int .i64 0, .int .i64 0, .int .i64 0, .int .i64 0, .int .i64 0, .int .i64 0, .int .i64 0, .int .i64 0, .int .i64 0] 51)) ?_ ?_
          · exact ⟨h1.out.1.setCell HGE.out _, by rw [← ncs_set f 16 _ (by decide)]; exact h1.out.2.1.put 16 _, h1.out.2.2.far HNE.out.2.1 _⟩
          have HN : Hid (PK (fset f 16 r) 12) := by
            have h := HB.out
            exact pk_set (j := 11) h (by decide) hl hu
          clear cc f1 h1 w1 HB hl hu
          have HB := HN
          clear HN
          generalize fset f 16 r = f at *
          rintro w1 h1
          have hk := h1.out.2.1
          have hk1 := h1.out.2.2
          go_wp2_with (first | (refine wpList_load_row rfl 51 _ rfl P rfl 51 (ncs f) (0, 0) _ hk Try.underlying51 rfl (by kernel_rfl) ?_) | (refine wpList_store_row rfl 51 _ _ rfl P1 (ncs f) rfl rfl 51 _ hk1 (by kernel_rfl) rfl (by kernel_rfl) ?_))
          refine gen_body (fun w9 => Hid (Blk w9 P1 (ncs f) 51 ∧ Below w.heap.size w w9)) ?_ ?_
          · exact ⟨setRow_heap _ _ _ _ _ _ hk1, h1.out.1.trans ((only_row _ _ _).below HNE.out.2.2)⟩
          rintro w9 h9
          have hlv := run_loadVar_row (P := Try.prog) w9 P1 51 51 (ncs f) (0, 0) _ h9.out.1 Try.underlying51 rfl (by kernel_rfl)
          exact bodyPost_ret (v := .agg (ncs f)) (by simp [results, Try.results38, asAddr, hlv, Act.put]) rfl ⟨f, (pk_all f).1 HB.out, rfl, h9.out.2⟩
  · have t2 : (f 0 != 2) = true := by simp [hk2]
    have c2 : w1.cell? ⟨P, 2, none⟩ = some (.int .i64 (f 2)) := (h1.out.2.1.cell 2).trans rfl
    have f1 := h1.out.2.1.frozen 2
    have HK2 := Lib.hid hk2
    clear hk2
    as_aux_lemma =>
      go_upto_region 6 with (fail)
      refine gen_world (fun w' => Hid (Below w.heap.size w w' ∧ Blk w' P (ncs (fset f 2 0)) 51 ∧ Blk w' P1 #[.int .i64 0, .int .i64 0, .int .i64 0, .int .i64 0, .int .i64 0, .int .i64 0, .int .i64 0, .int .i64 0, .int .i64 0, .int .i64 0, .int .i64 0, .int .i64 0, .int .i64 0, .int .i64 0, .int .i64 0, .int .i64 0, .int .i64 0] 51)) ?_ ?_
      · exact ⟨h1.out.1.setCell HGE.out _, by rw [← ncs_set f 2 _ (by decide)]; exact h1.out.2.1.put 2 _, h1.out.2.2.far HNE.out.2.1 _⟩
      have HN : Hid (((1 ≤ (fset f 2 0) 0 ∧ (fset f 2 0) 0 ≤ 3) ∧ (0 ≤ (fset f 2 0) 1 ∧ (fset f 2 0) 1 ≤ 64)) ∧ ((fset f 2 0) 0 = 2 → 1 ≤ (fset f 2 0) 2 ∧ (fset f 2 0) 2 ≤ 1024) ∧ (¬ (fset f 2 0) 0 = 2 → (fset f 2 0) 2 = 0)) := by
        have h := HB.out
        exact ⟨⟨h.1, h.2.1⟩, fun e => absurd e HK2.out, fun _ => rfl⟩
      clear t2 cc c2 f1 h1 w1 HB HK2
      have HB := HN
      clear HN
      generalize fset f 2 0 = f at *
      rintro w1 h1
      have cc : w1.cell? ⟨P, 3, none⟩ = some (.int .i64 (f 3)) := (h1.out.2.1.cell 3).trans rfl
      go_wp2_with fail
      refine (within_any (f 3) 0 8459264 _ (by decide) (by decide) (by decide)).mono ?_
      rintro e w2 ⟨rfl, r, rfl, hl, hu⟩
      have f1 := h1.out.2.1.frozen 3
      go_upto_region 7 with (fail)
      refine gen_world (fun w' => Hid (Below w.heap.size w w' ∧ Blk w' P (ncs (fset f 3 r)) 51 ∧ Blk w' P1 #[.int .i64 0, .int .i64 0, .int .i64 0, .int .i64 0, .int .i64 0, .int .i64 0, .int .i64 0, .int .i64 0, .int .i64 0, .int .i64 0, .int .i64 0, .int .i64 0, .int .i64 0, .int .i64 0, .int .i64 0, .int .i64 0, .int .i64 0] 51)) ?_ ?_
      · exact ⟨h1.out.1.setCell HGE.out _, by rw [← ncs_set f 3 _ (by decide)]; exact h1.out.2.1.put 3 _, h1.out.2.2.far HNE.out.2.1 _⟩
      have HN : Hid (((1 ≤ (fset f 3 r) 0 ∧ (fset f 3 r) 0 ≤ 3) ∧ (0 ≤ (fset f 3 r) 1 ∧ (fset f 3 r) 1 ≤ 64)) ∧ ((fset f 3 r) 0 = 2 → 1 ≤ (fset f 3 r) 2 ∧ (fset f 3 r) 2 ≤ 1024) ∧ (¬ (fset f 3 r) 0 = 2 → (fset f 3 r) 2 = 0) ∧ (0 ≤ (fset f 3 r) 3 ∧ (fset f 3 r) 3 ≤ 8459264)) := by
        have h := HB.out
        exact ⟨h.1, h.2.1, h.2.2, hl, hu⟩
      clear cc f1 h1 w1 HB hl hu
      have HB := HN
      clear HN
      generalize fset f 3 r = f at *
      rintro w1 h1
      have cc : w1.cell? ⟨P, 4, none⟩ = some (.int .i64 (f 4)) := (h1.out.2.1.cell 4).trans rfl
      go_wp2_with fail
      refine (within_any (f 4) 0 2048 _ (by decide) (by decide) (by decide)).mono ?_
      rintro e w2 ⟨rfl, r, rfl, hl, hu⟩
      have f1 := h1.out.2.1.frozen 4
      go_upto_region 8 with (fail)
      refine gen_world (fun w' => Hid (Below w.heap.size w w' ∧ Blk w' P (ncs (fset f 4 r)) 51 ∧ Blk w' P1 #[.int .i64 0, .int .i64 0, .int .i64 0, .int .i64 0, .int .i64 0, .int .i64 0, .int .i64 0, .int .i64 0, .int .i64 0, .int .i64 0, .int .i64 0, .int .i64 0, .int .i64 0, .int .i64 0, .int .i64 0, .int .i64 0, .int .i64 0] 51)) ?_ ?_
      · exact ⟨h1.out.1.setCell HGE.out _, by rw [← ncs_set f 4 _ (by decide)]; exact h1.out.2.1.put 4 _, h1.out.2.2.far HNE.out.2.1 _⟩
      have HN : Hid (PK (fset f 4 r) 0) := by
        have h := HB.out
        exact ⟨⟨⟨h.1.1, h.1.2, h.2.2.2, hl, hu⟩, h.2.1, h.2.2.1⟩, fun i hi => absurd hi (Nat.not_lt_zero i)⟩
      clear cc f1 h1 w1 HB hl hu
      have HB := HN
      clear HN
      generalize fset f 4 r = f at *
      rintro w1 h1
      go_wp2_with fail
      go_loopw [3] (fun i wr => ∃ (j : Nat) (f : Nat → Int), i = .int .i64 j ∧ j ≤ 10 ∧ Hid (PK f j) ∧ Hid (Below w.heap.size w wr ∧ Blk wr P (ncs f) 51 ∧ Blk wr P1 #[.int .i64 0, .int .i64 0, .int .i64 0, .int .i64 0, .int .i64 0, .int .i64 0, .int .i64 0, .int .i64 0, .int .i64 0, .int .i64 0, .int .i64 0, .int .i64 0, .int .i64 0, .int .i64 0, .int .i64 0, .int .i64 0, .int .i64 0] 51)) (fun i _ => 10 - (intOf i).toNat)
      case atStart => exact ⟨0, f, rfl, by omega, HB, h1⟩
      case round =>
        clear h1 HB f
        obtain ⟨j, f, rfl, hj, HB, h1⟩ := hrel
        by_cases hlt : j < 10
        · have cc : wr.cell? ⟨P, 5 + j, none⟩ = some (.int .i64 (f (5 + j))) := (h1.out.2.1.cell (5 + j)).trans (ncs_get f (5 + j) (by omega))
          have ff := h1.out.2.1.frozen (5 + j)
          generalize hv : f (5 + j) = v at cc
          clear hv
          go_wp2_with fail
          refine (within_any v 0 2047 _ (by decide) (by decide) (by decide)).mono ?_
          rintro e w2 ⟨rfl, r, rfl, hl, hu⟩
          go_wp2_with fail
          exact ⟨⟨j + 1, fset f (5 + j) r, by go_num, by omega, pk_set HB.out (by omega) hl hu, h1.out.1.setCell HGE.out _, by rw [← ncs_set f (5 + j) _ (by omega)]; exact h1.out.2.1.put (5 + j) _, h1.out.2.2.far HNE.out.2.1 _⟩, by simp [intOf]; omega⟩
        · obtain rfl : j = 10 := by omega
          generalize wr = w1 at *
          have cc : w1.cell? ⟨P, 15, none⟩ = some (.int .i64 (f 15)) := (h1.out.2.1.cell 15).trans rfl
          go_wp2_with fail
          refine (within_any (f 15) 0 2047 _ (by decide) (by decide) (by decide)).mono ?_
          rintro e w2 ⟨rfl, r, rfl, hl, hu⟩
          have f1 := h1.out.2.1.frozen 15
          go_upto_region 13 with (fail)
          refine gen_world (fun w' => Hid (Below w.heap.size w w' ∧ Blk w' P (ncs (fset f 15 r)) 51 ∧ Blk w' P1 #[.int .i64 0, .int .i64 0, .int .i64 0, .int .i64 0, .int .i64 0, .int .i64 0, .int .i64 0, .int .i64 0, .int .i64 0, .int .i64 0, .int .i64 0, .int .i64 0, .int .i64 0, .int .i64 0, .int .i64 0, .int .i64 0, .int .i64 0] 51)) ?_ ?_
          · exact ⟨h1.out.1.setCell HGE.out _, by rw [← ncs_set f 15 _ (by decide)]; exact h1.out.2.1.put 15 _, h1.out.2.2.far HNE.out.2.1 _⟩
          have HN : Hid (PK (fset f 15 r) 11) := by
            have h := HB.out
            exact pk_set (j := 10) h (by decide) hl hu
          clear cc f1 h1 w1 HB hl hu
          have HB := HN
          clear HN
          generalize fset f 15 r = f at *
          rintro w1 h1
          have cc : w1.cell? ⟨P, 16, none⟩ = some (.int .i64 (f 16)) := (h1.out.2.1.cell 16).trans rfl
          go_wp2_with fail
          refine (within_any (f 16) 0 2047 _ (by decide) (by decide) (by decide)).mono ?_
          rintro e w2 ⟨rfl, r, rfl, hl, hu⟩
          have f1 := h1.out.2.1.frozen 16
          go_upto_region 14 with (fail)
          refine gen_world (fun w' => Hid (Below w.heap.size w w' ∧ Blk w' P (ncs (fset f 16 r)) 51 ∧ Blk w' P1 #[.int .i64 0, .int .i64 0, .int .i64 0, .int .i64 0, .int .i64 0, .int .i64 0, .int .i64 0, .int .i64 0, .int .i64 0, .int .i64 0, .int .i64 0, .int .i64 0, .int .i64 0, .int .i64 0, .int .i64 0, .int .i64 0, .int .i64 0] 51)) ?_ ?_
          · exact ⟨h1.out.1.setCell HGE.out _, by rw [← ncs_set f 16 _ (by decide)]; exact h1.out.2.1.put 16 _, h1.out.2.2.far HNE.out.2.1 _⟩
          have HN : Hid (PK (fset f 16 r) 12) := by
            have h := HB.out
            exact pk_set (j := 11) h (by decide) hl hu
          clear cc f1 h1 w1 HB hl hu
          have HB := HN
          clear HN
          generalize fset f 16 r = f at *
          rintro w1 h1
          have hk := h1.out.2.1
          have hk1 := h1.out.2.2
          go_wp2_with (first | (refine wpList_load_row rfl 51 _ rfl P rfl 51 (ncs f) (0, 0) _ hk Try.underlying51 rfl (by kernel_rfl) ?_) | (refine wpList_store_row rfl 51 _ _ rfl P1 (ncs f) rfl rfl 51 _ hk1 (by kernel_rfl) rfl (by kernel_rfl) ?_))
          refine gen_body (fun w9 => Hid (Blk w9 P1 (ncs f) 51 ∧ Below w.heap.size w w9)) ?_ ?_
          · exact ⟨setRow_heap _ _ _ _ _ _ hk1, h1.out.1.trans ((only_row _ _ _).below HNE.out.2.2)⟩
          rintro w9 h9
          have hlv := run_loadVar_row (P := Try.prog) w9 P1 51 51 (ncs f) (0, 0) _ h9.out.1 Try.underlying51 rfl (by kernel_rfl)
          exact bodyPost_ret (v := .agg (ncs f)) (by simp [results, Try.results38, asAddr, hlv, Act.put]) rfl ⟨f, (pk_all f).1 HB.out, rfl, h9.out.2⟩
end Go.Proofs.Ytefmihbjboacdaa.TameNode
