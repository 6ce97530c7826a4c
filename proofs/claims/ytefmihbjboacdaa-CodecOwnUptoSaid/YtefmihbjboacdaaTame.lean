/- within: any number brought into lo .. hi; tame, tameSuper: a node, a geometry that fits. -/
import Derived.Test.YtefmihbjboacdaaForms
namespace Go.Proofs.Ytefmihbjboacdaa.Tame
open Go.ChangeShapes Go.WideShapes Go.ChangeAt Go.RowKit
open Go.Proofs.Ytefmihbjboacdaa.Kit Go.Proofs.Ytefmihbjboacdaa.Plan Go.Proofs.Ytefmihbjboacdaa.NodeLay Go.Proofs.Ytefmihbjboacdaa.NodeCells Go.Proofs.Ytefmihbjboacdaa.Forms
open Go.Proofs.Ytefmihbjboacdaa.NodeDecAll (gen_body)
set_option linter.unusedVariables false

def InPost (lo hi : Int) (w : World) (e : Ending) (w' : World) : Prop := w = w' ∧ ∃ r : Int, e = .returned (.int .i64 r) ∧ lo ≤ r ∧ r ≤ hi
set_option maxRecDepth 100000 in
theorem within_any (v lo hi : Int) (w : World) (h0 : 0 ≤ lo) (h1 : lo ≤ hi) (h2 : hi ≤ 8459264) : Calls Try.prog 44 #[.int .i64 v, .int .i64 lo, .int .i64 hi] w (InPost lo hi w) := by
  have hn0 : 0 < hi - lo + 1 := by omega
  have B1 := Lib.hid (Int.tmod_lt_of_pos v hn0)
  have B2 := Lib.hid (Int.lt_tmod_of_pos v hn0)
  go_enter Try.func44, Try.ntmps44
  go_upto_region 3 with (fail)
  obtain ⟨r, hr⟩ : ∃ r, v.tmod (hi - lo + 1) = r := ⟨_, rfl⟩
  rw [hr] at B1 B2 ⊢
  have b1 := B1.out
  have b2 := B2.out
  clear hr B1 B2
  by_cases hneg : r < 0
  · go_wp2_with fail
    go_ret
    exact ⟨rfl, _, rfl, by omega, by omega⟩
  · go_wp2_with fail
    go_ret
    exact ⟨rfl, _, rfl, by omega, by omega⟩

def SuperPost (w : World) (e : Ending) (w' : World) : Prop := ∃ a b c : Nat, Fits a b c ∧ e = .returned (.agg #[.int .i64 a, .int .i64 b, .int .i64 c]) ∧ Hid (Below w.heap.size w w')
set_option maxRecDepth 100000 in
set_option maxHeartbeats 1600000 in
theorem tameSuper_any (x y z : Int) (w : World) : Calls Try.prog 40 #[.agg #[.int .i64 x, .int .i64 y, .int .i64 z]] w (SuperPost w) := by
  go_enter Try.func40, Try.ntmps40
  go_upto_region 1 with (fail)
  obtain ⟨P, hP⟩ : ∃ P, w.heap.size = P := ⟨_, rfl⟩
  rw [hP]
  refine gen_world (fun w' => Hid (Below w.heap.size w w' ∧ Blk w' P #[.int .i64 x, .int .i64 y, .int .i64 z] 30 ∧ Blk w' (P + 1) #[.int .i64 0, .int .i64 0, .int .i64 0] 30)) ?_ ?_
  · subst hP
    refine ⟨((Below.refl _ _).alloc (Nat.le_refl _) _).alloc (by simp) _, (Blk.new w _ _).alloc _, ?_⟩
    have h := Blk.new (w.alloc (.cells #[.int .i64 x, .int .i64 y, .int .i64 z] 30)) #[.int .i64 0, .int .i64 0, .int .i64 0] 30
    simpa using h
  have HGE : Hid (w.heap.size ≤ P) := by show _ ≤ _; omega
  clear hP
  obtain ⟨P1, hP1⟩ : ∃ P1, P + 1 = P1 := ⟨_, rfl⟩
  rw [hP1]
  have HNE : Hid (P ≠ P1 ∧ P1 ≠ P ∧ w.heap.size ≤ P1) := ⟨by omega, by omega, by have := HGE.out; omega⟩
  clear hP1
  rintro w1 h1
  have c1 : w1.cell? ⟨P, 1, none⟩ = some (.int .i64 y) := (h1.out.2.1.cell 1).trans rfl
  go_wp2_with fail
  refine (within_any y 18 256 _ (by decide) (by decide) (by decide)).mono ?_
  rintro e w2 ⟨rfl, b, rfl, hb1, hb2⟩
  have f1 := h1.out.2.1.frozen 1
  go_upto_region 2 with (fail)
  refine gen_world (fun w' => Hid (Below w.heap.size w w' ∧ Blk w' P #[.int .i64 x, .int .i64 b, .int .i64 z] 30 ∧ Blk w' P1 #[.int .i64 0, .int .i64 0, .int .i64 0] 30)) ?_ ?_
  · exact ⟨h1.out.1.setCell HGE.out _, h1.out.2.1.put 1 _, h1.out.2.2.far HNE.out.2.1 _⟩
  clear c1 f1 h1 w1
  rintro w1 h1
  have c1 : w1.cell? ⟨P, 2, none⟩ = some (.int .i64 z) := (h1.out.2.1.cell 2).trans rfl
  go_wp2_with fail
  refine (within_any z 1 256 _ (by decide) (by decide) (by decide)).mono ?_
  rintro e w2 ⟨rfl, c, rfl, hc1, hc2⟩
  have f1 := h1.out.2.1.frozen 2
  have hw4 : IntKind.i64.wrap (4 * c) = 4 * c := by
    simp [IntKind.wrap, IntKind.bits, IntKind.signed]
    omega
  go_upto_region 3 with (fail)
  refine gen_world (fun w' => Hid (Below w.heap.size w w' ∧ Blk w' P #[.int .i64 x, .int .i64 b, .int .i64 (4 * c)] 30 ∧ Blk w' P1 #[.int .i64 0, .int .i64 0, .int .i64 0] 30)) ?_ ?_
  · exact ⟨h1.out.1.setCell HGE.out _, h1.out.2.1.put 2 _, h1.out.2.2.far HNE.out.2.1 _⟩
  clear c1 f1 h1 hw4 w1
  rintro w1 h1
  have c0 : w1.cell? ⟨P, 0, none⟩ = some (.int .i64 x) := (h1.out.2.1.cell 0).trans rfl
  have c1 : w1.cell? ⟨P, 1, none⟩ = some (.int .i64 b) := (h1.out.2.1.cell 1).trans rfl
  have c2 : w1.cell? ⟨P, 2, none⟩ = some (.int .i64 (4 * c)) := (h1.out.2.1.cell 2).trans rfl
  have hq : Int.tdiv (4 * c) 4 = c := by
    rw [Int.mul_comm]
    exact Int.mul_tdiv_cancel _ (by decide)
  have hq2 : (4 * c) / 4 = c := by omega
  go_wp2_with fail
  refine (within_any x (3 + b + 2 + c + 1) 2048 _ (by omega) (by omega) (by decide)).mono ?_
  rintro e w2 ⟨rfl, a, rfl, ha1, ha2⟩
  have f1 := h1.out.2.1.frozen 0
  go_upto_region 4 with (fail)
  refine gen_world (fun w' => Hid (Below w.heap.size w w' ∧ Blk w' P #[.int .i64 a, .int .i64 b, .int .i64 (4 * c)] 30 ∧ Blk w' P1 #[.int .i64 0, .int .i64 0, .int .i64 0] 30)) ?_ ?_
  · exact ⟨h1.out.1.setCell HGE.out _, h1.out.2.1.put 0 _, h1.out.2.2.far HNE.out.2.1 _⟩
  clear c0 c1 c2 f1 h1 hq hq2 w1
  rintro w1 h1
  have hFit : Fits a b (4 * c) := ⟨by omega, by omega, by omega, by omega, by omega, by omega, by omega⟩
  have HFit := Lib.hid hFit
  have HA0 : Hid (0 ≤ a ∧ 0 ≤ b ∧ 0 ≤ c) := ⟨by omega, by omega, by omega⟩
  clear hFit ha1 ha2 hb1 hb2 hc1 hc2
  have hk := h1.out.2.1
  have hk1 := h1.out.2.2
  generalize h4c : 4 * c = c4 at *
  have H4C := Lib.hid h4c
  clear h4c
  go_wp2_with (first | (refine wpList_load_row rfl 30 _ rfl P rfl 30 #[.int .i64 a, .int .i64 b, .int .i64 c4] (0, 0) _ hk Try.underlying30 rfl (by kernel_rfl) ?_) | (refine wpList_store_row rfl 30 _ _ rfl P1 #[.int .i64 a, .int .i64 b, .int .i64 c4] rfl rfl 30 _ hk1 (by kernel_rfl) rfl (by kernel_rfl) ?_))
  refine gen_body (fun w9 => Hid (Blk w9 P1 #[.int .i64 a, .int .i64 b, .int .i64 c4] 30 ∧ Below w.heap.size w w9)) ?_ ?_
  · exact ⟨setRow_heap _ _ _ _ _ _ hk1, h1.out.1.trans ((only_row _ _ _).below HNE.out.2.2)⟩
  rintro w9 h9
  have hlv := run_loadVar_row (P := Try.prog) w9 P1 30 30 #[.int .i64 a, .int .i64 b, .int .i64 c4] (0, 0) _ h9.out.1 Try.underlying30 rfl (by kernel_rfl)
  obtain ⟨g1, g2, g3⟩ := HA0.out
  have g4 : 0 ≤ c4 := by have := H4C.out; omega
  have hF := HFit.out
  obtain ⟨a, rfl⟩ := Int.eq_ofNat_of_zero_le g1
  obtain ⟨b, rfl⟩ := Int.eq_ofNat_of_zero_le g2
  obtain ⟨d, rfl⟩ := Int.eq_ofNat_of_zero_le g4
  exact bodyPost_ret (v := .agg #[.int .i64 a, .int .i64 b, .int .i64 d]) (by simp [results, Try.results40, asAddr, hlv, Act.put]) rfl ⟨a, b, d, hF, rfl, h9.out.2⟩
end Go.Proofs.Ytefmihbjboacdaa.Tame
