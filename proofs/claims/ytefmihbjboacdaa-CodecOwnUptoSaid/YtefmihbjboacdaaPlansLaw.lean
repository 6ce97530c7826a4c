/- CodecPlans: every Plan is the document's, at all numbers; no condition. -/
import Derived.Test.YtefmihbjboacdaaPlan
import Derived.Test.YtefmihbjboacdaaKit
import Derived.Deep.CutBlock
namespace Go.Proofs.Ytefmihbjboacdaa.PlansLaw
open Go.ChangeShapes Go.WideShapes Go.ChangeAt Go.RowKit
open Go.Proofs.Ytefmihbjboacdaa.Plan Go.Proofs.Ytefmihbjboacdaa.Kit
set_option linter.unusedVariables false

theorem answer_form (a b c : Int) : ∃ x0 x1 x2 x3 x4 e : Int, answer a b c = .tuple #[.agg #[.int .i64 x0, .int .i64 x1, .int .i64 x2, .int .i64 x3, .int .i64 x4], .int .i64 e] := by
  unfold answer planned refused
  split
  · exact ⟨_, _, _, _, _, _, rfl⟩
  · exact ⟨_, _, _, _, _, _, rfl⟩

/-- the cells of a slice of geometries -/
def Supers (w : World) (A : Option Addr) (n : Nat) (g : Nat → Int × Int × Int) : Prop :=
  ∀ i, i < n → ∃ ad, A = some ad ∧ w.cell? (ad.add (i * 3)) = some (.int .i64 (g i).1) ∧ w.cell? ⟨(ad.add (i * 3)).block, (ad.add (i * 3)).off + 1, none⟩ = some (.int .i64 (g i).2.1) ∧ w.cell? ⟨(ad.add (i * 3)).block, (ad.add (i * 3)).off + 2, none⟩ = some (.int .i64 (g i).2.2)

set_option maxHeartbeats 800000 in
theorem law_any (A : Option Addr) (n c : Nat) (g : Nat → Int × Int × Int) (w : World) (hn : n ≤ 9223372036854775807) (H : Hid (Supers w A n g)) :
    Calls Try.prog 4 #[.slice A n c] w fun e w' => e = .returned (.bool true) ∧ Below w.heap.size w w' := by
  go_enter Try.func4, Try.ntmps4
  go_wp2_with fail
  refine (plan_any _ _ _ _).mono ?_
  rw [answer_yes (by decide)]
  unfold planned
  rintro e w1 ⟨rfl, hb⟩
  have hs := hb.size
  have HB := Lib.hid hb
  clear hb
  go_wp2_with fail
  generalize hB : w1.heap.size = B at *
  have HBB := Lib.hid hB
  clear hB
  go_loopw [5] (fun i wr => ∃ (k : Nat) (x0 x1 x2 x3 x4 : Int), i = .int .i64 k ∧ k ≤ n ∧ Hid (Blk wr B #[.int .i64 x0, .int .i64 x1, .int .i64 x2, .int .i64 x3, .int .i64 x4] 25) ∧ Hid (Below w.heap.size w wr)) (fun i _ => n - (intOf i).toNat)
  case atStart =>
    refine ⟨0, 18, 21, 4, 4, 3, rfl, Nat.zero_le _, ?_, ?_⟩
    · rw [← HBB.out]; exact Blk.new _ _ _
    · exact HB.out.alloc (by rw [HBB.out]; exact hs) _
  case round =>
    obtain ⟨k, x0, x1, x2, x3, x4, rfl, hk, HK, HW⟩ := hrel
    by_cases hlt : k < n
    · obtain ⟨ad, rfl, h0, h1, h2⟩ := H.out k hlt
      have hne : ¬ (ad.add (k * 3)).block = B := by have := World.block_lt_of_cell? w _ h0; omega
      have hne' : ¬ B = (ad.add (k * 3)).block := fun h => hne h.symm
      have H0 := Lib.hid h0
      have H1 := Lib.hid h1
      have H2 := Lib.hid h2
      rw [← HW.out.cell (World.block_lt_of_cell? w _ h0)] at h0
      rw [← HW.out.cell (World.block_lt_of_cell? w _ h1)] at h1
      rw [← HW.out.cell (World.block_lt_of_cell? w _ h2)] at h2
      go_wp2_with fail
      obtain ⟨y0, y1, y2, y3, y4, f, hans⟩ := answer_form (g k).1 (g k).2.1 (g k).2.2
      have HA := Lib.hid hans
      clear hans
      refine (plan_any _ _ _ _).mono ?_
      rw [HA.out]
      rintro e w2 ⟨rfl, hb2⟩
      have HW2 := Lib.hid (HW.out.trans (hb2.mono (HW.out.size)))
      have HK2 := Lib.hid (HK.out.below hb2 HK.out.lt)
      have HB2 := Lib.hid hb2
      clear hb2
      have c0 : w2.cell? ⟨B, 0, none⟩ = some (.int .i64 x0) := (HK2.out.cell 0).trans rfl
      have c1 : w2.cell? ⟨B, 1, none⟩ = some (.int .i64 x1) := (HK2.out.cell 1).trans rfl
      have c2 : w2.cell? ⟨B, 2, none⟩ = some (.int .i64 x2) := (HK2.out.cell 2).trans rfl
      have c3 : w2.cell? ⟨B, 3, none⟩ = some (.int .i64 x3) := (HK2.out.cell 3).trans rfl
      have c4 : w2.cell? ⟨B, 4, none⟩ = some (.int .i64 x4) := (HK2.out.cell 4).trans rfl
      have f0 := HK2.out.frozen
      go_upto_region 8 with (fail)
      refine gen_world (fun w' => Blk w' B #[.int .i64 y0, .int .i64 y1, .int .i64 y2, .int .i64 y3, .int .i64 y4] 25 ∧ Below w.heap.size w w') ?_ ?_
      · exact ⟨((((HK2.out.put 0 _).put 1 _).put 2 _).put 3 _).put 4 _, ((((HW2.out.setCell hs _).setCell hs _).setCell hs _).setCell hs _).setCell hs _⟩
      clear c0 c1 c2 c3 c4 f0 HK2 HW2 HB2 h0 h1 h2
      rintro w3 ⟨hk3, hw3⟩
      have HK3 := Lib.hid hk3
      have HW3 := Lib.hid hw3
      clear hk3 hw3
      have h0 := (HW3.out.cell (World.block_lt_of_cell? w _ H0.out)).trans H0.out
      have h1 := (HW3.out.cell (World.block_lt_of_cell? w _ H1.out)).trans H1.out
      have h2 := (HW3.out.cell (World.block_lt_of_cell? w _ H2.out)).trans H2.out
      go_wp2_with fail
      refine (ref_any _ _ _ _).mono ?_
      rw [HA.out]
      rintro e w4 ⟨rfl, hb4⟩
      have HK4 := Lib.hid (HK3.out.below hb4 HK3.out.lt)
      have HW4 := Lib.hid (HW3.out.trans (hb4.mono HW3.out.size))
      clear hb4 h0 h1 h2
      have c0 : w4.cell? ⟨B, 0, none⟩ = some (.int .i64 y0) := (HK4.out.cell 0).trans rfl
      have c1 : w4.cell? ⟨B, 1, none⟩ = some (.int .i64 y1) := (HK4.out.cell 1).trans rfl
      have c2 : w4.cell? ⟨B, 2, none⟩ = some (.int .i64 y2) := (HK4.out.cell 2).trans rfl
      have c3 : w4.cell? ⟨B, 3, none⟩ = some (.int .i64 y3) := (HK4.out.cell 3).trans rfl
      have c4 : w4.cell? ⟨B, 4, none⟩ = some (.int .i64 y4) := (HK4.out.cell 4).trans rfl
      have hlt4 := HK4.out.lt
      have hle4 := HW4.out.size
      go_wp2_with fail
      go_roundw
      case rel => exact ⟨k + 1, y0, y1, y2, y3, y4, by go_num, by omega, HK4.out.alloc _, HW4.out.alloc hle4 _⟩
      case measure => simp [intOf]; omega
    · go_wp2_with fail
      go_ret
      exact ⟨rfl, HW.out⟩
end Go.Proofs.Ytefmihbjboacdaa.PlansLaw
