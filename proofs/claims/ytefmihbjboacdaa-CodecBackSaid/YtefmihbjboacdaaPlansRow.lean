/- CodecPlans: every Plan is the document's, at all numbers; no condition. -/
import Derived.Test.YtefmihbjboacdaaPlansLaw
import Derived.Test.YtefmihbjboacdaaStructs
namespace Go.Proofs.Ytefmihbjboacdaa.codecPlans
open Go.ChangeShapes Go.WideShapes Go.ChangeAt Go.RowKit Go.Deep
open Go.Proofs.Ytefmihbjboacdaa.PlansLaw Go.Proofs.Ytefmihbjboacdaa.Structs
set_option linter.unusedVariables false

set_option maxRecDepth 100000 in
theorem supers_of {H : Type} {enc : TypeId × Value → H} {W : World} {base : Nat} {v : Value} {d : DataW H} {p : List MemPlace}
    (hv : Value.okWide Try.prog W .any base 23 v) (h : DataW.Trod enc Try.prog W 0 (fun _ => true) true 23 v d p) :
    ∃ A n c g, v = .slice A n c ∧ n ≤ 9223372036854775807 ∧ Supers W A n g := by
  obtain ⟨A, n, c, rfl⟩ := okWide_slice Try.underlying23 hv
  obtain ⟨fuel, hf⟩ := h
  rcases open_slice_fields Try.underlying23 Try.underlying30 (by kernel_rfl) (by kernel_rfl) hf with ⟨hcs, _⟩ | ⟨a, len, cap, m, D, Pl, hcs, _, hl, hm, hmm, hx, hi⟩
  · simp [Value.cells] at hcs
    obtain ⟨rfl, rfl, rfl⟩ := hcs
    exact ⟨none, 0, 0, fun _ => (0, 0, 0), rfl, by omega, fun i h => by omega⟩
  · simp [Value.cells] at hcs
    obtain ⟨rfl, rfl, rfl⟩ := hcs
    simp at hmm
    subst hmm
    have key : ∀ i, ∃ q : Int × Int × Int, i < n → W.cell? (a.add (i * 3)) = some (.int .i64 q.1) ∧ W.cell? ⟨(a.add (i * 3)).block, (a.add (i * 3)).off + 1, none⟩ = some (.int .i64 q.2.1) ∧ W.cell? ⟨(a.add (i * 3)).block, (a.add (i * 3)).off + 2, none⟩ = some (.int .i64 q.2.2) := by
      intro i
      by_cases hlt : i < n
      · obtain ⟨ys, n', _, _, _, hfld⟩ := hi i (by omega)
        obtain ⟨v0, y0, hc0, _, ht0⟩ := hfld 0 _ rfl
        obtain ⟨v1, y1, hc1, _, ht1⟩ := hfld 1 _ rfl
        obtain ⟨v2, y2, hc2, _, ht2⟩ := hfld 2 _ rfl
        obtain ⟨z0, e0, _, _⟩ := DataW.trod_int Try.underlying3 ht0
        obtain ⟨z1, e1, _, _⟩ := DataW.trod_int Try.underlying3 ht1
        obtain ⟨z2, e2, _, _⟩ := DataW.trod_int Try.underlying3 ht2
        simp at e0 e1 e2
        subst e0 e1 e2
        exact ⟨(z0, z1, z2), fun _ => ⟨hc0, (cell_add W a _ 1 (by omega)).symm.trans hc1, (cell_add W a _ 2 (by omega)).symm.trans hc2⟩⟩
      · exact ⟨(0, 0, 0), fun h => absurd h hlt⟩
    refine ⟨some a, n, _, fun i => (key i).choose, rfl, by unfold maxLen at hm; omega, fun i h => ⟨a, rfl, (key i).choose_spec h⟩⟩

set_option maxRecDepth 100000 in
theorem lifted (os : Os) (started : os.Started) (H : Type) (enc : TypeId × Value → H) :
    ReturnsInHanded {} Try.checked os 4 .any (Rows.codecPlansSpec.pre6 enc Try.prog Try.f4 Rows.codecPlansRow.domain false) (Rows.codecPlansSpec.post enc Try.prog Try.f4 false true false false) := by
  refine Frame.lifted os started H enc (by kernel_rfl) Try.func4
    (ChangeSpec.witness6 (enc := enc) (C := Try.checked) false ⟨#[], #[.slice none 0 0], []⟩ 8 (by kernel_rfl) (by kernel_rfl) (by kernel_rfl) (by kernel_rfl)) rfl (by kernel_rfl) (by kernel_rfl)
    (fun ds h => by rw [Try.params4] at h; match ds, h with | [d], _ => rfl) ?_
  intro W base args ds p hval hA hsz hfz
  rw [Try.params4] at hA hval
  obtain ⟨v0, d0, rfl, rfl, h0⟩ := trodAll_one hA
  obtain ⟨A, n, c, g, rfl, hn, hs⟩ := supers_of (hval 0 23 v0 rfl rfl) h0
  exact law_any A n c g W hn hs
theorem over : Rows.codecPlansRow.holds Try.pinned (OpenSpec.ofChange Rows.codecPlansSpec) :=
  OpenClaim.holds_of_wide 4 Try.f4 rfl rfl rfl rfl rfl rfl rfl ⟨rfl, rfl, rfl, rfl, rfl⟩ rfl rfl rfl rfl rfl (by kernel_rfl) Try.func4 (by kernel_rfl)
    (of_decide_eq_true (by kernel_rfl)) (by unfold Func.isWrapper; first | (rw [if_pos (by decide +kernel)]; kernel_rfl) | (rw [if_neg (by decide +kernel)]; exact ⟨rfl, rfl⟩))
    (fun os started H enc _ => lifted os started H enc)
theorem proved : Rows.CodecPlansSaid := over
end Go.Proofs.Ytefmihbjboacdaa.codecPlans
namespace Go.Proofs.Ytefmihbjboacdaa
/-- The row, under a short name, for the claim. -/
theorem codecPlans_holds : Rows.CodecPlansSaid := codecPlans.proved
end Go.Proofs.Ytefmihbjboacdaa
