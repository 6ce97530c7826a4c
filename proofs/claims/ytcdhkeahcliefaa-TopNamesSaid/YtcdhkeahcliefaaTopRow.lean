/- TopNames: the constants' numbers and the errors' words; no condition. -/
import Derived.Test.YtcdhkeahcliefaaTopLaw
import Derived.ChangeShapes
import Derived.Deep.Strs
namespace Go.Proofs.Ytcdhkeahcliefaa.topNames
open Go.ChangeShapes Go.WideShapes Go.ChangeAt Go.RowKit Go.Deep
set_option linter.unusedVariables false

set_option maxRecDepth 100000 in
theorem lifted (os : Os) (started : os.Started) (H : Type) (enc : TypeId × Value → H) :
    ReturnsInHanded {} Try.checked os 7 .any (Rows.topNamesSpec.pre6 enc Try.prog Try.f7 Rows.topNamesRow.domain false) (Rows.topNamesSpec.post enc Try.prog Try.f7 false true false false) := by
  refine Frame.lifted os started H enc (by kernel_rfl) Try.func7
    (ChangeSpec.witness6 (enc := enc) (C := Try.checked) false ⟨#[], #[], []⟩ 8 (by kernel_rfl) (by kernel_rfl) (by kernel_rfl) (by kernel_rfl)) rfl (by kernel_rfl) (by kernel_rfl)
    (fun ds h => by rw [Try.params7] at h; match ds, h with | [], _ => rfl) ?_
  intro W base args ds p hval hA hsz hfz
  have hsz1 := hsz
  rw [Try.params7] at hA hval hsz1
  obtain ⟨rfl, rfl, rfl⟩ := trodAll_none hA
  exact TopLaw.law_any W
theorem over : Rows.topNamesRow.holds Try.pinned (OpenSpec.ofChange Rows.topNamesSpec) :=
  OpenClaim.holds_of_wide 7 Try.f7 rfl rfl rfl rfl rfl rfl rfl ⟨rfl, rfl, rfl, rfl, rfl⟩ rfl rfl rfl rfl rfl (by kernel_rfl) Try.func7 (by kernel_rfl)
    (of_decide_eq_true (by kernel_rfl)) (by unfold Func.isWrapper; first | (rw [if_pos (by decide +kernel)]; kernel_rfl) | (rw [if_neg (by decide +kernel)]; exact ⟨rfl, rfl⟩))
    (fun os started H enc _ => lifted os started H enc)
theorem proved : Rows.TopNamesSaid := over
end Go.Proofs.Ytcdhkeahcliefaa.topNames
namespace Go.Proofs.Ytcdhkeahcliefaa
/-- The row, under a short name, for the claim. -/
theorem topNames_holds : Rows.TopNamesSaid := topNames.proved
end Go.Proofs.Ytcdhkeahcliefaa
