/- ServeNames: the document's hall for nine is refused; no condition. -/
import Derived.Test.YtcdhkeahcliefaaServeLaw
import Derived.ChangeShapes
import Derived.Deep.Strs
namespace Go.Proofs.Ytcdhkeahcliefaa.serveNames
open Go.ChangeShapes Go.WideShapes Go.ChangeAt Go.RowKit Go.Deep
set_option linter.unusedVariables false

set_option maxRecDepth 100000 in
theorem lifted (os : Os) (started : os.Started) (H : Type) (enc : TypeId × Value → H) :
    ReturnsInHanded {} Try.checked os 4 .any (Rows.serveNamesSpec.pre6 enc Try.prog Try.f4 Rows.serveNamesRow.domain false) (Rows.serveNamesSpec.post enc Try.prog Try.f4 false true false false) := by
  refine Frame.lifted os started H enc (by kernel_rfl) Try.func4
    (ChangeSpec.witness6 (enc := enc) (C := Try.checked) false ⟨#[], #[], []⟩ 8 (by kernel_rfl) (by kernel_rfl) (by kernel_rfl) (by kernel_rfl)) rfl (by kernel_rfl) (by kernel_rfl)
    (fun ds h => by rw [Try.params4] at h; match ds, h with | [], _ => rfl) ?_
  intro W base args ds p hval hA hsz hfz
  have hsz1 := hsz
  rw [Try.params4] at hA hval hsz1
  obtain ⟨rfl, rfl, rfl⟩ := trodAll_none hA
  exact ServeLaw.law_any W
theorem over : Rows.serveNamesRow.holds Try.pinned (OpenSpec.ofChange Rows.serveNamesSpec) :=
  OpenClaim.holds_of_wide 4 Try.f4 rfl rfl rfl rfl rfl rfl rfl ⟨rfl, rfl, rfl, rfl, rfl⟩ rfl rfl rfl rfl rfl (by kernel_rfl) Try.func4 (by kernel_rfl)
    (of_decide_eq_true (by kernel_rfl)) (by unfold Func.isWrapper; first | (rw [if_pos (by decide +kernel)]; kernel_rfl) | (rw [if_neg (by decide +kernel)]; exact ⟨rfl, rfl⟩))
    (fun os started H enc _ => lifted os started H enc)
theorem proved : Rows.ServeNamesSaid := over
end Go.Proofs.Ytcdhkeahcliefaa.serveNames
namespace Go.Proofs.Ytcdhkeahcliefaa
/-- The row, under a short name, for the claim. -/
theorem serveNames_holds : Rows.ServeNamesSaid := serveNames.proved
end Go.Proofs.Ytcdhkeahcliefaa
