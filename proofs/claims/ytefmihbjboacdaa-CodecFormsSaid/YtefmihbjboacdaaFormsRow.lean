/- CodecForms: of any bytes, what is decoded is encoded again to just these; no condition. -/
import Derived.Test.YtefmihbjboacdaaFormsLaw
namespace Go.Proofs.Ytefmihbjboacdaa.codecForms
open Go.ChangeShapes Go.WideShapes Go.ChangeAt Go.RowKit Go.Deep
set_option linter.unusedVariables false

set_option maxRecDepth 100000 in
theorem lifted (os : Os) (started : os.Started) (H : Type) (enc : TypeId × Value → H) :
    ReturnsInHanded {} Try.checked os 13 .any (Rows.codecFormsSpec.pre6 enc Try.prog Try.f13 Rows.codecFormsRow.domain false) (Rows.codecFormsSpec.post enc Try.prog Try.f13 false true false false) := by
  refine Frame.lifted os started H enc (by kernel_rfl) Try.func13
    (ChangeSpec.witness6 (enc := enc) (C := Try.checked) false ⟨#[], #[.slice none 0 0], []⟩ 8 (by kernel_rfl) (by kernel_rfl) (by kernel_rfl) (by kernel_rfl)) rfl (by kernel_rfl) (by kernel_rfl)
    (fun ds h => by rw [Try.params13] at h; match ds, h with | [d0], _ => rfl) ?_
  intro W base args ds p hval hA hsz hfz
  have hsz1 := hsz
  rw [Try.params13] at hA hval hsz1
  obtain ⟨v0, d0, rfl, rfl, h0⟩ := trodAll_one hA
  obtain ⟨A, n, c, rfl, hn, hl⟩ := Reads.lists_read Try.underlying32 Try.underlying34 Try.underlying5 (by kernel_rfl) (by kernel_rfl) (by kernel_rfl) (by kernel_rfl) (hval 0 32 v0 rfl rfl) h0
    (fun n hn => of_decide_eq_true (List.all_eq_true.1 hsz1 n (DataW.weights_mem_each (j := 0) rfl rfl n hn)))
  exact FormsLaw.law_any A n c W (by omega) hl
theorem over : Rows.codecFormsRow.holds Try.pinned (OpenSpec.ofChange Rows.codecFormsSpec) :=
  OpenClaim.holds_of_wide 13 Try.f13 rfl rfl rfl rfl rfl rfl rfl ⟨rfl, rfl, rfl, rfl, rfl⟩ rfl rfl rfl rfl rfl (by kernel_rfl) Try.func13 (by kernel_rfl)
    (of_decide_eq_true (by kernel_rfl)) (by unfold Func.isWrapper; first | (rw [if_pos (by decide +kernel)]; kernel_rfl) | (rw [if_neg (by decide +kernel)]; exact ⟨rfl, rfl⟩))
    (fun os started H enc _ => lifted os started H enc)
theorem proved : Rows.CodecFormsSaid := over
end Go.Proofs.Ytefmihbjboacdaa.codecForms
namespace Go.Proofs.Ytefmihbjboacdaa
/-- The row, under a short name, for the claim. -/
theorem codecForms_holds : Rows.CodecFormsSaid := codecForms.proved
end Go.Proofs.Ytefmihbjboacdaa
