/- CodecSums: every Sum is the document's; the lists and the room behind them stay as they are; no condition. -/
import Derived.Test.YtefmihbjboacdaaSumsLaw
namespace Go.Proofs.Ytefmihbjboacdaa.codecSums
open Go.ChangeShapes Go.WideShapes Go.ChangeAt Go.RowKit Go.Deep
set_option linter.unusedVariables false

set_option maxRecDepth 100000 in
theorem lifted (os : Os) (started : os.Started) (H : Type) (enc : TypeId × Value → H) :
    ReturnsInHanded {} Try.checked os 5 .any (Rows.codecSumsSpec.pre6 enc Try.prog Try.f5 Rows.codecSumsRow.domain false) (Rows.codecSumsSpec.post enc Try.prog Try.f5 false true false false) := by
  refine Frame.lifted os started H enc (by kernel_rfl) Try.func5
    (ChangeSpec.witness6 (enc := enc) (C := Try.checked) false ⟨#[], #[.slice none 0 0], []⟩ 8 (by kernel_rfl) (by kernel_rfl) (by kernel_rfl) (by kernel_rfl)) rfl (by kernel_rfl) (by kernel_rfl)
    (fun ds h => by rw [Try.params5] at h; match ds, h with | [d0], _ => rfl) ?_
  intro W base args ds p hval hA hsz hfz
  have hsz1 := hsz
  rw [Try.params5] at hA hval hsz1
  obtain ⟨v0, d0, rfl, rfl, h0⟩ := trodAll_one hA
  obtain ⟨A, n, c, rfl, hn, hl⟩ := Reads.lists_read Try.underlying32 Try.underlying34 Try.underlying5 (by kernel_rfl) (by kernel_rfl) (by kernel_rfl) (by kernel_rfl) (hval 0 32 v0 rfl rfl) h0
    (fun n hn => of_decide_eq_true (List.all_eq_true.1 hsz1 n (DataW.weights_mem_each (j := 0) rfl rfl n hn)))
  exact SumsLaw.law_any A n c W (by omega) hn hl
theorem over : Rows.codecSumsRow.holds Try.pinned (OpenSpec.ofChange Rows.codecSumsSpec) :=
  OpenClaim.holds_of_wide 5 Try.f5 rfl rfl rfl rfl rfl rfl rfl ⟨rfl, rfl, rfl, rfl, rfl⟩ rfl rfl rfl rfl rfl (by kernel_rfl) Try.func5 (by kernel_rfl)
    (of_decide_eq_true (by kernel_rfl)) (by unfold Func.isWrapper; first | (rw [if_pos (by decide +kernel)]; kernel_rfl) | (rw [if_neg (by decide +kernel)]; exact ⟨rfl, rfl⟩))
    (fun os started H enc _ => lifted os started H enc)
theorem proved : Rows.CodecSumsSaid := over
end Go.Proofs.Ytefmihbjboacdaa.codecSums
namespace Go.Proofs.Ytefmihbjboacdaa
/-- The row, under a short name, for the claim. -/
theorem codecSums_holds : Rows.CodecSumsSaid := codecSums.proved
end Go.Proofs.Ytefmihbjboacdaa
