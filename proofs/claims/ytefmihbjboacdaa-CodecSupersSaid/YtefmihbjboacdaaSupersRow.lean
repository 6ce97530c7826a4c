/- CodecSupers: each superblock's bytes; what each sector says, again with a byte turned, and as it was; no condition. -/
import Derived.Test.YtefmihbjboacdaaSupersLaw
import Derived.Test.YtefmihbjboacdaaPlansRow
import Derived.Test.YtefmihbjboacdaaArgs
namespace Go.Proofs.Ytefmihbjboacdaa.codecSupers
open Go.ChangeShapes Go.WideShapes Go.ChangeAt Go.RowKit Go.Deep
set_option linter.unusedVariables false

set_option maxRecDepth 100000 in
theorem lifted (os : Os) (started : os.Started) (H : Type) (enc : TypeId × Value → H) :
    ReturnsInHanded {} Try.checked os 7 .any (Rows.codecSupersSpec.pre6 enc Try.prog Try.f7 Rows.codecSupersRow.domain false) (Rows.codecSupersSpec.post enc Try.prog Try.f7 false true false false) := by
  refine Frame.lifted os started H enc (by kernel_rfl) Try.func7
    (ChangeSpec.witness6 (enc := enc) (C := Try.checked) false ⟨#[], #[.slice none 0 0, .slice none 0 0], []⟩ 8 (by kernel_rfl) (by kernel_rfl) (by kernel_rfl) (by kernel_rfl)) rfl (by kernel_rfl) (by kernel_rfl)
    (fun ds h => by rw [Try.params7] at h; match ds, h with | [d0, d1], _ => rfl) ?_
  intro W base args ds p hval hA hsz hfz
  have hsz1 := hsz
  rw [Try.params7] at hA hval hsz1
  obtain ⟨v0, v1, d0, d1, p0, p1, rfl, rfl, rfl, h0, h1⟩ := trodAll_two hA
  obtain ⟨A, n, c, g, rfl, hn, hs⟩ := codecPlans.supers_of (hval 0 23 v0 rfl rfl) h0
  obtain ⟨A', n', c', rfl, hn', hl⟩ := Reads.lists_read Try.underlying32 Try.underlying34 Try.underlying5 (by kernel_rfl) (by kernel_rfl) (by kernel_rfl) (by kernel_rfl) (hval 1 32 v1 rfl rfl) h1
    (fun n hn => of_decide_eq_true (List.all_eq_true.1 hsz1 n (DataW.weights_mem_each (j := 1) rfl rfl n hn)))
  exact SupersLaw.law_any A A' n c n' c' g W hn (by omega) hn' hs hl
theorem over : Rows.codecSupersRow.holds Try.pinned (OpenSpec.ofChange Rows.codecSupersSpec) :=
  OpenClaim.holds_of_wide 7 Try.f7 rfl rfl rfl rfl rfl rfl rfl ⟨rfl, rfl, rfl, rfl, rfl⟩ rfl rfl rfl rfl rfl (by kernel_rfl) Try.func7 (by kernel_rfl)
    (of_decide_eq_true (by kernel_rfl)) (by unfold Func.isWrapper; first | (rw [if_pos (by decide +kernel)]; kernel_rfl) | (rw [if_neg (by decide +kernel)]; exact ⟨rfl, rfl⟩))
    (fun os started H enc _ => lifted os started H enc)
theorem proved : Rows.CodecSupersSaid := over
end Go.Proofs.Ytefmihbjboacdaa.codecSupers
namespace Go.Proofs.Ytefmihbjboacdaa
/-- The row, under a short name, for the claim. -/
theorem codecSupers_holds : Rows.CodecSupersSaid := codecSupers.proved
end Go.Proofs.Ytefmihbjboacdaa
