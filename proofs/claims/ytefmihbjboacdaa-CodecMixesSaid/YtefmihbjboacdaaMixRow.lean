/- CodecMixes: the sum of three lists mixed by exclusive or is their sums'; a list with its own sum behind it has a fixed sum; no condition. -/
import Derived.Test.YtefmihbjboacdaaMixLaw
import Derived.Test.YtefmihbjboacdaaArgs
namespace Go.Proofs.Ytefmihbjboacdaa.codecMixes
open Go.ChangeShapes Go.WideShapes Go.ChangeAt Go.RowKit Go.Deep
set_option linter.unusedVariables false

set_option maxRecDepth 100000 in
theorem lifted (os : Os) (started : os.Started) (H : Type) (enc : TypeId × Value → H) :
    ReturnsInHanded {} Try.checked os 6 .any (Rows.codecMixesSpec.pre6 enc Try.prog Try.f6 Rows.codecMixesRow.domain false) (Rows.codecMixesSpec.post enc Try.prog Try.f6 false true false false) := by
  refine Frame.lifted os started H enc (by kernel_rfl) Try.func6
    (ChangeSpec.witness6 (enc := enc) (C := Try.checked) false ⟨#[], #[.slice none 0 0, .slice none 0 0, .slice none 0 0], []⟩ 8 (by kernel_rfl) (by kernel_rfl) (by kernel_rfl) (by kernel_rfl)) rfl (by kernel_rfl) (by kernel_rfl)
    (fun ds h => by rw [Try.params6] at h; match ds, h with | [d0, d1, d2], _ => rfl) ?_
  intro W base args ds p hval hA hsz hfz
  have hsz1 := hsz
  rw [Try.params6] at hA hval hsz1
  obtain ⟨v0, v1, v2, d0, d1, d2, p0, p1, p2, rfl, rfl, rfl, h0, h1, h2⟩ := trodAll_three hA
  obtain ⟨A, ca, a, rfl, ha1, ha2, ha3⟩ := Args.bytes_arg Try.underlying34 Try.underlying5 (by kernel_rfl) (by kernel_rfl) (hval 0 34 v0 rfl rfl) h0 (Args.weights_at hsz1 0 rfl rfl)
  obtain ⟨B, cb, b, rfl, hb1, hb2, hb3⟩ := Args.bytes_arg Try.underlying34 Try.underlying5 (by kernel_rfl) (by kernel_rfl) (hval 1 34 v1 rfl rfl) h1 (Args.weights_at hsz1 1 rfl rfl)
  obtain ⟨C, cc, c, rfl, hc1, hc2, hc3⟩ := Args.bytes_arg Try.underlying34 Try.underlying5 (by kernel_rfl) (by kernel_rfl) (hval 2 34 v2 rfl rfl) h2 (Args.weights_at hsz1 2 rfl rfl)
  exact MixLaw.law_any A B C ca cb cc a b c W (by omega) (by omega) (by omega) ha1 hb1 hc1 ha3 hb3 hc3
theorem over : Rows.codecMixesRow.holds Try.pinned (OpenSpec.ofChange Rows.codecMixesSpec) :=
  OpenClaim.holds_of_wide 6 Try.f6 rfl rfl rfl rfl rfl rfl rfl ⟨rfl, rfl, rfl, rfl, rfl⟩ rfl rfl rfl rfl rfl (by kernel_rfl) Try.func6 (by kernel_rfl)
    (of_decide_eq_true (by kernel_rfl)) (by unfold Func.isWrapper; first | (rw [if_pos (by decide +kernel)]; kernel_rfl) | (rw [if_neg (by decide +kernel)]; exact ⟨rfl, rfl⟩))
    (fun os started H enc _ => lifted os started H enc)
theorem proved : Rows.CodecMixesSaid := over
end Go.Proofs.Ytefmihbjboacdaa.codecMixes
namespace Go.Proofs.Ytefmihbjboacdaa
/-- The row, under a short name, for the claim. -/
theorem codecMixes_holds : Rows.CodecMixesSaid := codecMixes.proved
end Go.Proofs.Ytefmihbjboacdaa
