/- CodecNames: Name says of every text what the document's Name says; no condition. -/
import Derived.Test.YtefmihbjboacdaaNamesLaw
import Derived.Test.YtefmihbjboacdaaArgs
import Derived.Deep.Strs
namespace Go.Proofs.Ytefmihbjboacdaa.codecNames
open Go.ChangeShapes Go.WideShapes Go.ChangeAt Go.RowKit Go.Deep
set_option linter.unusedVariables false

set_option maxRecDepth 100000 in
theorem texts_of {H : Type} {enc : TypeId × Value → H} {W : World} {base : Nat} {v : Value} {d : DataW H} {p : List MemPlace}
    (hv : Value.okWide Try.prog W .any base 56 v) (h : DataW.Trod enc Try.prog W 0 (fun _ => true) true 56 v d p) :
    ∃ A n c, v = .slice A n c ∧ n ≤ 9223372036854775807 ∧ NamesLaw.Texts W A n := by
  obtain ⟨A, n, c, rfl⟩ := okWide_slice Try.underlying56 hv
  obtain ⟨fuel, hf⟩ := h
  rcases open_strs Try.underlying56 Try.underlying9 (by kernel_rfl) hf with ⟨hcs, _⟩ | ⟨a, len, cap, m, Sx, hcs, _, hl, hm, hmm, hx, hi⟩
  · simp [Value.cells] at hcs
    obtain ⟨rfl, rfl, rfl⟩ := hcs
    exact ⟨none, 0, 0, rfl, by omega, fun i h => absurd h (Nat.not_lt_zero i)⟩
  · simp [Value.cells] at hcs
    obtain ⟨rfl, rfl, rfl⟩ := hcs
    simp at hmm
    subst hmm
    exact ⟨some a, n, _, rfl, by unfold maxLen at hm; omega, fun i h => ⟨a, Sx i, rfl, (hi i (by omega)).1⟩⟩
set_option maxRecDepth 100000 in
theorem lifted (os : Os) (started : os.Started) (H : Type) (enc : TypeId × Value → H) :
    ReturnsInHanded {} Try.checked os 9 .any (Rows.codecNamesSpec.pre6 enc Try.prog Try.f9 Rows.codecNamesRow.domain false) (Rows.codecNamesSpec.post enc Try.prog Try.f9 false true false false) := by
  refine Frame.lifted os started H enc (by kernel_rfl) Try.func9
    (ChangeSpec.witness6 (enc := enc) (C := Try.checked) false ⟨#[], #[.slice none 0 0], []⟩ 8 (by kernel_rfl) (by kernel_rfl) (by kernel_rfl) (by kernel_rfl)) rfl (by kernel_rfl) (by kernel_rfl)
    (fun ds h => by rw [Try.params9] at h; match ds, h with | [d0], _ => rfl) ?_
  intro W base args ds p hval hA hsz hfz
  have hsz1 := hsz
  rw [Try.params9] at hA hval hsz1
  obtain ⟨v0, d0, rfl, rfl, h0⟩ := trodAll_one hA
  obtain ⟨A, n, c, rfl, hn, ht⟩ := texts_of (hval 0 56 v0 rfl rfl) h0
  exact NamesLaw.law_any A n c W hn ht
theorem over : Rows.codecNamesRow.holds Try.pinned (OpenSpec.ofChange Rows.codecNamesSpec) :=
  OpenClaim.holds_of_wide 9 Try.f9 rfl rfl rfl rfl rfl rfl rfl ⟨rfl, rfl, rfl, rfl, rfl⟩ rfl rfl rfl rfl rfl (by kernel_rfl) Try.func9 (by kernel_rfl)
    (of_decide_eq_true (by kernel_rfl)) (by unfold Func.isWrapper; first | (rw [if_pos (by decide +kernel)]; kernel_rfl) | (rw [if_neg (by decide +kernel)]; exact ⟨rfl, rfl⟩))
    (fun os started H enc _ => lifted os started H enc)
theorem proved : Rows.CodecNamesSaid := over
end Go.Proofs.Ytefmihbjboacdaa.codecNames
namespace Go.Proofs.Ytefmihbjboacdaa
/-- The row, under a short name, for the claim. -/
theorem codecNames_holds : Rows.CodecNamesSaid := codecNames.proved
end Go.Proofs.Ytefmihbjboacdaa
