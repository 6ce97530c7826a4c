/- FindMatches: every Match is the document's, of each pattern with each text; no condition. -/
import Derived.Test.YtcdhkeahcliefaaMatchLaw
import Derived.ChangeShapes
import Derived.Deep.Strs
namespace Go.Proofs.Ytcdhkeahcliefaa.findMatches
open Go.ChangeShapes Go.WideShapes Go.ChangeAt Go.RowKit Go.Deep
set_option linter.unusedVariables false

set_option maxRecDepth 100000 in
theorem texts_of {H : Type} {enc : TypeId × Value → H} {W : World} {base : Nat} {v : Value} {d : DataW H} {p : List MemPlace}
    (hv : Value.okWide Try.prog W .any base 29 v) (h : DataW.Trod enc Try.prog W 0 (fun _ => true) true 29 v d p) :
    ∃ A n c, v = .slice A n c ∧ n ≤ 9223372036854775807 ∧ MatchLaw.Texts W A n := by
  obtain ⟨A, n, c, rfl⟩ := okWide_slice Try.underlying29 hv
  obtain ⟨fuel, hf⟩ := h
  rcases open_strs Try.underlying29 Try.underlying9 (by kernel_rfl) hf with ⟨hcs, _⟩ | ⟨a, len, cap, m, Sx, hcs, _, hl, hm, hmm, hx, hi⟩
  · simp [Value.cells] at hcs
    obtain ⟨rfl, rfl, rfl⟩ := hcs
    exact ⟨none, 0, 0, rfl, by omega, fun i h => absurd h (Nat.not_lt_zero i)⟩
  · simp [Value.cells] at hcs
    obtain ⟨rfl, rfl, rfl⟩ := hcs
    simp at hmm
    subst hmm
    exact ⟨some a, n, _, rfl, by unfold maxLen at hm; omega, fun i h => ⟨a, Sx i, rfl, (hi i (by omega)).1⟩⟩
set_option maxRecDepth 100000 in
theorem lifted (os : Os) (started : os.Started) (H : Type) (enc : TypeId × Value → H) :
    ReturnsInHanded {} Try.checked os 5 .any (Rows.findMatchesSpec.pre6 enc Try.prog Try.f5 Rows.findMatchesRow.domain false) (Rows.findMatchesSpec.post enc Try.prog Try.f5 false true false false) := by
  refine Frame.lifted os started H enc (by kernel_rfl) Try.func5
    (ChangeSpec.witness6 (enc := enc) (C := Try.checked) false ⟨#[], #[.slice none 0 0, .slice none 0 0], []⟩ 8 (by kernel_rfl) (by kernel_rfl) (by kernel_rfl) (by kernel_rfl)) rfl (by kernel_rfl) (by kernel_rfl)
    (fun ds h => by rw [Try.params5] at h; match ds, h with | [d0, d1], _ => rfl) ?_
  intro W base args ds p hval hA hsz hfz
  have hsz1 := hsz
  rw [Try.params5] at hA hval hsz1
  obtain ⟨v0, v1, d0, d1, p0, p1, rfl, rfl, rfl, h0, h1⟩ := trodAll_two hA
  obtain ⟨A, n, c, rfl, hn, ht⟩ := texts_of (hval 0 29 v0 rfl rfl) h0
  obtain ⟨A', n', c', rfl, hn', ht'⟩ := texts_of (hval 1 29 v1 rfl rfl) h1
  exact MatchLaw.law_any A A' n c n' c' W hn hn' ht ht'
theorem over : Rows.findMatchesRow.holds Try.pinned (OpenSpec.ofChange Rows.findMatchesSpec) :=
  OpenClaim.holds_of_wide 5 Try.f5 rfl rfl rfl rfl rfl rfl rfl ⟨rfl, rfl, rfl, rfl, rfl⟩ rfl rfl rfl rfl rfl (by kernel_rfl) Try.func5 (by kernel_rfl)
    (of_decide_eq_true (by kernel_rfl)) (by unfold Func.isWrapper; first | (rw [if_pos (by decide +kernel)]; kernel_rfl) | (rw [if_neg (by decide +kernel)]; exact ⟨rfl, rfl⟩))
    (fun os started H enc _ => lifted os started H enc)
theorem proved : Rows.FindMatchesSaid := over
end Go.Proofs.Ytcdhkeahcliefaa.findMatches
namespace Go.Proofs.Ytcdhkeahcliefaa
/-- The row, under a short name, for the claim. -/
theorem findMatches_holds : Rows.FindMatchesSaid := findMatches.proved
end Go.Proofs.Ytcdhkeahcliefaa
