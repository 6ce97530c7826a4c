/- FindPrints: every Print is the document's, of each of the given texts and of one fixed query; where the listed tables are as listed. -/
import Derived.Test.YtcdhkeahcliefaaGreatDoorPrint43
import Derived.Test.YtcdhkeahcliefaaGreatDoorPrint01
import Derived.ProofKit
import Derived.OpenShut
import Derived.LaidMore
import Derived.Lay
import Derived.SevenTiedAt
import Derived.Stop.Joined
import Derived.Deep.Strs
namespace Go.Proofs.YtcdhkeahcliefaaGreatDoor.PrintRow
open Go.ChangeShapes Go.WideShapes Go.ChangeAt Go.RowKit Go.Deep
open Go.Proofs.YtcdhkeahcliefaaGreatDoor.Frame Go.Proofs.YtcdhkeahcliefaaGreatDoor.LaidTabs
set_option linter.unusedVariables false

set_option maxRecDepth 100000 in
theorem texts_of {H : Type} {enc : TypeId × Value → H} {W : World} {base : Nat} {v : Value} {d : DataW H} {p : List MemPlace}
    (hv : Value.okWide Tryz.prog W .any base 22 v) (h : DataW.Trod enc Tryz.prog W 0 (fun _ => true) true 22 v d p) :
    ∃ A n c, v = .slice A n c ∧ n ≤ 9223372036854775807 ∧ PrintLaw.Texts W A n := by
  obtain ⟨A, n, c, rfl⟩ := okWide_slice Tryz.underlying22 hv
  obtain ⟨fuel, hf⟩ := h
  rcases open_strs Tryz.underlying22 Tryz.underlying9 (by kernel_rfl) hf with ⟨hcs, _⟩ | ⟨a, len, cap, m, Sx, hcs, _, hl, hm, hmm, hx, hi⟩
  · simp [Value.cells] at hcs
    obtain ⟨rfl, rfl, rfl⟩ := hcs
    exact ⟨none, 0, 0, rfl, by omega, fun i h => absurd h (Nat.not_lt_zero i)⟩
  · simp [Value.cells] at hcs
    obtain ⟨rfl, rfl, rfl⟩ := hcs
    simp at hmm
    subst hmm
    exact ⟨some a, n, _, rfl, by unfold maxLen at hm; omega, fun i h => ⟨a, Sx i, rfl, (hi i (by omega)).1⟩⟩

set_option maxRecDepth 100000 in
theorem lifted (os : Os) (started : os.Started) (H : Type) (enc : TypeId × Value → H) :
    ReturnsInHanded {} Tryz.checked os 3 .any (fun w args => (Rows.findPrintsSpec.pre enc Tryz.prog Tryz.f3 Rows.findPrintsRow.domain false w args ∧ laidMetH Tryz.prog Rows.findPrintsRow.laid w) ∧ sizedMet enc Tryz.prog Tryz.f3 (OpenSpec.ofChange Rows.findPrintsSpec) false w args)
      (Rows.findPrintsSpec.post enc Tryz.prog Tryz.f3 false true false false) := by
  refine returnsInHanded_of_change_and (C := Tryz.checked) (X := fun w _ => laidMetH Tryz.prog Rows.findPrintsRow.laid w) (fun _ _ _ hh h => h.of_heap hh) own started (by kernel_rfl) Tryz.func3
    (ChangeSpec.witness_shaped (enc := enc) (C := Tryz.checked) (os := os) (X := fun w _ => laidMetH Tryz.prog Rows.findPrintsRow.laid w) false (World.laidAll Tryz.prog os Rows.findPrintsRow.laid) #[.slice none 0 0] 8 (World.laidAll_os _ _ _)
      (World.shaped_of_ZipB (by kernel_rfl) (by kernel_rfl)) (by kernel_rfl) (by kernel_rfl) (by kernel_rfl)
      (by rw [MakeChecks.laidMetH_plain _ _ _ (by kernel_rfl)]; exact laidMet_laidAll _ (by kernel_rfl) (by kernel_rfl))) ?_
  intro W base args ds gs before hval0 hW hc _ hL _
  have hval : ∀ (j : Nat) t v, Tryz.f3.params[j]? = some t → args[j]? = some v → Value.okWide Tryz.prog W .any base t v := hval0
  have hW' := hW
  obtain ⟨p, q, hA0, hV, rfl, _, _⟩ := hW
  have hA : DataW.TrodAll enc Tryz.prog W 0 (fun _ => true) true Tryz.f3.params.toList args.toList ds p := hA0
  obtain ⟨rfl, rfl⟩ := trodVars_none hV
  have hA1 := hA
  rw [Tryz.params3] at hA1 hval
  obtain ⟨v0, d0, rfl, rfl, h0⟩ := trodAll_one hA1
  obtain ⟨A, n, c, rfl, hn, ht⟩ := texts_of (hval 0 22 v0 rfl rfl) h0
  refine (PrintLaw.law_any A n c W hn (Lib.hid ht) (Lib.hid (tabs_of_laid hL))).mono fun e W' ⟨he, bel⟩ => ?_
  subst he
  have hback := trodAll_below laidOut bel Tryz.f3.params.toList (reads_of_all (by kernel_rfl)) _ _ _ hA
  have e1 : Rows.findPrintsSpec.fn H ([d0] ++ []) = { results := [.lit (.bool true)], args := [d0] } := rfl
  refine ⟨_, rfl, [d0], [], _, [], p, [], hW', ?_, ?_, ?_, bel.frame _, fun h => by cases h⟩
  · rw [e1]
    exact trodAll_mk1 (shut_bool Tryz.underlying4 _)
  · rw [e1]
    exact hback
  · rw [e1]
    rfl

theorem holds : Rows.FindPrintsSaid :=
  OpenClaim.holds_of_wide 3 Tryz.f3 rfl rfl rfl rfl rfl rfl rfl ⟨rfl, rfl, rfl, rfl, rfl⟩ rfl rfl rfl rfl rfl (by kernel_rfl) Tryz.func3 (by kernel_rfl)
    (of_decide_eq_true (by kernel_rfl)) (by unfold Func.isWrapper; first | (rw [if_pos (by decide +kernel)]; kernel_rfl) | (rw [if_neg (by decide +kernel)]; exact ⟨rfl, rfl⟩))
    (fun os started H enc _ => lifted os started H enc)

end Go.Proofs.YtcdhkeahcliefaaGreatDoor.PrintRow
