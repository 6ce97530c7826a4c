/- CodecEntries: each entry's bytes; what each list of bytes says, again with a byte turned, and as it was; no condition. -/
import Derived.Test.YtefmihbjboacdaaEntriesLaw
import Derived.Test.YtefmihbjboacdaaArgs
namespace Go.Proofs.Ytefmihbjboacdaa.codecEntries
open Go.ChangeShapes Go.WideShapes Go.ChangeAt Go.RowKit Go.Deep
open Go.Proofs.Ytefmihbjboacdaa.Structs
set_option linter.unusedVariables false

set_option maxRecDepth 100000 in
theorem entries_of {H : Type} {enc : TypeId × Value → H} {W : World} {base : Nat} {v : Value} {d : DataW H} {p : List MemPlace}
    (hv : Value.okWide Try.prog W .any base 59 v) (h : DataW.Trod enc Try.prog W 0 (fun _ => true) true 59 v d p) :
    ∃ A n c g, v = .slice A n c ∧ n ≤ 9223372036854775807 ∧ EntriesLaw.Entries W A n g := by
  obtain ⟨A, n, c, rfl⟩ := okWide_slice Try.underlying59 hv
  obtain ⟨fuel, hf⟩ := h
  rcases open_slice_fields Try.underlying59 Try.underlying61 (by kernel_rfl) (by kernel_rfl) hf with ⟨hcs, _⟩ | ⟨a, len, cap, m, D, Pl, hcs, _, hl, hm, hmm, hx, hi⟩
  · simp [Value.cells] at hcs
    obtain ⟨rfl, rfl, rfl⟩ := hcs
    exact ⟨none, 0, 0, fun _ => (0, 0, ⟨#[]⟩, 0), rfl, by omega, fun i h => by omega⟩
  · simp [Value.cells] at hcs
    obtain ⟨rfl, rfl, rfl⟩ := hcs
    simp at hmm
    subst hmm
    have key : ∀ i, ∃ q : Int × Int × ByteArray × Int, i < n → W.cell? (a.add (i * 4)) = some (.int .i64 q.1) ∧ W.cell? ⟨(a.add (i * 4)).block, (a.add (i * 4)).off + 1, none⟩ = some (.int .i64 q.2.1) ∧ W.cell? ⟨(a.add (i * 4)).block, (a.add (i * 4)).off + 2, none⟩ = some (.string q.2.2.1) ∧ W.cell? ⟨(a.add (i * 4)).block, (a.add (i * 4)).off + 3, none⟩ = some (.int .i64 q.2.2.2) := by
      intro i
      by_cases hlt : i < n
      · obtain ⟨ys, n', _, _, _, hfld⟩ := hi i (by omega)
        obtain ⟨v0, y0, hc0, _, ht0⟩ := hfld 0 _ rfl
        obtain ⟨v1, y1, hc1, _, ht1⟩ := hfld 1 _ rfl
        obtain ⟨v2, y2, hc2, _, ht2⟩ := hfld 2 _ rfl
        obtain ⟨v3, y3, hc3, _, ht3⟩ := hfld 3 _ rfl
        obtain ⟨z0, e0, _, _⟩ := DataW.trod_int Try.underlying3 ht0
        obtain ⟨z1, e1, _, _⟩ := DataW.trod_int Try.underlying3 ht1
        obtain ⟨z2, e2, _, _⟩ := DataW.trod_string Try.underlying9 ht2
        obtain ⟨z3, e3, _, _⟩ := DataW.trod_int Try.underlying3 ht3
        simp at e0 e1 e2 e3
        subst e0 e1 e2 e3
        exact ⟨(z0, z1, z2, z3), fun _ => ⟨hc0, (cell_add W a _ 1 (by omega)).symm.trans hc1, (cell_add W a _ 2 (by omega)).symm.trans hc2, (cell_add W a _ 3 (by omega)).symm.trans hc3⟩⟩
      · exact ⟨(0, 0, ⟨#[]⟩, 0), fun h => absurd h hlt⟩
    refine ⟨some a, n, _, fun i => (key i).choose, rfl, by unfold maxLen at hm; omega, fun i h => ⟨a, rfl, (key i).choose_spec h⟩⟩

set_option maxRecDepth 100000 in
theorem lifted (os : Os) (started : os.Started) (H : Type) (enc : TypeId × Value → H) :
    ReturnsInHanded {} Try.checked os 10 .any (Rows.codecEntriesSpec.pre6 enc Try.prog Try.f10 Rows.codecEntriesRow.domain false) (Rows.codecEntriesSpec.post enc Try.prog Try.f10 false true false false) := by
  refine Frame.lifted os started H enc (by kernel_rfl) Try.func10
    (ChangeSpec.witness6 (enc := enc) (C := Try.checked) false ⟨#[], #[.slice none 0 0, .slice none 0 0], []⟩ 8 (by kernel_rfl) (by kernel_rfl) (by kernel_rfl) (by kernel_rfl)) rfl (by kernel_rfl) (by kernel_rfl)
    (fun ds h => by rw [Try.params10] at h; match ds, h with | [d0, d1], _ => rfl) ?_
  intro W base args ds p hval hA hsz hfz
  have hsz1 := hsz
  rw [Try.params10] at hA hval hsz1
  obtain ⟨v0, v1, d0, d1, p0, p1, rfl, rfl, rfl, h0, h1⟩ := trodAll_two hA
  obtain ⟨A, n, c, g, rfl, hn, hs⟩ := entries_of (hval 0 59 v0 rfl rfl) h0
  obtain ⟨A', n', c', rfl, hn', hl⟩ := Reads.lists_read Try.underlying32 Try.underlying34 Try.underlying5 (by kernel_rfl) (by kernel_rfl) (by kernel_rfl) (by kernel_rfl) (hval 1 32 v1 rfl rfl) h1
    (fun n hn => of_decide_eq_true (List.all_eq_true.1 hsz1 n (DataW.weights_mem_each (j := 1) rfl rfl n hn)))
  exact EntriesLaw.law_any A A' n c n' c' g W hn (by omega) hn' hs hl
theorem over : Rows.codecEntriesRow.holds Try.pinned (OpenSpec.ofChange Rows.codecEntriesSpec) :=
  OpenClaim.holds_of_wide 10 Try.f10 rfl rfl rfl rfl rfl rfl rfl ⟨rfl, rfl, rfl, rfl, rfl⟩ rfl rfl rfl rfl rfl (by kernel_rfl) Try.func10 (by kernel_rfl)
    (of_decide_eq_true (by kernel_rfl)) (by unfold Func.isWrapper; first | (rw [if_pos (by decide +kernel)]; kernel_rfl) | (rw [if_neg (by decide +kernel)]; exact ⟨rfl, rfl⟩))
    (fun os started H enc _ => lifted os started H enc)
theorem proved : Rows.CodecEntriesSaid := over
end Go.Proofs.Ytefmihbjboacdaa.codecEntries
namespace Go.Proofs.Ytefmihbjboacdaa
/-- The row, under a short name, for the claim. -/
theorem codecEntries_holds : Rows.CodecEntriesSaid := codecEntries.proved
end Go.Proofs.Ytefmihbjboacdaa
