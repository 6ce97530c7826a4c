/- CodecBack: whatever fits is encoded, at its length, and decoded to the same value; the empty node and the empty entry are zeros; no condition. -/
import Derived.Test.YtefmihbjboacdaaBackLaw
import Derived.Test.YtefmihbjboacdaaArgs
import Derived.OpenShut
import Derived.Test.YtefmihbjboacdaaPlansRow
namespace Go.Proofs.Ytefmihbjboacdaa.codecBack
open Go.ChangeShapes Go.WideShapes Go.ChangeAt Go.RowKit Go.Deep
open Go.Proofs.Ytefmihbjboacdaa.Structs Go.Proofs.Ytefmihbjboacdaa.NodeLay
set_option linter.unusedVariables false

section
variable {H : Type} {enc : TypeId × Value → H} {W : World}
theorem int_field {n o : Nat} {cs : List Value} {y : Option (DataW H × List MemPlace)} (h : DataW.trod enc Try.prog W 0 (fun _ => true) true n 3 ((cs.drop o).take (Try.prog.cellsOf 3)) = y) (hy : y.isSome = true) : ∃ z : Int, cs[o]? = some (.int .i64 z) := by
  obtain ⟨x, rfl⟩ := Option.isSome_iff_exists.1 hy
  rw [show Try.prog.cellsOf 3 = 1 from by kernel_rfl] at h
  obtain ⟨z, e, _, _⟩ := DataW.trod_int Try.underlying3 h
  refine ⟨z, ?_⟩
  have h0 := congrArg (fun l => l[0]?) e
  simpa using h0
set_option maxRecDepth 100000 in
theorem node_cells {n : Nat} {cs : List Value} {x : DataW H × List MemPlace} (h : DataW.trod enc Try.prog W 0 (fun _ => true) true n 51 cs = some x) : ∃ f : Nat → Int, ∀ (j : Nat) (v : Value), (ncs f).toList[j]? = some v → cs[j]? = some v := by
  obtain ⟨xs, m, _, _, hlen, hxl, hf⟩ := DataW.trod_struct Try.underlying51 h
  have hsz : xs.length = 8 := hxl
  have hs : ∀ i, i < 8 → (xs[i]?).isSome = true := fun i hi => by rw [List.getElem?_eq_getElem (by omega)]; rfl
  obtain ⟨z0, e0⟩ := int_field (o := 0) (hf 0 _ rfl) (hs 0 (by decide))
  obtain ⟨z1, e1⟩ := int_field (o := 1) (hf 1 _ rfl) (hs 1 (by decide))
  obtain ⟨z2, e2⟩ := int_field (o := 2) (hf 2 _ rfl) (hs 2 (by decide))
  obtain ⟨z3, e3⟩ := int_field (o := 3) (hf 3 _ rfl) (hs 3 (by decide))
  obtain ⟨z4, e4⟩ := int_field (o := 4) (hf 4 _ rfl) (hs 4 (by decide))
  obtain ⟨z15, e15⟩ := int_field (o := 15) (hf 6 _ rfl) (hs 6 (by decide))
  obtain ⟨z16, e16⟩ := int_field (o := 16) (hf 7 _ rfl) (hs 7 (by decide))
  have h5 := hf 5 _ rfl
  obtain ⟨y5, hy5⟩ := Option.isSome_iff_exists.1 (hs 5 (by decide))
  rw [hy5] at h5
  obtain ⟨ys, m2, _, _, _, hyl, hel⟩ := DataW.trod_array (n := 10) (e := 3) Try.underlying49 h5
  have hd : ∀ i, ∃ z : Int, i < 10 → cs[5 + i]? = some (.int .i64 z) := fun i => by
    by_cases hi : i < 10
    · obtain ⟨z, hz⟩ := int_field (o := i * Try.prog.cellsOf 3) (hel i hi) (by rw [List.getElem?_eq_getElem (by omega)]; rfl)
      rw [show Try.prog.cellsOf 3 = 1 from by kernel_rfl, Nat.mul_one] at hz
      refine ⟨z, fun _ => ?_⟩
      rw [List.getElem?_take] at hz
      split at hz
      · rw [List.getElem?_drop] at hz
        exact hz
      · cases hz
    · exact ⟨0, fun h => absurd h hi⟩
  refine ⟨fun k => if k = 0 then z0 else if k = 1 then z1 else if k = 2 then z2 else if k = 3 then z3 else if k = 4 then z4 else if k = 15 then z15 else if k = 16 then z16 else (hd (k - 5)).choose, fun j v hj => ?_⟩
  have hj17 : j < 17 := (List.getElem?_eq_some_iff.1 hj).1
  have hv := ncs_get (fun k => if k = 0 then z0 else if k = 1 then z1 else if k = 2 then z2 else if k = 3 then z3 else if k = 4 then z4 else if k = 15 then z15 else if k = 16 then z16 else (hd (k - 5)).choose) j hj17
  rw [Array.getElem?_toList] at hj
  rw [hj] at hv
  rw [Option.some.inj hv]
  clear hj hv
  match j, hj17 with
  | 0, _ => exact e0
  | 1, _ => exact e1
  | 2, _ => exact e2
  | 3, _ => exact e3
  | 4, _ => exact e4
  | k + 5, hk =>
    by_cases h15 : k = 10
    · subst h15; exact e15
    by_cases h16 : k = 11
    · subst h16; exact e16
    have hk10 : k < 10 := by omega
    have := (hd k).choose_spec hk10
    simp only [show ¬ k + 5 = 0 by omega, show ¬ k + 5 = 1 by omega, show ¬ k + 5 = 2 by omega, show ¬ k + 5 = 3 by omega, show ¬ k + 5 = 4 by omega, show ¬ k + 5 = 15 by omega, show ¬ k + 5 = 16 by omega, if_false, Nat.add_sub_cancel]
    exact (congrArg (fun i => cs[i]?) (Nat.add_comm k 5)).trans this
set_option maxRecDepth 100000 in
theorem nodes_of {base : Nat} {v : Value} {d : DataW H} {p : List MemPlace}
    (hv : Value.okWide Try.prog W .any base 48 v) (h : DataW.Trod enc Try.prog W 0 (fun _ => true) true 48 v d p) :
    ∃ A n c g, v = .slice A n c ∧ n ≤ 9223372036854775807 ∧ NodeCells.Nodes W A n g := by
  obtain ⟨A, n, c, rfl⟩ := okWide_slice Try.underlying48 hv
  obtain ⟨fuel, hf⟩ := h
  rcases open_slice Try.underlying48 hf with ⟨hcs, _⟩ | ⟨a, len, cap, m, n', D, Pl, hcs, _, hl, hm, hmm, hx, hi⟩
  · simp [Value.cells] at hcs
    obtain ⟨rfl, rfl, rfl⟩ := hcs
    exact ⟨none, 0, 0, fun _ _ => 0, rfl, by omega, fun i h => absurd h (Nat.not_lt_zero i)⟩
  · simp [Value.cells] at hcs
    obtain ⟨rfl, rfl, rfl⟩ := hcs
    simp at hmm
    subst hmm
    have hC : Try.prog.cellsOf 51 = 17 := by kernel_rfl
    have key : ∀ i, ∃ f : Nat → Int, i < n → ∀ (j : Nat) (v : Value), (ncs f).toList[j]? = some v → W.cell? ((a.add (i * 17)).add j) = some v := by
      intro i
      by_cases hlt : i < n
      · obtain ⟨cs', hcell, htr⟩ := hi i (by omega)
        rw [hC] at hcell
        obtain ⟨f, hfc⟩ := node_cells htr
        obtain ⟨_, hcl, hat⟩ := World.cells?_some hcell
        refine ⟨f, fun _ j v hj => ?_⟩
        have hj17 : j < 17 := (List.getElem?_eq_some_iff.1 hj).1
        rw [hat j hj17]
        exact hfc j v hj
      · exact ⟨fun _ => 0, fun h => absurd h hlt⟩
    exact ⟨some a, n, _, fun i => (key i).choose, rfl, by unfold maxLen at hm; omega, fun i h => ⟨a, rfl, (key i).choose_spec h⟩⟩
end

set_option maxRecDepth 100000 in
theorem entries_of {H : Type} {enc : TypeId × Value → H} {W : World} {base : Nat} {v : Value} {d : DataW H} {p : List MemPlace}
    (hv : Value.okWide Try.prog W .any base 59 v) (h : DataW.Trod enc Try.prog W 0 (fun _ => true) true 59 v d p) :
    ∃ A n c g, v = .slice A n c ∧ n ≤ 9223372036854775807 ∧ BackLaw.Ents W A n g := by
  obtain ⟨A, n, c, rfl⟩ := okWide_slice Try.underlying59 hv
  obtain ⟨fuel, hf⟩ := h
  rcases open_slice_fields Try.underlying59 Try.underlying61 (by kernel_rfl) (by kernel_rfl) hf with ⟨hcs, _⟩ | ⟨a, len, cap, m, D, Pl, hcs, _, hl, hm, hmm, hx, hi⟩
  · simp [Value.cells] at hcs
    obtain ⟨rfl, rfl, rfl⟩ := hcs
    exact ⟨none, 0, 0, fun _ => (0, 0, ⟨#[]⟩, 0), rfl, by omega, fun i h => by omega⟩
  · simp [Value.cells] at hcs
    obtain ⟨rfl, rfl, rfl⟩ := hcs
    simp at hmm
    subst hmm
    have key : ∀ i, ∃ q : Int × Int × ByteArray × Int, i < n → W.cell? (a.add (i * 4)) = some (.int .i64 q.1) ∧ W.cell? ⟨(a.add (i * 4)).block, (a.add (i * 4)).off + 1, none⟩ = some (.int .i64 q.2.1) ∧ W.cell? ⟨(a.add (i * 4)).block, (a.add (i * 4)).off + 2, none⟩ = some (.string q.2.2.1) ∧ W.cell? ⟨(a.add (i * 4)).block, (a.add (i * 4)).off + 3, none⟩ = some (.int .i64 q.2.2.2) := by
      intro i
      by_cases hlt : i < n
      · obtain ⟨ys, n', _, _, _, hfld⟩ := hi i (by omega)
        obtain ⟨v0, y0, hc0, _, ht0⟩ := hfld 0 _ rfl
        obtain ⟨v1, y1, hc1, _, ht1⟩ := hfld 1 _ rfl
        obtain ⟨v2, y2, hc2, _, ht2⟩ := hfld 2 _ rfl
        obtain ⟨v3, y3, hc3, _, ht3⟩ := hfld 3 _ rfl
        obtain ⟨z0, e0, _, _⟩ := DataW.trod_int Try.underlying3 ht0
        obtain ⟨z1, e1, _, _⟩ := DataW.trod_int Try.underlying3 ht1
        obtain ⟨z2, e2, _, _⟩ := DataW.trod_string Try.underlying9 ht2
        obtain ⟨z3, e3, _, _⟩ := DataW.trod_int Try.underlying3 ht3
        simp at e0 e1 e2 e3
        subst e0 e1 e2 e3
        exact ⟨(z0, z1, z2, z3), fun _ => ⟨hc0, (cell_add W a _ 1 (by omega)).symm.trans hc1, (cell_add W a _ 2 (by omega)).symm.trans hc2, (cell_add W a _ 3 (by omega)).symm.trans hc3⟩⟩
      · exact ⟨(0, 0, ⟨#[]⟩, 0), fun h => absurd h hlt⟩
    refine ⟨some a, n, _, fun i => (key i).choose, rfl, by unfold maxLen at hm; omega, fun i h => ⟨a, rfl, (key i).choose_spec h⟩⟩

set_option maxRecDepth 100000 in
theorem lifted (os : Os) (started : os.Started) (H : Type) (enc : TypeId × Value → H) :
    ReturnsInHanded {} Try.checked os 12 .any (Rows.codecBackSpec.pre6 enc Try.prog Try.f12 Rows.codecBackRow.domain false) (Rows.codecBackSpec.post enc Try.prog Try.f12 false true false false) := by
  refine Frame.lifted os started H enc (by kernel_rfl) Try.func12
    (ChangeSpec.witness6 (enc := enc) (C := Try.checked) false ⟨#[], #[.slice none 0 0, .slice none 0 0, .slice none 0 0], []⟩ 8 (by kernel_rfl) (by kernel_rfl) (by kernel_rfl) (by kernel_rfl)) rfl (by kernel_rfl) (by kernel_rfl)
    (fun ds h => by rw [Try.params12] at h; match ds, h with | [d0, d1, d2], _ => rfl) ?_
  intro W base args ds p hval hA hsz hfz
  rw [Try.params12] at hA hval
  obtain ⟨v0, v1, v2, d0, d1, d2, p0, p1, p2, rfl, rfl, rfl, h0, h1, h2⟩ := trodAll_three hA
  obtain ⟨A0, n0, c0, g0, rfl, hn0, hs0⟩ := nodes_of (hval 0 48 v0 rfl rfl) h0
  obtain ⟨A1, n1, c1, g1, rfl, hn1, hs1⟩ := entries_of (hval 1 59 v1 rfl rfl) h1
  obtain ⟨A2, n2, c2, g2, rfl, hn2, hs2⟩ := codecPlans.supers_of (hval 2 23 v2 rfl rfl) h2
  exact BackLaw.law_any A0 A1 A2 n0 c0 n1 c1 n2 c2 g0 g1 g2 W hn0 hn1 hn2 hs0 hs1 hs2
theorem over : Rows.codecBackRow.holds Try.pinned (OpenSpec.ofChange Rows.codecBackSpec) :=
  OpenClaim.holds_of_wide 12 Try.f12 rfl rfl rfl rfl rfl rfl rfl ⟨rfl, rfl, rfl, rfl, rfl⟩ rfl rfl rfl rfl rfl (by kernel_rfl) Try.func12 (by kernel_rfl)
    (of_decide_eq_true (by kernel_rfl)) (by unfold Func.isWrapper; first | (rw [if_pos (by decide +kernel)]; kernel_rfl) | (rw [if_neg (by decide +kernel)]; exact ⟨rfl, rfl⟩))
    (fun os started H enc _ => lifted os started H enc)
theorem proved : Rows.CodecBackSaid := over
end Go.Proofs.Ytefmihbjboacdaa.codecBack
namespace Go.Proofs.Ytefmihbjboacdaa
/-- The row, under a short name, for the claim. -/
theorem codecBack_holds : Rows.CodecBackSaid := codecBack.proved
end Go.Proofs.Ytefmihbjboacdaa
