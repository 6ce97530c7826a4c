/- CodecBursts: within 32 bits in a row nothing can be turned over unseen, in a node, an entry, an empty one, a superblock; no condition. -/
import Derived.Test.YtefmihbjboacdaaBurstLaw
import Derived.Test.YtefmihbjboacdaaStructs
import Derived.OpenShut
import Derived.Lib.SmallJoins
namespace Go.Proofs.Ytefmihbjboacdaa.codecBursts
open Go.ChangeShapes Go.WideShapes Go.ChangeAt Go.RowKit Go.Deep
open Go.Proofs.Ytefmihbjboacdaa.NodeLay
set_option linter.unusedVariables false

section
variable {H : Type} {enc : TypeId × Value → H} {W : World}
theorem int_field {n o : Nat} {cs : List Value} {y : Option (DataW H × List MemPlace)} (h : DataW.trod enc Try.prog W 0 (fun _ => true) true n 3 ((cs.drop o).take (Try.prog.cellsOf 3)) = y) (hy : y.isSome = true) : ∃ z : Int, cs[o]? = some (.int .i64 z) := by
  obtain ⟨x, rfl⟩ := Option.isSome_iff_exists.1 hy
  rw [show Try.prog.cellsOf 3 = 1 from by kernel_rfl] at h
  obtain ⟨z, e, _, _⟩ := DataW.trod_int Try.underlying3 h
  refine ⟨z, ?_⟩
  have h0 := congrArg (fun l => l[0]?) e
  simpa using h0
set_option maxRecDepth 100000 in
theorem node_cells {n : Nat} {cs : List Value} {x : DataW H × List MemPlace} (h : DataW.trod enc Try.prog W 0 (fun _ => true) true n 51 cs = some x) : ∃ f : Nat → Int, ∀ (j : Nat) (v : Value), (ncs f).toList[j]? = some v → cs[j]? = some v := by
  obtain ⟨xs, m, _, _, hlen, hxl, hf⟩ := DataW.trod_struct Try.underlying51 h
  have hsz : xs.length = 8 := hxl
  have hs : ∀ i, i < 8 → (xs[i]?).isSome = true := fun i hi => by rw [List.getElem?_eq_getElem (by omega)]; rfl
  obtain ⟨z0, e0⟩ := int_field (o := 0) (hf 0 _ rfl) (hs 0 (by decide))
  obtain ⟨z1, e1⟩ := int_field (o := 1) (hf 1 _ rfl) (hs 1 (by decide))
  obtain ⟨z2, e2⟩ := int_field (o := 2) (hf 2 _ rfl) (hs 2 (by decide))
  obtain ⟨z3, e3⟩ := int_field (o := 3) (hf 3 _ rfl) (hs 3 (by decide))
  obtain ⟨z4, e4⟩ := int_field (o := 4) (hf 4 _ rfl) (hs 4 (by decide))
  obtain ⟨z15, e15⟩ := int_field (o := 15) (hf 6 _ rfl) (hs 6 (by decide))
  obtain ⟨z16, e16⟩ := int_field (o := 16) (hf 7 _ rfl) (hs 7 (by decide))
  have h5 := hf 5 _ rfl
  obtain ⟨y5, hy5⟩ := Option.isSome_iff_exists.1 (hs 5 (by decide))
  rw [hy5] at h5
  obtain ⟨ys, m2, _, _, _, hyl, hel⟩ := DataW.trod_array (n := 10) (e := 3) Try.underlying49 h5
  have hd : ∀ i, ∃ z : Int, i < 10 → cs[5 + i]? = some (.int .i64 z) := fun i => by
    by_cases hi : i < 10
    · obtain ⟨z, hz⟩ := int_field (o := i * Try.prog.cellsOf 3) (hel i hi) (by rw [List.getElem?_eq_getElem (by omega)]; rfl)
      rw [show Try.prog.cellsOf 3 = 1 from by kernel_rfl, Nat.mul_one] at hz
      refine ⟨z, fun _ => ?_⟩
      rw [List.getElem?_take] at hz
      split at hz
      · rw [List.getElem?_drop] at hz
        exact hz
      · cases hz
    · exact ⟨0, fun h => absurd h hi⟩
  refine ⟨fun k => if k = 0 then z0 else if k = 1 then z1 else if k = 2 then z2 else if k = 3 then z3 else if k = 4 then z4 else if k = 15 then z15 else if k = 16 then z16 else (hd (k - 5)).choose, fun j v hj => ?_⟩
  have hj17 : j < 17 := (List.getElem?_eq_some_iff.1 hj).1
  have hv := ncs_get (fun k => if k = 0 then z0 else if k = 1 then z1 else if k = 2 then z2 else if k = 3 then z3 else if k = 4 then z4 else if k = 15 then z15 else if k = 16 then z16 else (hd (k - 5)).choose) j hj17
  rw [Array.getElem?_toList] at hj
  rw [hj] at hv
  rw [Option.some.inj hv]
  clear hj hv
  match j, hj17 with
  | 0, _ => exact e0
  | 1, _ => exact e1
  | 2, _ => exact e2
  | 3, _ => exact e3
  | 4, _ => exact e4
  | k + 5, hk =>
    by_cases h15 : k = 10
    · subst h15; exact e15
    by_cases h16 : k = 11
    · subst h16; exact e16
    have hk10 : k < 10 := by omega
    have := (hd k).choose_spec hk10
    simp only [show ¬ k + 5 = 0 by omega, show ¬ k + 5 = 1 by omega, show ¬ k + 5 = 2 by omega, show ¬ k + 5 = 3 by omega, show ¬ k + 5 = 4 by omega, show ¬ k + 5 = 15 by omega, show ¬ k + 5 = 16 by omega, if_false, Nat.add_sub_cancel]
    exact (congrArg (fun i => cs[i]?) (Nat.add_comm k 5)).trans this
set_option maxRecDepth 100000 in
theorem node_of {base : Nat} {v : Value} {d : DataW H} {p : List MemPlace} (hv : Value.okWide Try.prog W .any base 51 v) (h : DataW.Trod enc Try.prog W 0 (fun _ => true) true 51 v d p) : ∃ f : Nat → Int, v = .agg (ncs f) := by
  obtain ⟨cs, rfl, hsz⟩ := okWide_struct Try.underlying51 hv
  rw [show Try.prog.cellsOf 51 = 17 from by kernel_rfl] at hsz
  obtain ⟨fuel, hf⟩ := h
  obtain ⟨f, hc⟩ := node_cells hf
  refine ⟨f, congrArg Value.agg (Array.ext' ?_)⟩
  have hl : cs.toList.length = 17 := by rw [Array.length_toList]; exact hsz
  refine List.ext_getElem? fun j => ?_
  by_cases hj : j < 17
  · have h0 := ncs_get f j hj
    rw [← Array.getElem?_toList] at h0
    exact (hc j _ h0).trans h0.symm
  · rw [List.getElem?_eq_none (by omega), List.getElem?_eq_none (by show 17 ≤ j; omega)]
set_option maxRecDepth 100000 in
theorem super_of {base : Nat} {v : Value} {d : DataW H} {p : List MemPlace} (hv : Value.okWide Try.prog W .any base 30 v) (h : DataW.Trod enc Try.prog W 0 (fun _ => true) true 30 v d p) : ∃ a b c : Int, v = .agg #[.int .i64 a, .int .i64 b, .int .i64 c] := by
  obtain ⟨cs, rfl, hsz⟩ := okWide_struct Try.underlying30 hv
  rw [show Try.prog.cellsOf 30 = 3 from by kernel_rfl] at hsz
  obtain ⟨fuel, hf⟩ := h
  obtain ⟨xs, m, _, _, hlen, hxl, hfd⟩ := DataW.trod_struct Try.underlying30 hf
  have hs : ∀ i, i < 3 → (xs[i]?).isSome = true := fun i hi => by rw [List.getElem?_eq_getElem (by have : xs.length = 3 := hxl; omega)]; rfl
  obtain ⟨z0, e0⟩ := int_field (o := 0) (hfd 0 _ rfl) (hs 0 (by decide))
  obtain ⟨z1, e1⟩ := int_field (o := 1) (hfd 1 _ rfl) (hs 1 (by decide))
  obtain ⟨z2, e2⟩ := int_field (o := 2) (hfd 2 _ rfl) (hs 2 (by decide))
  refine ⟨z0, z1, z2, congrArg Value.agg (Array.ext' ?_)⟩
  have hl : cs.toList.length = 3 := by rw [Array.length_toList]; exact hsz
  refine List.ext_getElem? fun j => ?_
  match j with
  | 0 => exact e0
  | 1 => exact e1
  | 2 => exact e2
  | j + 3 => rw [List.getElem?_eq_none (by omega), List.getElem?_eq_none (by show 3 ≤ j + 3; omega)]
set_option maxRecDepth 100000 in
theorem entry_of {base : Nat} {v : Value} {d : DataW H} {p : List MemPlace} (hv : Value.okWide Try.prog W .any base 61 v) (h : DataW.Trod enc Try.prog W 0 (fun _ => true) true 61 v d p) : ∃ (a b : Int) (s : ByteArray) (c : Int), v = .agg #[.int .i64 a, .int .i64 b, .string s, .int .i64 c] := by
  obtain ⟨cs, rfl, hsz⟩ := okWide_struct Try.underlying61 hv
  rw [show Try.prog.cellsOf 61 = 4 from by kernel_rfl] at hsz
  obtain ⟨fuel, hf⟩ := h
  obtain ⟨xs, m, _, _, hlen, hxl, hfd⟩ := DataW.trod_struct Try.underlying61 hf
  have hs : ∀ i, i < 4 → (xs[i]?).isSome = true := fun i hi => by rw [List.getElem?_eq_getElem (by have : xs.length = 4 := hxl; omega)]; rfl
  obtain ⟨z0, e0⟩ := int_field (o := 0) (hfd 0 _ rfl) (hs 0 (by decide))
  obtain ⟨z1, e1⟩ := int_field (o := 1) (hfd 1 _ rfl) (hs 1 (by decide))
  obtain ⟨z3, e3⟩ := int_field (o := 3) (hfd 3 _ rfl) (hs 3 (by decide))
  have h2 := hfd 2 _ rfl
  obtain ⟨y2, hy2⟩ := Option.isSome_iff_exists.1 (hs 2 (by decide))
  rw [hy2] at h2
  obtain ⟨z2, e, _, _⟩ := DataW.trod_string Try.underlying9 h2
  have e2 : cs.toList[2]? = some (.string z2) := by
    have h1 : List.take (Try.prog.cellsOf 9) (List.drop 2 cs.toList) = [.string z2] := e
    rw [show Try.prog.cellsOf 9 = 1 from by kernel_rfl] at h1
    have h0 := congrArg (fun l => l[0]?) h1
    simpa using h0
  refine ⟨z0, z1, z2, z3, congrArg Value.agg (Array.ext' ?_)⟩
  have hl : cs.toList.length = 4 := by rw [Array.length_toList]; exact hsz
  refine List.ext_getElem? fun j => ?_
  match j with
  | 0 => exact e0
  | 1 => exact e1
  | 2 => exact e2
  | 3 => exact e3
  | j + 4 => rw [List.getElem?_eq_none (by omega), List.getElem?_eq_none (by show 4 ≤ j + 4; omega)]
end

set_option maxRecDepth 100000 in
theorem lifted (os : Os) (started : os.Started) (H : Type) (enc : TypeId × Value → H) :
    ReturnsInHanded {} Try.checked os 14 .any (Rows.codecBurstsSpec.pre6 enc Try.prog Try.f14 Rows.codecBurstsRow.domain false) (Rows.codecBurstsSpec.post enc Try.prog Try.f14 false true false false) := by
  refine Frame.lifted os started H enc (by kernel_rfl) Try.func14
    (ChangeSpec.witness6 (enc := enc) (C := Try.checked) false ⟨#[], #[.agg (ncs fun _ => 0), .agg #[.int .i64 0, .int .i64 0, .string ⟨#[]⟩, .int .i64 0], .agg #[.int .i64 0, .int .i64 0, .int .i64 0], .int .i64 0, .int .i64 0], []⟩ 8 (by kernel_rfl) (by kernel_rfl) (by kernel_rfl) (by kernel_rfl)) rfl (by kernel_rfl) (by kernel_rfl)
    (fun ds h => by rw [Try.params14] at h; match ds, h with | [d0, d1, d2, d3, d4], _ => rfl) ?_
  intro W base args ds p hval hA hsz hfz
  rw [Try.params14] at hA hval
  obtain ⟨v0, vs0, d0, ds0, p0, q0, hargs, rfl, rfl, h0, r0⟩ := trodAll_cons hA
  obtain ⟨v1, vs1, d1, ds1, p1, q1, rfl, rfl, rfl, h1, r1⟩ := trodAll_cons r0
  obtain ⟨v2, vs2, d2, ds2, p2, q2, rfl, rfl, rfl, h2, r2⟩ := trodAll_cons r1
  obtain ⟨v3, vs3, d3, ds3, p3, q3, rfl, rfl, rfl, h3, r3⟩ := trodAll_cons r2
  obtain ⟨v4, vs4, d4, ds4, p4, q4, rfl, rfl, rfl, h4, r4⟩ := trodAll_cons r3
  obtain ⟨rfl, rfl, rfl⟩ := trodAll_nil r4
  obtain rfl : args = #[v0, v1, v2, v3, v4] := by cases args; simp_all
  obtain ⟨f, rfl⟩ := node_of (hval 0 51 v0 rfl rfl) h0
  obtain ⟨a, b, s, c, rfl⟩ := entry_of (hval 1 61 v1 rfl rfl) h1
  obtain ⟨x, y, z, rfl⟩ := super_of (hval 2 30 v2 rfl rfl) h2
  obtain ⟨m, rfl⟩ := okWide_int Try.underlying3 (hval 3 3 v3 rfl rfl)
  obtain ⟨n, rfl⟩ := okWide_int Try.underlying3 (hval 4 3 v4 rfl rfl)
  exact BurstLaw.law_any f a b s c x y z m n W
theorem over : Rows.codecBurstsRow.holds Try.pinned (OpenSpec.ofChange Rows.codecBurstsSpec) :=
  OpenClaim.holds_of_wide 14 Try.f14 rfl rfl rfl rfl rfl rfl rfl ⟨rfl, rfl, rfl, rfl, rfl⟩ rfl rfl rfl rfl rfl (by kernel_rfl) Try.func14 (by kernel_rfl)
    (of_decide_eq_true (by kernel_rfl)) (by unfold Func.isWrapper; first | (rw [if_pos (by decide +kernel)]; kernel_rfl) | (rw [if_neg (by decide +kernel)]; exact ⟨rfl, rfl⟩))
    (fun os started H enc _ => lifted os started H enc)
theorem proved : Rows.CodecBurstsSaid := over
end Go.Proofs.Ytefmihbjboacdaa.codecBursts
namespace Go.Proofs.Ytefmihbjboacdaa
/-- The row, under a short name, for the claim. -/
theorem codecBursts_holds : Rows.CodecBurstsSaid := codecBursts.proved
end Go.Proofs.Ytefmihbjboacdaa
