/- FindGlobs, where what it reads is of bulk at most 1048576: true. -/
import Derived.Test.YtcdhkeahcliefaaGlobLaw
import Derived.Test.YtcdhkeahcliefaaFrameUp
import Derived.ChangeShapes
import Derived.ChangeMaps5
namespace Go.Proofs.Ytcdhkeahcliefaa.findGlobsUpto
open Go.ChangeShapes Go.WideShapes Go.ChangeAt Go.RowKit
open Go.ChangeMaps (open_string)
set_option linter.unusedVariables false

theorem byte_of {H : Type} {enc : TypeId × Value → H} {W : World} {base : Nat} {v : Value} {d : DataW H} {p : List MemPlace}
    (hv : Value.okWide Try.prog W .any base 5 v) (h : DataW.Trod enc Try.prog W 0 (fun _ => true) true 5 v d p) : ∃ n : Nat, v = .int .u8 (n : Int) ∧ n < 256 := by
  obtain ⟨z, rfl⟩ := okWide_int Try.underlying5 hv
  obtain ⟨fuel, hf⟩ := h
  obtain ⟨z', e, _, hw⟩ := DataW.trod_int Try.underlying5 hf
  simp [Value.cells] at e
  subst e
  simp only [Lit.wf, Bool.and_eq_true, decide_eq_true_eq] at hw
  have w1 : (0 : Int) ≤ z := hw.1
  have w2 : z ≤ (255 : Int) := hw.2
  refine ⟨z.toNat, ?_, by omega⟩
  rw [Int.toNat_of_nonneg (by omega)]
set_option maxRecDepth 100000 in
theorem lifted (os : Os) (started : os.Started) (H : Type) (enc : TypeId × Value → H) (F0 : Stop.Interp) :
    ReturnsInHanded {} Try.checked os 6 .any ((Rows.OpenSpec.upto Rows.findGlobsSpec).pre6 enc Try.prog Try.f6 Rows.findGlobsUptoRow.domain false) (((Rows.OpenSpec.upto Rows.findGlobsSpec).at F0).post enc Try.prog Try.f6 false true false false) := by
  refine FrameUp.lifted os started H enc F0 (by kernel_rfl) Try.func6
    (OpenSpec.witness (enc := enc) (C := Try.checked) (s := Rows.OpenSpec.upto Rows.findGlobsSpec) (k := Rows.uptoSmall) rfl false ⟨#[], #[.string ⟨#[]⟩, .string ⟨#[]⟩, .string ⟨#[]⟩, .string ⟨#[]⟩, .int .u8 0, .int .u8 0, .int .u8 0], []⟩ 8 (by kernel_rfl) (by kernel_rfl) (by kernel_rfl)
      (x := ([.lit (.string []), .lit (.string []), .lit (.string []), .lit (.string []), .lit (.int .u8 0), .lit (.int .u8 0), .lit (.int .u8 0)], [], [])) (by kernel_rfl) (by kernel_rfl) (by kernel_rfl)) rfl (by kernel_rfl) (by kernel_rfl)
    (fun ds h => by rw [Try.params6] at h; match ds, h with | [d0, d1, d2, d3, d4, d5, d6], _ => rfl) ?_
  intro W base args ds p hval hA hsz hfz
  rw [Try.params6] at hA hval
  obtain ⟨v0, vs0, d0, ds0, p0, q0, hargs, rfl, rfl, h0, r0⟩ := trodAll_cons hA
  obtain ⟨v1, vs1, d1, ds1, p1, q1, rfl, rfl, rfl, h1, r1⟩ := trodAll_cons r0
  obtain ⟨v2, vs2, d2, ds2, p2, q2, rfl, rfl, rfl, h2, r2⟩ := trodAll_cons r1
  obtain ⟨v3, vs3, d3, ds3, p3, q3, rfl, rfl, rfl, h3, r3⟩ := trodAll_cons r2
  obtain ⟨v4, vs4, d4, ds4, p4, q4, rfl, rfl, rfl, h4, r4⟩ := trodAll_cons r3
  obtain ⟨v5, vs5, d5, ds5, p5, q5, rfl, rfl, rfl, h5, r5⟩ := trodAll_cons r4
  obtain ⟨v6, vs6, d6, ds6, p6, q6, rfl, rfl, rfl, h6, r6⟩ := trodAll_cons r5
  obtain ⟨rfl, rfl, rfl⟩ := trodAll_nil r6
  obtain rfl : args = #[v0, v1, v2, v3, v4, v5, v6] := by cases args; simp_all
  obtain ⟨a, rfl, rfl, rfl, ha⟩ := open_string Try.underlying9 (hval 0 9 v0 rfl rfl) h0
  obtain ⟨m, rfl, rfl, rfl, hm⟩ := open_string Try.underlying9 (hval 1 9 v1 rfl rfl) h1
  obtain ⟨b, rfl, rfl, rfl, hb⟩ := open_string Try.underlying9 (hval 2 9 v2 rfl rfl) h2
  obtain ⟨o, rfl, rfl, rfl, ho⟩ := open_string Try.underlying9 (hval 3 9 v3 rfl rfl) h3
  obtain ⟨lo, rfl, hlo⟩ := byte_of (hval 4 5 v4 rfl rfl) h4
  obtain ⟨hi, rfl, hhi⟩ := byte_of (hval 5 5 v5 rfl rfl) h5
  obtain ⟨c, rfl, hc⟩ := byte_of (hval 6 5 v6 rfl rfl) h6
  have hs : (a.data.toList.length + 1) + ((m.data.toList.length + 1) + ((b.data.toList.length + 1) + ((o.data.toList.length + 1) + Rows.uptoBulkAll [d4, d5, d6]))) ≤ 1048576 := hsz
  simp only [Array.length_toList] at hs
  have e1 : a.size = a.data.size := rfl
  have e2 : m.size = m.data.size := rfl
  have e3 : b.size = b.data.size := rfl
  exact GlobLaw.law_any a m b o lo hi c W (by omega) (by omega) (by omega) hlo hhi hc
theorem over : Rows.findGlobsUptoRow.holds Try.pinned (Rows.OpenSpec.upto Rows.findGlobsSpec) :=
  OpenClaim.holds_of_cond 6 Try.f6 rfl rfl rfl rfl rfl rfl rfl ⟨rfl, rfl, rfl, rfl, rfl⟩ rfl rfl rfl rfl rfl (by kernel_rfl) Try.func6 (by kernel_rfl)
    (of_decide_eq_true (by kernel_rfl)) (by unfold Func.isWrapper; first | (rw [if_pos (by decide +kernel)]; kernel_rfl) | (rw [if_neg (by decide +kernel)]; exact ⟨rfl, rfl⟩))
    (fun os started H enc _ F0 => lifted os started H enc F0)
theorem proved : Rows.FindGlobsUptoSaid := over
end Go.Proofs.Ytcdhkeahcliefaa.findGlobsUpto
namespace Go.Proofs.Ytcdhkeahcliefaa
/-- The row, under a short name, for the claim. -/
theorem findGlobsUpto_holds : Rows.FindGlobsUptoSaid := findGlobsUpto.proved
end Go.Proofs.Ytcdhkeahcliefaa
