/- The frame of a law's row over arguments of small bulk: where every call answers true and leaves all that was there as it was, the given statement holds. -/
import Derived.Test.YtcdhkeahcliefaaFrame
import Derived.JoinedCond
import Derived.Deep.CondSized
namespace Go.Proofs.Ytcdhkeahcliefaa.FrameUp
open Go.ChangeShapes Go.WideShapes Go.ChangeAt Go.RowKit
open Go.Proofs.Ytcdhkeahcliefaa.Frame
set_option linter.unusedVariables false

set_option maxRecDepth 100000 in
theorem lifted {f : FuncId} {fn : Func} {s : ChangeSpec} {conds : List PathCond} (os : Os) (started : os.Started) (H : Type) (enc : TypeId × Value → H) (F0 : Stop.Interp)
    (noInit : Try.prog.inits.idxOf? f = none) (hfn : Try.prog.funcs[f]? = some fn)
    (witness : ∃ (w : World) (tape : Tape) (i : Input), w.os = os ∧ (w.forCall tape i).Shaped Try.prog ∧ i.vars = [] ∧ Input.okWide Try.prog (w.forCall tape i) .any w.heap.size f i ∧
      (Rows.OpenSpec.upto s).pre6 enc Try.prog fn conds false (w.forCall tape i).memory i.args ∧ Assume.holds {} Try.prog (lone (Frame.enter Try.prog f i.args .normal) [] (w.forCall tape i)))
    (hvars : s.vars = []) (hread : fn.params.toList.all (fun t => Try.prog.readableRec t && decide (t < Try.prog.types.size)) = true) (hres : fn.resultTypes = #[4])
    (hspec : ∀ ds : List (DataW H), ds.length = fn.params.toList.length → s.fn H (ds ++ []) = { results := [.lit (.bool true)], args := ds })
    (contract : ∀ (W : World) (base : Nat) (args : Array Value) (ds : List (DataW H)) (ps : List MemPlace),
      (∀ (j : Nat) t v, fn.params[j]? = some t → args[j]? = some v → Value.okWide Try.prog W .any base t v) →
      DataW.TrodAll enc Try.prog W 0 (fun _ => true) true fn.params.toList args.toList ds ps →
      Rows.uptoBulkAll ds ≤ 1048576 →
      W.noneFrozen ps →
      Calls Try.prog f args W fun e W' => e = .returned (.bool true) ∧ Below W.heap.size W W') :
    ReturnsInHanded {} Try.checked os f .any ((Rows.OpenSpec.upto s).pre6 enc Try.prog fn conds false) (((Rows.OpenSpec.upto s).at F0).post enc Try.prog fn false true false false) := by
  refine returnsInHanded_of_cond_sized (C := Try.checked) (s := Rows.OpenSpec.upto s) (k := Rows.uptoSmall) rfl own started noInit hfn witness ?_
  intro W base args ds gs before hval0 hW hcnd hk hsz0 _
  have hval : ∀ (j : Nat) t v, fn.params[j]? = some t → args[j]? = some v → Value.okWide Try.prog W .any base t v := hval0
  have hW' := hW
  obtain ⟨p, q, hA0, hV, rfl, hfz, hnd⟩ := hW
  have hV : DataW.TrodVars enc Try.prog W (fun _ => true) s.vars gs q := hV
  rw [hvars] at hV
  obtain ⟨rfl, rfl⟩ := trodVars_none hV
  have hA : DataW.TrodAll enc Try.prog W 0 (fun _ => true) true fn.params.toList args.toList ds p := hA0
  have hlen := (trodAll_length _ _ _ _ hA).1
  have hk2 : Rows.uptoBulkAll ds ≤ 1048576 := by
    have h := of_decide_eq_true hk
    rwa [List.append_nil] at h
  refine (contract W base args ds p hval hA hk2 (fun b off h => hfz b off (by simp [h]))).mono fun e W' ⟨he, bel⟩ => ?_
  subst he
  have hback := trodAll_below laidOut bel fn.params.toList (reads_of_all hread) _ _ _ hA
  have e1 := hspec ds hlen
  refine ⟨_, rfl, ds, [], _, [], p, [], hW', ?_, ?_, ?_, bel.frame _, fun h => by cases h⟩
  · rw [show ((Rows.OpenSpec.upto s).at F0).fn H (ds ++ []) = _ from e1, hres]
    exact trodAll_mk1 (shut_bool Try.underlying4 _)
  · rw [show ((Rows.OpenSpec.upto s).at F0).fn H (ds ++ []) = _ from e1]
    exact hback
  · rw [show ((Rows.OpenSpec.upto s).at F0).fn H (ds ++ []) = _ from e1, show ((Rows.OpenSpec.upto s).at F0).vars = [] from hvars]
    exact rfl
end Go.Proofs.Ytcdhkeahcliefaa.FrameUp
