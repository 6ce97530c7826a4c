/- ServeNames: the document's hall for nine is refused, and the numbers are the contract's. -/
import Derived.Test.YtcdhkeahcliefaaKit
import Derived.Test.YtcdhkeahcliefaaFrame
import Derived.Lib.Hide
namespace Go.Proofs.Ytcdhkeahcliefaa.ServeLaw
open Go.ChangeShapes Go.WideShapes Go.ChangeAt Go.RowKit
open Go.Proofs.Ytcdhkeahcliefaa.Kit
set_option linter.unusedVariables false

set_option maxRecDepth 100000 in
set_option maxHeartbeats 800000 in
theorem new_nine (v : Value) (w : World) (hv : ∃ a b, v = .agg #[a, b]) : Calls Try.prog 8 #[v, .int .i64 9] w fun e w' => e = .returned (.tuple #[.pointer none, .int .i64 200]) ∧ Below w.heap.size w w' := by
  obtain ⟨a, b, rfl⟩ := hv
  go_enter Try.func8, Try.ntmps8
  go_wp2_with fail
  go_ret2
  refine ⟨rfl, ?_⟩
  repeat (first | exact Below.refl _ _ | refine Below.drew ?_ | refine Below.alloc ?_ (by first | (simp; done) | (simp; omega)) _)
set_option maxRecDepth 100000 in
set_option maxHeartbeats 800000 in
theorem law_any (w : World) : Calls Try.prog 4 #[] w fun e w' => e = .returned (.bool true) ∧ Below w.heap.size w w' := by
  go_enter Try.func4, Try.ntmps4
  go_wp2_with fail
  refine (new_nine _ _ ⟨_, _, rfl⟩).mono ?_
  rintro e w' ⟨rfl, hb⟩
  have HB := Lib.hid hb
  clear hb
  go_wp2_with fail
  go_ret
  exact ⟨rfl, HB.out⟩
end Go.Proofs.Ytcdhkeahcliefaa.ServeLaw
