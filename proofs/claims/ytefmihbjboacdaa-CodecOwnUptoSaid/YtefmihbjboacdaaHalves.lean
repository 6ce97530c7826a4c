/- The table that halves makes. -/
import Derived.Test.YtefmihbjboacdaaKit
namespace Go.Proofs.Ytefmihbjboacdaa.Halves
open Go.ChangeShapes Go.WideShapes Go.ChangeAt Go.RowKit
open Go.Proofs.Ytefmihbjboacdaa.Kit
set_option linter.unusedVariables false

def table : Array Value := #[.int .u32 0x00000000, .int .u32 0x105ec76f, .int .u32 0x20bd8ede, .int .u32 0x30e349b1, .int .u32 0x417b1dbc, .int .u32 0x5125dad3, .int .u32 0x61c69362, .int .u32 0x7198540d,
  .int .u32 0x82f63b78, .int .u32 0x92a8fc17, .int .u32 0xa24bb5a6, .int .u32 0xb21572c9, .int .u32 0xc38d26c4, .int .u32 0xd3d3e1ab, .int .u32 0xe330a81a, .int .u32 0xf36e6f75]

set_option maxHeartbeats 800000 in
theorem halves_any (w : World) : Calls Try.prog 45 #[] w fun e w' => e = .returned (.agg table) ∧ Below w.heap.size w w' := by
  go_enter Try.func45, Try.ntmps45
  go_wp2
  refine bodyPost_ret (v := .agg table) (by simp [results, Try.results45, go_sem, table]) rfl ⟨rfl, ?_⟩
  repeat (first | exact Below.refl _ _ | refine Below.drew ?_ | refine Below.alloc ?_ (by first | (simp; done) | (simp; omega)) _ | refine Below.setCell ?_ (by first | (simp; done) | (simp; omega)) _)

end Go.Proofs.Ytefmihbjboacdaa.Halves
