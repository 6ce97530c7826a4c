/- The shelf's contracts for strings.IndexAny, laid at this program (plain text; the numbers as the shelf's command tells them). -/
import Derived.Test.YtefmihbjboacdaaFrame
import Derived.Shelf.Strings.IndexAnyAll
namespace Go.Proofs.Ytefmihbjboacdaa.Laid
open Go.Shelf Go.RowKit
set_option linter.unusedVariables false

def ren : Ren := { f := fun x => match x with | 150 => 61 | 153 => 68 | 152 => 69 | 226 => 70 | 227 => 71 | 228 => 72 | 137 => 73 | 119 => 74 | 224 => 75 | 225 => 76 | 217 => 77 | 266 => 78 | n => n, t := fun x => match x with | 9 => 9 | 4 => 4 | 3 => 3 | 5 => 5 | 21 => 21 | 117 => 107 | 116 => 106 | 0 => 0 | 46 => 40 | 124 => 113 | n => n, g := fun x => x }
set_option maxRecDepth 100000 in
theorem lays : Lays.n150 Try.prog ren := {
  mixed := by kernel_rfl
  f119 := Try.func74.trans (congrArg some (by kernel_rfl))
  f137 := Try.func73.trans (congrArg some (by kernel_rfl))
  f150 := Try.func61.trans (congrArg some (by kernel_rfl))
  f152 := Try.func69.trans (congrArg some (by kernel_rfl))
  f153 := Try.func68.trans (congrArg some (by kernel_rfl))
  f217 := Try.func77.trans (congrArg some (by kernel_rfl))
  f224 := Try.func75.trans (congrArg some (by kernel_rfl))
  f225 := Try.func76.trans (congrArg some (by kernel_rfl))
  f226 := Try.func70.trans (congrArg some (by kernel_rfl))
  f227 := Try.func71.trans (congrArg some (by kernel_rfl))
  f228 := Try.func72.trans (congrArg some (by kernel_rfl))
  f266 := Try.func78.trans (congrArg some (by kernel_rfl))
  t0 := Try.underlying0
  a0 := Try.isAgg0
  z0 := Try.sizeOf0
  v0 := Try.zeroValue0
  t3 := Try.underlying3
  a3 := Try.isAgg3
  z3 := Try.sizeOf3
  v3 := Try.zeroValue3
  t4 := Try.underlying4
  a4 := Try.isAgg4
  z4 := Try.sizeOf4
  v4 := Try.zeroValue4
  t5 := Try.underlying5
  a5 := Try.isAgg5
  z5 := Try.sizeOf5
  v5 := Try.zeroValue5
  t9 := Try.underlying9
  a9 := Try.isAgg9
  z9 := Try.sizeOf9
  v9 := Try.zeroValue9
  t21 := Try.underlying21
  a21 := Try.isAgg21
  z21 := Try.sizeOf21
  v21 := Try.zeroValue21
  t46 := Try.underlying40
  a46 := Try.isAgg40
  z46 := Try.sizeOf40
  v46 := Try.zeroValue40
  t116 := Try.underlying106
  a116 := Try.isAgg106
  z116 := Try.sizeOf106
  t117 := Try.underlying107
  a117 := Try.isAgg107
  z117 := Try.sizeOf107
  v117 := Try.zeroValue107
  t124 := Try.underlying113
  a124 := Try.isAgg113
  z124 := Try.sizeOf113
  v124 := Try.zeroValue113
 }
theorem set116 : (Try.prog.info? (ren.t 116)).map (fun i => (i.zero, i.size)) = some (some (.agg (Array.replicate 256 (.bool false))), 256) := by kernel_rfl

theorem rune_low (s : ByteArray) (r : Int) (w : World) (h0 : 0 ≤ r) (h1 : r < 128) :
    Calls Try.prog 69 #[.string s, .int .i32 r] w fun e w' => e = .returned (.int .i64 (Lib.indexByte s.data.toList r.toNat.toUInt8)) ∧ w' = w :=
  Any.strings_IndexRune_ascii (ρ := ren) { lays with } s r w h0 h1
theorem index_byte (s : ByteArray) (c : Int) (w : World) : Calls Try.prog 73 #[.string s, .int .u8 c] w fun e w' => e = .returned (.int .i64 (Lib.indexByte s.data.toList c.toNat.toUInt8)) ∧ w' = w :=
  Any.strings_IndexByte (ρ := ren) { lays with } s c w
theorem any_long (s chars : ByteArray) (w : World) (h2 : 2 ≤ chars.size) (h8 : 8 < s.size) (hs : s.size < 4294967281) (hcs : chars.size < 4294967281)
    (hascii : ∀ (j : Nat) b, chars.data.toList[j]? = some b → b.toNat < 128) :
    Calls Try.prog 68 #[.string s, .string chars] w fun e w' => e = .returned (.int .i64 (Lib.indexAny s.data.toList chars.data.toList)) ∧ Below w.heap.size w w' := by
  refine (Any.strings_IndexAny_long (ρ := ren) { lays with } (zero_of_info set116).1 (zero_of_info set116).2 s chars w h2 h8 hs hcs hascii).mono fun e w' ⟨h1, h2⟩ => ⟨h1, ?_⟩
  rw [h2]
  exact ((Below.refl _ _).alloc (Nat.le_refl _) _).alloc (by simp) _
theorem should (n : Int) (w : World) : Calls Try.prog 70 #[.int .i64 n] w fun e w' => e = .returned (.bool (decide (8 < n))) ∧ w' = w :=
  Any.strings_shouldUseASCIISet (ρ := ren) { lays with } n w
end Go.Proofs.Ytefmihbjboacdaa.Laid
