/- What Sum answers: the register's way over the bytes. -/
import Derived.Test.YtefmihbjboacdaaHalves
import Derived.Test.YtefmihbjboacdaaReads
namespace Go.Proofs.Ytefmihbjboacdaa.Sum
open Go.ChangeShapes Go.WideShapes Go.ChangeAt Go.RowKit
open Go.Proofs.Ytefmihbjboacdaa.Kit Go.Proofs.Ytefmihbjboacdaa.Halves Go.Proofs.Ytefmihbjboacdaa.Crc Go.Proofs.Ytefmihbjboacdaa.Reads
set_option linter.unusedVariables false

theorem regs_take (r : UInt32) (l : List UInt8) (k : Nat) (h : k < l.length) : regs r (l.take (k + 1)) = byte (regs r (l.take k)) l[k] := by
  unfold regs
  rw [List.take_succ_eq_append_getElem h, List.foldl_append]
  rfl
theorem tab_cell (z : UInt32) : table[(u (z &&& 15)).toNat]? = some (.int .u32 (u (tab z))) := by
  have h := and15_lt z
  unfold tab u
  generalize (z &&& 15).toNat = n at h ⊢
  rw [Int.toNat_natCast]
  match n, h with
  | 0, _ | 1, _ | 2, _ | 3, _ | 4, _ | 5, _ | 6, _ | 7, _ | 8, _ | 9, _ | 10, _ | 11, _ | 12, _ | 13, _ | 14, _ | 15, _ => rfl
  | m + 16, h => omega

set_option maxHeartbeats 800000 in
theorem sum_any (A : Option Addr) (c : Nat) (l : List UInt8) (w : World) (hn : l.length ≤ 9223372036854775807) (H : Hid (Bytes w A l)) :
    Calls Try.prog 17 #[.slice A l.length c] w fun e w' => e = .returned (.int .i64 (sum l)) ∧ Below w.heap.size w w' := by
  go_enter Try.func17, Try.ntmps17
  go_wp2_with fail
  refine (halves_any _).mono ?_
  unfold table
  rintro e w1 ⟨rfl, hb⟩
  have hs := hb.size
  have HB := Lib.hid hb
  clear hb
  go_wp2_with fail
  refine gen_world (fun w' => Blk w' w1.heap.size table 76 ∧ Below w.heap.size w w') ?_ ?_
  · exact ⟨Blk.new _ _ _, HB.out.alloc hs _⟩
  generalize hB : w1.heap.size = B at *
  clear HB hB w1
  rintro w1 ⟨hk1, hw1⟩
  have HK := Lib.hid hk1
  have HW := Lib.hid hw1
  clear hk1 hw1
  go_loopw [4, 10] (fun r i wr => ∃ (k : Nat) (x : UInt32), i = .int .i64 k ∧ r = .int .u32 (u x) ∧ Hid (x = regs 0xFFFFFFFF (l.take k)) ∧ k ≤ l.length ∧ wr = w1) (fun _ i _ => l.length - (intOf i).toNat)
  case atStart =>
    exact ⟨0, 0xFFFFFFFF, rfl, rfl, rfl, Nat.zero_le _, rfl⟩
  case round =>
    obtain ⟨k, x, rfl, rfl, hx, hk, rfl⟩ := hrel
    by_cases hlt : k < l.length
    · obtain ⟨ad, rfl, h0⟩ := H.out k hlt
      have hstep := Lib.hid (regs_take 0xFFFFFFFF l k hlt)
      generalize l[k] = y at *
      rw [← HW.out.cell (World.block_lt_of_cell? w _ h0)] at h0
      have e1 := v8_u32
      have e2 := u_xor32
      have e3 := u_and15
      have e4 : ∀ x y : UInt32, bits .xor .u32 (u x / 16) (u y) = u ((x >>> 4) ^^^ y) := fun x y => by rw [u_shr4, u_xor32]
      have e5 := u_nonneg
      have e6 : ∀ z : UInt32, u (z &&& 15) < 16 := fun z => by unfold u; have := and15_lt z; omega
      have hc : ∀ z : UInt32, wr.cell? ⟨B, (u (z &&& 15)).toNat, none⟩ = some (.int .u32 (u (tab z))) := fun z => (HK.out.cell _).trans (tab_cell z)
      go_wp2_with fail
      refine ⟨⟨k + 1, byte x y, by go_num, by rw [nib2], ?_, by omega, trivial⟩, by simp [intOf]; omega⟩
      have := hx.out
      rw [this]
      exact hstep.out.symm
    · have e7 := u_not
      have e8 : IntKind.u32.max = 4294967295 := by decide
      have e5 := u_nonneg
      have e9 := u_lt
      go_wp2_with fail
      go_ret
      have hx2 := hx.out
      rw [List.take_of_length_le (by omega)] at hx2
      refine ⟨?_, HW.out⟩
      show Ending.returned (.int .i64 _) = Ending.returned (.int .i64 _)
      rw [hx2]
      unfold sum sumU
      have := u_lt (~~~ regs 4294967295 l)
      have := u_nonneg (~~~ regs 4294967295 l)
      rw [IntWalk.wrap64_in _ ⟨by omega, by omega⟩]
end Go.Proofs.Ytefmihbjboacdaa.Sum
