/- What the document's Sum answers: the same register's way, bit by bit. -/
import Derived.Test.YtefmihbjboacdaaSum
namespace Go.Proofs.Ytefmihbjboacdaa.RefSum
open Go.ChangeShapes Go.WideShapes Go.ChangeAt Go.RowKit
open Go.Proofs.Ytefmihbjboacdaa.Kit Go.Proofs.Ytefmihbjboacdaa.Crc Go.Proofs.Ytefmihbjboacdaa.Sum Go.Proofs.Ytefmihbjboacdaa.Reads
set_option linter.unusedVariables false

set_option maxRecDepth 100000 in
set_option maxHeartbeats 1600000 in
theorem ref_any (A : Option Addr) (c : Nat) (l : List UInt8) (w : World) (hn : l.length ≤ 9223372036854775807) (H : Hid (Bytes w A l)) :
    Calls Try.prog 19 #[.slice A l.length c] w fun e w' => e = .returned (.int .i64 (sum l)) ∧ w = w' := by
  go_enter Try.func19, Try.ntmps19
  go_wp2_with fail
  go_loop [3, 4] (fun r i => ∃ (k : Nat) (x : UInt32), i = .int .i64 k ∧ r = .int .i64 (u x) ∧ Hid (x = regs 0xFFFFFFFF (l.take k)) ∧ k ≤ l.length) (fun _ i => l.length - (intOf i).toNat)
  case atStart =>
    exact ⟨0, 0xFFFFFFFF, rfl, rfl, rfl, Nat.zero_le _⟩
  case round =>
    obtain ⟨k, x, rfl, rfl, hx, hk⟩ := hrel
    have e5 := u_nonneg
    have e6 := u_lt
    by_cases hlt : k < l.length
    · obtain ⟨ad, rfl, h0⟩ := H.out k hlt
      have hstep := Lib.hid (regs_take 0xFFFFFFFF l k hlt)
      generalize l[k] = y at *
      have e1 : ∀ (x : UInt32) (y : UInt8), bits .xor .i64 (u x) (wrap64 (v8 y)) = u (x ^^^ y.toUInt32) := fun x y => by
        have h1 := v8_lt y
        have h2 := v8_nonneg y
        rw [IntWalk.wrap64_in _ ⟨by omega, by omega⟩, v8_xor64]
      go_wp2_with fail
      clear e1 h0 e5 e6
      generalize hz : x ^^^ y.toUInt32 = z at *
      have HZ := Lib.hid hz
      clear hz
      go_loop [3, 5] (fun r j => ∃ (m : Nat) (q : UInt32), j = .int .i64 m ∧ r = .int .i64 (u q) ∧ Hid (q = bitsN m z) ∧ m ≤ 8) (fun _ j => 8 - (intOf j).toNat)
      case atStart =>
        exact ⟨0, z, rfl, rfl, rfl, by omega⟩
      case round =>
        obtain ⟨m, q, rfl, rfl, hq, hm⟩ := hrel
        have b1 := u_nonneg q
        have b2 : u q ≤ 4294967295 := by have := u_lt q; omega
        by_cases hlt8 : m < 8
        · by_cases ho : u q % 2 = 1
          · have t1 : (u q % 2 == 1) = true := by simpa using ho
            have HO := Lib.hid ho
            have e8 := bit_odd q ho
            clear ho
            go_wp2_with fail
            refine ⟨⟨m + 1, bit q, by go_num, rfl, ?_, by omega⟩, by simp [intOf]; omega⟩
            have := hq.out
            rw [this]
            rfl
          · have t1 : (u q % 2 == 1) = false := by simpa using ho
            have e8 := Lib.hid (bit_even q ho)
            clear ho
            go_wp2_with fail
            refine ⟨⟨m + 1, bit q, by go_num, by rw [e8.out], ?_, by omega⟩, by simp [intOf]; omega⟩
            have := hq.out
            rw [this]
            rfl
        · go_wp2_with fail
          refine ⟨⟨k + 1, q, by go_num, rfl, ?_, by omega⟩, by simp [intOf]; omega⟩
          have h8 : m = 8 := by omega
          have := hq.out
          rw [this, h8, bits8_eq, ← HZ.out]
          have h9 := hstep.out
          have h10 := hx.out
          rw [← h10] at h9
          exact h9.symm
    · have e7 := u_ones
      go_wp2_with fail
      go_ret
      have hx2 := hx.out
      rw [List.take_of_length_le (by omega)] at hx2
      refine ⟨?_, rfl⟩
      show Ending.returned (.int .i64 _) = Ending.returned (.int .i64 _)
      rw [hx2]
      rfl
end Go.Proofs.Ytefmihbjboacdaa.RefSum
