/- turn: the list with a burst of bits turned over, in new memory; which burst, and whether any was. -/
import Derived.Test.YtefmihbjboacdaaLay
import Derived.Test.YtefmihbjboacdaaCopy
namespace Go.Proofs.Ytefmihbjboacdaa.Turn
open Go.ChangeShapes Go.WideShapes Go.ChangeAt Go.RowKit
open Go.Proofs.Ytefmihbjboacdaa.Kit Go.Proofs.Ytefmihbjboacdaa.Crc Go.Proofs.Ytefmihbjboacdaa.Reads Go.Proofs.Ytefmihbjboacdaa.Copy Go.Proofs.Ytefmihbjboacdaa.Lay
set_option linter.unusedVariables false

/-- l' is l with a burst of bits of number p from bit a on turned over -/
def Burst (l l' : List UInt8) (a p k : Nat) : Prop := l'.length = l.length ∧ p < 2 ^ k ∧ leVal l' = leVal l ^^^ (2 ^ a * p)
def TurnPost (l : List UInt8) (a : Nat) (w : World) (e : Ending) (w' : World) : Prop :=
  ∃ (B p : Nat) (l' : List UInt8), e = .returned (.tuple #[.slice (some ⟨B, 0, none⟩) l.length l.length, .bool (decide (p ≠ 0))]) ∧ Hid (Burst l l' a p 32 ∧ Below w.heap.size w w' ∧ Blk w' B (bvs l') 5)

theorem low_xor (n y v : Nat) (h : y < 2 ^ n) : y + 2 ^ n * v = y ^^^ (2 ^ n * v) := by
  apply Nat.eq_of_testBit_eq
  intro i
  rw [Nat.testBit_xor, Nat.add_comm, Nat.testBit_two_pow_mul_add _ h, Nat.testBit_two_pow_mul]
  by_cases hi : i < n
  · rw [if_pos hi]
    simp [Nat.not_le.2 hi]
  · rw [if_neg hi, Nat.testBit_lt_two_pow (Nat.lt_of_lt_of_le h (Nat.pow_le_pow_right (by decide) (by omega : n ≤ i)))]
    simp [Nat.not_lt.1 hi]
theorem pow_xor (n a b : Nat) : 2 ^ n * (a ^^^ b) = 2 ^ n * a ^^^ 2 ^ n * b := by
  apply Nat.eq_of_testBit_eq
  intro i
  rw [Nat.testBit_xor, Nat.testBit_two_pow_mul, Nat.testBit_two_pow_mul, Nat.testBit_two_pow_mul, Nat.testBit_xor]
  by_cases hi : n ≤ i <;> simp [hi]
theorem leVal_set : ∀ (l : List UInt8) (i : Nat) (z : UInt8) (h : i < l.length), leVal (l.set i (l[i] ^^^ z)) = leVal l ^^^ (2 ^ (8 * i) * z.toNat)
  | [], i, z, h => absurd h (Nat.not_lt_zero i)
  | x :: t, 0, z, h => by
    show (x ^^^ z).toNat + 256 * leVal t = (x.toNat + 256 * leVal t) ^^^ _
    rw [show (256 : Nat) = 2 ^ 8 from rfl, low_xor 8 _ _ (x ^^^ z).toNat_lt, low_xor 8 _ _ x.toNat_lt, UInt8.toNat_xor]
    simp
    ac_rfl
  | x :: t, i + 1, z, h => by
    have hi : i < t.length := by simpa using h
    have ih := leVal_set t i z hi
    show x.toNat + 256 * leVal (t.set i (t[i] ^^^ z)) = (x.toNat + 256 * leVal t) ^^^ _
    rw [ih, show (256 : Nat) = 2 ^ 8 from rfl, low_xor 8 _ _ x.toNat_lt, low_xor 8 _ _ x.toNat_lt, pow_xor, ← Nat.xor_assoc, show 8 * (i + 1) = 8 + 8 * i from by omega, Nat.pow_add, Nat.mul_assoc]
theorem burst_start (l : List UInt8) (a : Nat) : Burst l l a 0 0 := ⟨rfl, by decide, by simp⟩
theorem burst_pass {l l' : List UInt8} {a p k : Nat} (h : Burst l l' a p k) : Burst l l' a p (k + 1) :=
  ⟨h.1, Nat.lt_of_lt_of_le h.2.1 (Nat.pow_le_pow_right (by decide) (by omega)), h.2.2⟩
theorem burst_hit {l l' : List UInt8} {a p k : Nat} (h : Burst l l' a p k) (hi : (a + k) / 8 < l'.length) :
    Burst l (l'.set ((a + k) / 8) (l'[(a + k) / 8] ^^^ UInt8.ofNat (2 ^ ((a + k) % 8)))) a (p + 2 ^ k) (k + 1) ∧ p + 2 ^ k ≠ 0 := by
  have hpos := Nat.two_pow_pos k
  refine ⟨⟨by rw [List.length_set]; exact h.1, by have := h.2.1; rw [Nat.pow_succ]; omega, ?_⟩, by omega⟩
  have h8 : 2 ^ ((a + k) % 8) < 256 := Nat.pow_lt_pow_right (n := 8) (by decide) (Nat.mod_lt _ (by decide))
  rw [leVal_set _ _ _ hi, h.2.2, UInt8.toNat_ofNat', Nat.mod_eq_of_lt h8, ← Nat.pow_add, show 8 * ((a + k) / 8) + (a + k) % 8 = a + k from by omega, Nat.xor_assoc]
  congr 1
  have := low_xor k p 1 h.2.1
  rw [Nat.mul_one] at this
  rw [this, pow_xor, Nat.pow_add]
theorem v8_shl (n : Nat) (h : n < 8) : v8 (UInt8.ofNat (2 ^ n)) = (2 ^ n : Int) := by
  match n, h with
  | 0, _ => decide
  | 1, _ => decide
  | 2, _ => decide
  | 3, _ => decide
  | 4, _ => decide
  | 5, _ => decide
  | 6, _ => decide
  | 7, _ => decide

set_option maxRecDepth 100000 in
set_option maxHeartbeats 1600000 in
theorem turn_any (A : Option Addr) (c : Nat) (l : List UInt8) (a : Nat) (pat : Int) (w : World) (hn : l.length ≤ 1000) (ha : a ≤ 4095) (H : Hid (Bytes w A l)) :
    Calls Try.prog 43 #[.slice A l.length c, .int .i64 a, .int .i64 pat] w (TurnPost l a w) := by
  obtain ⟨i5, hi, hz0, hz1, hz2⟩ := info_parts info5
  have hmk := make_bytes Try.underlying34 hi hz0 hz1 hz2 (l.length : Int) l.length rfl (by omega)
  obtain ⟨w2, hrun, hk2, ho2⟩ := copy_bytes (P := Try.prog) (dT := 34) (sT := 34) (ty := 3) Try.underlying34 (by kernel_rfl) (w.alloc (.cells (bvs (List.replicate l.length 0)) 5)) w.heap.size 0 l.length l.length A c (List.replicate l.length 0) l 5
    (Blk.new _ _ _) (H.out.below ((Below.refl _ _).alloc (Nat.le_refl _) _)) (Nat.le_refl _) (by simp)
  have hb2 : Below w.heap.size w w2 := ((Below.refl _ _).alloc (Nat.le_refl _) _).trans (ho2.below (Nat.le_refl _))
  have HK2 : Hid (Blk w2 w.heap.size (bvs l) 5) := by
    have h := hk2
    rw [List.take_zero, List.nil_append, Nat.zero_add, List.drop_eq_nil_of_le (by simp), List.append_nil] at h
    exact h
  have HB2 := Lib.hid hb2
  clear hi hz0 hz1 hz2 hk2 ho2 hb2
  go_enter Try.func43, Try.ntmps43
  go_wp2_with fail
  generalize hB : w.heap.size = B at *
  have HBB := Lib.hid hB
  clear hB hmk hrun
  go_loopw [10, 9] (fun i any wr => ∃ (k p : Nat) (l' : List UInt8), i = .int .i64 k ∧ k ≤ 32 ∧ any = .bool (decide (p ≠ 0)) ∧ Hid (Burst l l' a p k) ∧ Hid (Blk wr B (bvs l') 5) ∧ Hid (Below B w wr)) (fun i any _ => 32 - (intOf i).toNat)
  case atStart => exact ⟨0, 0, l, rfl, by decide, rfl, burst_start l a, HK2, HB2⟩
  case round =>
    obtain ⟨k, p, l', rfl, hk, rfl, HU, HK, HB⟩ := hrel
    by_cases hlt : k < 32
    · by_cases hbit : bits BinOp.and IntKind.i64 (pat / 2 ^ k) 1 = 1
      · by_cases hin : (a + k) / 8 < l.length
        · have hin' : (a + k) / 8 < l'.length := by rw [HU.out.1]; exact hin
          have hc : wr.cell? ⟨B, (a + k) / 8, none⟩ = some (.int .u8 (v8 l'[(a + k) / 8])) := (HK.out.cell _).trans (bvs_get _ _ hin')
          have hf := HK.out.frozen ((a + k) / 8)
          have HH := Lib.hid (burst_hit HU.out hin')
          generalize l'[(a + k) / 8] = y at *
          go_upto_region 9 with (fail)
          go_region
          go_wp2_with fail
          refine ⟨⟨k + 1, p + 2 ^ k, l'.set ((a + k) / 8) (y ^^^ UInt8.ofNat (2 ^ ((a + k) % 8))), by go_num, by omega, by simp, HH.out.1, ?_, ?_⟩, by simp [intOf]; omega⟩
          · have hm := Nat.mod_lt (a + k) (by decide : 0 < 8)
            have e : bits BinOp.xor IntKind.u8 (v8 y) (2 ^ ((a + k) % 8) % 256) = v8 (y ^^^ UInt8.ofNat (2 ^ ((a + k) % 8))) := by
              have h2 := v8_lt (UInt8.ofNat (2 ^ ((a + k) % 8)))
              have h3 := v8_nonneg (UInt8.ofNat (2 ^ ((a + k) % 8)))
              rw [← v8_shl _ hm, Int.emod_eq_of_lt h3 h2, v8_xor]
            rw [e]
            have := (HK.out.put ((a + k) / 8) (.int .u8 (v8 (y ^^^ UInt8.ofNat (2 ^ ((a + k) % 8)))))).drew
            rw [bvs_set] at this
            exact this
          · exact (HB.out.setCell (Nat.le_refl _) _).drew
        · go_wp2_with fail
          exact ⟨⟨k + 1, p, l', by go_num, by omega, by simp, burst_pass HU.out, HK, HB⟩, by simp [intOf]; omega⟩
      · go_wp2_with fail
        exact ⟨⟨k + 1, p, l', by go_num, by omega, by simp, burst_pass HU.out, HK, HB⟩, by simp [intOf]; omega⟩
    · go_wp2_with fail
      obtain rfl : k = 32 := by omega
      have hB2 := HBB.out
      refine bodyPost_ret (v := .tuple #[.slice (some ⟨B, 0, none⟩) l.length l.length, .bool (decide (p ≠ 0))]) (by simp [results, Try.results43]) rfl ?_
      subst hB2
      exact ⟨_, p, l', rfl, HU.out, HB.out, HK.out⟩
def TurnAt (n : Nat) (l : List UInt8) (a : Nat) (w : World) (e : Ending) (w' : World) : Prop :=
  ∃ (B p : Nat) (l' : List UInt8), e = .returned (.tuple #[.slice (some ⟨B, 0, none⟩) n n, .bool (decide (p ≠ 0))]) ∧ Hid (Burst l l' a p 32) ∧ Hid (Below w.heap.size w w') ∧ Hid (Blk w' B (bvs l') 5)
theorem turn_at (A : Option Addr) (n c : Nat) (l : List UInt8) (a hi : Int) (pat : Int) (w : World) (hl : l.length = n) (hn : n ≤ 1000) (ha0 : 0 ≤ a) (ha : a ≤ hi) (hhi : hi ≤ 4095) (H : Hid (Bytes w A l)) :
    Calls Try.prog 43 #[.slice A n c, .int .i64 a, .int .i64 pat] w (TurnAt n l a.toNat w) := by
  subst hl
  obtain ⟨b, rfl⟩ := Int.eq_ofNat_of_zero_le ha0
  refine (turn_any A c l b pat w hn (by omega) H).mono ?_
  rintro e w' ⟨B, p, l', rfl, h⟩
  exact ⟨B, p, l', rfl, h.out.1, h.out.2.1, h.out.2.2⟩
end Go.Proofs.Ytefmihbjboacdaa.Turn
