/- CRC32C on its own: a bit's step, a byte's step, the table of half bytes; no Go in it. -/
import Derived.Laws.BitsLemmas
namespace Go.Proofs.Ytefmihbjboacdaa.Crc

/-- a register as a number -/
def u (x : UInt32) : Int := (x.toNat : Int)
def poly : BitVec 32 := 0x82F63B78#32
/-- a bit's step -/
def stepB (r : BitVec 32) : BitVec 32 := (r >>> 1) ^^^ (if r.getLsbD 0 then poly else 0#32)
theorem stepB_xor (a b : BitVec 32) : stepB (a ^^^ b) = stepB a ^^^ stepB b := by
  unfold stepB
  rw [BitVec.getLsbD_xor, BitVec.ushiftRight_xor_distrib]
  have h4 : ∀ x y p : BitVec 32, x ^^^ y = (x ^^^ p) ^^^ (y ^^^ p) := fun x y p => by
    rw [show (x ^^^ p) ^^^ (y ^^^ p) = (x ^^^ y) ^^^ (p ^^^ p) from by ac_rfl, BitVec.xor_self, BitVec.xor_zero]
  cases a.getLsbD 0 <;> cases b.getLsbD 0
  · simp
  · simp [BitVec.xor_assoc]
  · simp
    ac_rfl
  · simpa using h4 _ _ poly
theorem stepB_zero : stepB 0#32 = 0#32 := by decide
def bit (r : UInt32) : UInt32 := ⟨stepB r.toBitVec⟩
def bits8 (r : UInt32) : UInt32 := bit (bit (bit (bit (bit (bit (bit (bit r)))))))
/-- the table of half bytes -/
def tabN : Nat → UInt32
  | 0 => 0x00000000 | 1 => 0x105ec76f | 2 => 0x20bd8ede | 3 => 0x30e349b1 | 4 => 0x417b1dbc | 5 => 0x5125dad3 | 6 => 0x61c69362 | 7 => 0x7198540d
  | 8 => 0x82f63b78 | 9 => 0x92a8fc17 | 10 => 0xa24bb5a6 | 11 => 0xb21572c9 | 12 => 0xc38d26c4 | 13 => 0xd3d3e1ab | 14 => 0xe330a81a | _ => 0xf36e6f75
def tab (z : UInt32) : UInt32 := tabN (z &&& 15).toNat
def nib (z : UInt32) : UInt32 := (z >>> 4) ^^^ tab z
theorem tab_fin : ∀ k : Fin 16, tabN k = bit (bit (bit (bit (UInt32.ofNat k)))) := by decide
theorem and15_lt (z : UInt32) : (z &&& 15).toNat < 16 := by
  have : (z &&& 15).toNat = z.toNat &&& 15 := by simp [UInt32.toNat_and]
  rw [this]
  exact Nat.lt_of_le_of_lt Nat.and_le_right (by decide)
theorem tab_eq (z : UInt32) : tab z = bit (bit (bit (bit (z &&& 15)))) := by
  have h := tab_fin ⟨(z &&& 15).toNat, and15_lt z⟩
  simp only at h
  unfold tab
  rw [h, UInt32.ofNat_toNat]
theorem stepB_even (h : BitVec 32) (k : Nat) (hk : 0 < k) : stepB (h <<< k) = (h <<< k) >>> 1 := by
  unfold stepB
  rw [BitVec.getLsbD_shiftLeft]
  simp [hk]
theorem shift_back (h : BitVec 32) (hh : h.toNat < 2 ^ 28) (k : Nat) (hk : k < 4) : (h <<< (k + 1)) >>> 1 = h <<< k := by
  apply BitVec.eq_of_toNat_eq
  simp only [BitVec.toNat_ushiftRight, BitVec.toNat_shiftLeft, Nat.shiftLeft_eq, Nat.shiftRight_eq_div_pow]
  have h1 : h.toNat * 2 ^ (k + 1) < 2 ^ 32 := by
    have : 2 ^ (k + 1) ≤ 2 ^ 4 := Nat.pow_le_pow_right (by decide) (by omega)
    calc h.toNat * 2 ^ (k + 1) ≤ h.toNat * 2 ^ 4 := Nat.mul_le_mul_left _ this
      _ < 2 ^ 28 * 2 ^ 4 := by omega
      _ = 2 ^ 32 := by decide
  have h2 : h.toNat * 2 ^ k < 2 ^ 32 := by
    have : h.toNat * 2 ^ (k + 1) = h.toNat * 2 ^ k * 2 := by rw [Nat.pow_succ, Nat.mul_assoc]
    omega
  rw [Nat.mod_eq_of_lt h1, Nat.mod_eq_of_lt h2, Nat.pow_succ, ← Nat.mul_assoc]
  omega
theorem four_high (h : BitVec 32) (hh : h.toNat < 2 ^ 28) : stepB (stepB (stepB (stepB (h <<< 4)))) = h := by
  rw [stepB_even h 4 (by decide), shift_back h hh 3 (by decide), stepB_even h 3 (by decide), shift_back h hh 2 (by decide), stepB_even h 2 (by decide), shift_back h hh 1 (by decide), stepB_even h 1 (by decide), shift_back h hh 0 (by decide)]
  simp
theorem split4 (z : BitVec 32) : z = (z &&& 15#32) ^^^ ((z >>> 4) <<< 4) := by
  apply BitVec.eq_of_getLsbD_eq
  intro i hi
  simp only [BitVec.getLsbD_xor, BitVec.getLsbD_and, BitVec.getLsbD_shiftLeft, BitVec.getLsbD_ushiftRight]
  have h15 : (15#32).getLsbD i = decide (i < 4) := by
    rw [show (15#32) = BitVec.ofNat 32 (2 ^ 4 - 1) from by decide, BitVec.getLsbD_ofNat, Nat.testBit_two_pow_sub_one]
    simp; omega
  rw [h15]
  by_cases h : i < 4
  · simp [h]
  · have : 4 + (i - 4) = i := by omega
    simp [h, this, hi]
/-- a half byte by the table is four bits' steps -/
theorem nib_eq (z : UInt32) : nib z = bit (bit (bit (bit z))) := by
  unfold nib
  rw [tab_eq]
  apply UInt32.toBitVec_inj.1
  show (z >>> 4).toBitVec ^^^ stepB (stepB (stepB (stepB (z &&& 15).toBitVec))) = stepB (stepB (stepB (stepB z.toBitVec)))
  have e1 : (z >>> 4).toBitVec = z.toBitVec >>> 4 := by
    apply BitVec.eq_of_toNat_eq
    simp
  have e2 : (z &&& 15).toBitVec = z.toBitVec &&& 15#32 := by simp
  have hh : (z.toBitVec >>> 4).toNat < 2 ^ 28 := by
    rw [BitVec.toNat_ushiftRight, Nat.shiftRight_eq_div_pow]
    have := z.toBitVec.isLt
    omega
  rw [e1, e2]
  conv => rhs; rw [split4 z.toBitVec]
  rw [stepB_xor, stepB_xor, stepB_xor, stepB_xor, four_high _ hh]
  ac_rfl
/-- a byte's step -/
def byte (r : UInt32) (y : UInt8) : UInt32 := bits8 (r ^^^ y.toUInt32)
theorem byte_eq (r : UInt32) (y : UInt8) : nib (nib (r ^^^ y.toUInt32)) = byte r y := by
  rw [nib_eq, nib_eq]
  rfl
def regs (r : UInt32) (l : List UInt8) : UInt32 := l.foldl byte r
def sumU (l : List UInt8) : UInt32 := ~~~ (regs 0xFFFFFFFF l)
/-- the sum as the document has it -/
def sum (l : List UInt8) : Int := u (sumU l)
theorem u_lt (x : UInt32) : u x < (4294967296 : Int) := by
  unfold u
  have := x.toNat_lt
  omega
theorem u_nonneg (x : UInt32) : 0 ≤ u x := by
  unfold u
  omega
theorem u_inj {x y : UInt32} (h : u x = u y) : x = y := by
  unfold u at h
  exact UInt32.toNat_inj.1 (by omega)

theorem bits_xor_nat (k : IntKind) (j : Nat) (hj : j ≤ k.bits) (hk : ∀ n : Int, 0 ≤ n → n < 2 ^ j → k.wrap n = n) (a b : Nat) (ha : a < 2 ^ j) (hb : b < 2 ^ j) :
    bits .xor k a b = ((a ^^^ b : Nat) : Int) := by
  have hp : 2 ^ j ≤ 2 ^ k.bits := Nat.pow_le_pow_right (by decide) hj
  have ha' : a % 2 ^ k.bits = a := Nat.mod_eq_of_lt (Nat.lt_of_lt_of_le ha hp)
  have hb' : b % 2 ^ k.bits = b := Nat.mod_eq_of_lt (Nat.lt_of_lt_of_le hb hp)
  have cast : ∀ n : Nat, n < 2 ^ j → ((n : Nat) : Int) < 2 ^ j := fun n h => by exact_mod_cast h
  simp only [bits, BitVec.ofInt_natCast, BitVec.toNat_xor, BitVec.toNat_ofNat, ha', hb']
  exact hk _ (Int.natCast_nonneg _) (cast _ (Nat.xor_lt_two_pow ha hb))
theorem nib2 (x : UInt32) (y : UInt8) : (((x ^^^ y.toUInt32) >>> 4 ^^^ tab (x ^^^ y.toUInt32)) >>> 4 ^^^ tab ((x ^^^ y.toUInt32) >>> 4 ^^^ tab (x ^^^ y.toUInt32))) = byte x y := byte_eq x y
theorem u_not (x : UInt32) : bits .xor .u32 (4294967295 : Int) (u x) = u (~~~ x) := by
  have e : (4294967295 : Int) = u 4294967295 := by decide
  have h2 : ∀ z : UInt32, 4294967295 ^^^ z = ~~~ z := fun z => by
    apply UInt32.toBitVec_inj.1
    show (4294967295#32) ^^^ z.toBitVec = ~~~ z.toBitVec
    rw [show (4294967295#32) = BitVec.allOnes 32 from by decide, BitVec.allOnes_xor]
  have h3 : ∀ x y : UInt32, bits .xor .u32 (u x) (u y) = u (x ^^^ y) := fun x y => by
    unfold u
    rw [bits_xor_nat .u32 32 (by decide) (fun n h₀ h₁ => by rw [IntKind.wrap_u32]; omega) _ _ x.toNat_lt y.toNat_lt, UInt32.toNat_xor]
  rw [e, h3, h2]
/-- a byte as a number -/
def v8 (y : UInt8) : Int := (y.toNat : Int)
theorem v8_lt (y : UInt8) : v8 y < (256 : Int) := by
  unfold v8
  have := y.toNat_lt
  omega
theorem v8_nonneg (y : UInt8) : 0 ≤ v8 y := by
  unfold v8
  omega
theorem v8_inj {x y : UInt8} (h : v8 x = v8 y) : x = y := by
  unfold v8 at h
  exact UInt8.toNat_inj.1 (by omega)
theorem v8_mk (n : Int) (h0 : 0 ≤ n) (h1 : n < 256) : v8 (UInt8.ofNat n.toNat) = n := by
  unfold v8
  rw [UInt8.toNat_ofNat']
  omega
theorem wraps_u32 (n : Int) (h₀ : 0 ≤ n) (h₁ : n < 2 ^ 32) : IntKind.u32.wrap n = n := by rw [IntKind.wrap_u32]; omega
theorem wraps_i64 (n : Int) (h₀ : 0 ≤ n) (h₁ : n < 2 ^ 63) : IntKind.i64.wrap n = n := by rw [IntKind.wrap_i64]; omega
theorem u_xor32 (x y : UInt32) : bits .xor .u32 (u x) (u y) = u (x ^^^ y) := by
  unfold u
  rw [bits_xor_nat .u32 32 (by decide) wraps_u32 _ _ x.toNat_lt y.toNat_lt, UInt32.toNat_xor]
theorem u_xor64 (x y : UInt32) : bits .xor .i64 (u x) (u y) = u (x ^^^ y) := by
  unfold u
  rw [bits_xor_nat .i64 63 (by decide) wraps_i64 _ _ (Nat.lt_trans x.toNat_lt (by decide)) (Nat.lt_trans y.toNat_lt (by decide)), UInt32.toNat_xor]
theorem u_and15 (x : UInt32) : bits .and .u32 (u x) 15 = u (x &&& 15) := by
  unfold u
  rw [show (15 : Int) = ((15 : Nat) : Int) from rfl, (bits_nat .u32 32 (by decide) wraps_u32 _ 15 x.toNat_lt (by decide)).1, UInt32.toNat_and]
  rfl
theorem u_shr4 (x : UInt32) : u x / (16 : Int) = u (x >>> 4) := by
  unfold u
  simp [Nat.shiftRight_eq_div_pow]
theorem v8_u32 (y : UInt8) : v8 y % (4294967296 : Int) = u y.toUInt32 := by
  have h := v8_lt y
  have h0 := v8_nonneg y
  have e : u y.toUInt32 = v8 y := by
    unfold u v8
    simp
  rw [e]
  omega
theorem v8_u (y : UInt8) : v8 y = u y.toUInt32 := by
  unfold u v8
  simp
theorem wraps_u8' (n : Int) (h₀ : 0 ≤ n) (h₁ : n < 2 ^ 8) : IntKind.u8.wrap n = n := by rw [IntKind.wrap_u8]; omega
theorem v8_xor (x y : UInt8) : bits .xor .u8 (v8 x) (v8 y) = v8 (x ^^^ y) := by
  unfold v8
  rw [bits_xor_nat .u8 8 (by decide) wraps_u8' _ _ x.toNat_lt y.toNat_lt, UInt8.toNat_xor]
/-- so many bits' steps -/
def bitsN : Nat → UInt32 → UInt32
  | 0, x => x
  | n + 1, x => bit (bitsN n x)
theorem bits8_eq (x : UInt32) : bitsN 8 x = bits8 x := rfl
theorem u_half (x : UInt32) : u x / (2 : Int) = u (x >>> 1) := by
  unfold u
  simp [Nat.shiftRight_eq_div_pow]
theorem lsb_odd (x : UInt32) : x.toBitVec.getLsbD 0 = decide (u x % (2 : Int) = 1) := by
  unfold u
  rw [BitVec.getLsbD, UInt32.toNat_toBitVec, Nat.testBit_zero]
  congr 1
  apply propext
  omega
theorem bit_odd (x : UInt32) (h : u x % (2 : Int) = 1) : bits .xor .i64 (u x / (2 : Int)) 2197175160 = u (bit x) := by
  rw [u_half, show (2197175160 : Int) = u 0x82F63B78 from by decide, u_xor64]
  congr 1
  apply UInt32.toBitVec_inj.1
  show (x >>> 1).toBitVec ^^^ _ = stepB x.toBitVec
  unfold stepB
  rw [lsb_odd, if_pos (by simpa using h)]
  congr 1
theorem bit_even (x : UInt32) (h : ¬ u x % (2 : Int) = 1) : u x / (2 : Int) = u (bit x) := by
  rw [u_half]
  congr 1
  apply UInt32.toBitVec_inj.1
  show (x >>> 1).toBitVec = stepB x.toBitVec
  unfold stepB
  rw [lsb_odd, if_neg (by simpa using h), BitVec.xor_zero]
  apply BitVec.eq_of_toNat_eq
  simp
theorem u_ones (x : UInt32) : bits .xor .i64 (u x) 4294967295 = u (~~~ x) := by
  have h2 : ∀ z : UInt32, z ^^^ 4294967295 = ~~~ z := fun z => by
    apply UInt32.toBitVec_inj.1
    show z.toBitVec ^^^ (4294967295#32) = ~~~ z.toBitVec
    rw [show (4294967295#32) = BitVec.allOnes 32 from by decide, BitVec.xor_allOnes]
  rw [show (4294967295 : Int) = u 4294967295 from by decide, u_xor64, h2]
theorem v8_xor64 (x : UInt32) (y : UInt8) : bits .xor .i64 (u x) (v8 y) = u (x ^^^ y.toUInt32) := by rw [v8_u, u_xor64]
end Go.Proofs.Ytefmihbjboacdaa.Crc
