/- CRC32C on its own: linear; a list with its own sum behind it. No Go in it. -/
import Derived.Test.YtefmihbjboacdaaCrc
namespace Go.Proofs.Ytefmihbjboacdaa.Crc

theorem bit_xor (a b : UInt32) : bit (a ^^^ b) = bit a ^^^ bit b := by
  apply UInt32.toBitVec_inj.1
  show stepB (a.toBitVec ^^^ b.toBitVec) = stepB a.toBitVec ^^^ stepB b.toBitVec
  exact stepB_xor _ _
theorem bits8_xor (a b : UInt32) : bits8 (a ^^^ b) = bits8 a ^^^ bits8 b := by
  unfold bits8
  simp only [bit_xor]
theorem byte_xor (a b : UInt32) (x y : UInt8) : byte (a ^^^ b) (x ^^^ y) = byte a x ^^^ byte b y := by
  unfold byte
  rw [← bits8_xor]
  congr 1
  have : (x ^^^ y).toUInt32 = x.toUInt32 ^^^ y.toUInt32 := UInt8.toUInt32_xor x y
  rw [this]
  ac_rfl
/-- the exclusive or of two lists, to the shorter one's length -/
def xors (a b : List UInt8) : List UInt8 := List.zipWith (· ^^^ ·) a b
theorem regs_xor : ∀ (a b : List UInt8) (r s : UInt32), a.length = b.length → regs (r ^^^ s) (xors a b) = regs r a ^^^ regs s b
  | [], [], r, s, _ => rfl
  | x :: a, y :: b, r, s, h => by
    show regs (byte (r ^^^ s) (x ^^^ y)) (xors a b) = regs (byte r x) a ^^^ regs (byte s y) b
    rw [byte_xor]
    exact regs_xor a b _ _ (by simpa using h)
theorem xors_length (a b : List UInt8) : (xors a b).length = min a.length b.length := by simp [xors]
theorem sum_three (a b c : List UInt8) (h1 : a.length = b.length) (h2 : a.length = c.length) : sumU (xors (xors a b) c) = sumU a ^^^ sumU b ^^^ sumU c := by
  unfold sumU
  have e : (0xFFFFFFFF : UInt32) = (0xFFFFFFFF ^^^ 0xFFFFFFFF) ^^^ 0xFFFFFFFF := by decide
  have e2 : regs 0xFFFFFFFF (xors (xors a b) c) = regs 0xFFFFFFFF a ^^^ regs 0xFFFFFFFF b ^^^ regs 0xFFFFFFFF c := by
    conv => lhs; rw [e]
    rw [regs_xor _ _ _ _ (by rw [xors_length]; omega), regs_xor _ _ _ _ h1]
  rw [e2]
  generalize regs 0xFFFFFFFF a = x
  generalize regs 0xFFFFFFFF b = y
  generalize regs 0xFFFFFFFF c = z
  have hn : ∀ v : UInt32, ~~~ v = v ^^^ 0xFFFFFFFF := fun v => by
    apply UInt32.toBitVec_inj.1
    show ~~~ v.toBitVec = v.toBitVec ^^^ (4294967295#32)
    rw [show (4294967295#32) = BitVec.allOnes 32 from by decide, BitVec.xor_allOnes]
  simp only [hn]
  have e3 : x ^^^ 4294967295 ^^^ (y ^^^ 4294967295) ^^^ (z ^^^ 4294967295) = (x ^^^ y ^^^ z ^^^ 4294967295) ^^^ (4294967295 ^^^ 4294967295) := by ac_rfl
  rw [e3, UInt32.xor_self, UInt32.xor_zero]

theorem shift_back' (h : BitVec 32) (k : Nat) (hh : h.toNat * 2 ^ (k + 1) < 2 ^ 32) : (h <<< (k + 1)) >>> 1 = h <<< k := by
  apply BitVec.eq_of_toNat_eq
  simp only [BitVec.toNat_ushiftRight, BitVec.toNat_shiftLeft, Nat.shiftLeft_eq, Nat.shiftRight_eq_div_pow]
  have h2 : h.toNat * 2 ^ k < 2 ^ 32 := by
    have : h.toNat * 2 ^ (k + 1) = h.toNat * 2 ^ k * 2 := by rw [Nat.pow_succ, Nat.mul_assoc]
    omega
  rw [Nat.mod_eq_of_lt hh, Nat.mod_eq_of_lt h2, Nat.pow_succ, ← Nat.mul_assoc]
  omega
theorem one_high (h : BitVec 32) (k : Nat) (hh : h.toNat * 2 ^ (k + 1) < 2 ^ 32) : stepB (h <<< (k + 1)) = h <<< k := by
  rw [stepB_even h (k + 1) (by omega), shift_back' h k hh]
theorem eight_high (h : UInt32) (hh : h.toNat < 2 ^ 24) : bits8 (h <<< 8) = h := by
  apply UInt32.toBitVec_inj.1
  show stepB (stepB (stepB (stepB (stepB (stepB (stepB (stepB (h <<< 8).toBitVec))))))) = h.toBitVec
  have e : (h <<< 8).toBitVec = h.toBitVec <<< 8 := by
    apply BitVec.eq_of_toNat_eq
    simp
  have hb : h.toBitVec.toNat < 2 ^ 24 := hh
  rw [e, one_high _ 7 (by omega), one_high _ 6 (by omega), one_high _ 5 (by omega), one_high _ 4 (by omega), one_high _ 3 (by omega), one_high _ 2 (by omega), one_high _ 1 (by omega), one_high _ 0 (by omega)]
  simp
/-- byte k of a word -/
def b8 (x : UInt32) (k : Nat) : UInt8 := UInt8.ofNat (x.toNat / 256 ^ k)
/-- a word's four bytes, the lowest first -/
def le4 (x : UInt32) : List UInt8 := [b8 x 0, b8 x 1, b8 x 2, b8 x 3]
theorem word_split (x : UInt32) : x = (x >>> 8) <<< 8 ^^^ (b8 x 0).toUInt32 := by
  apply UInt32.toBitVec_inj.1
  apply BitVec.eq_of_getLsbD_eq
  intro i hi
  show x.toBitVec.getLsbD i = (((x >>> 8) <<< 8).toBitVec ^^^ (b8 x 0).toUInt32.toBitVec).getLsbD i
  have e1 : ((x >>> 8) <<< 8).toBitVec = (x.toBitVec >>> 8) <<< 8 := by
    apply BitVec.eq_of_toNat_eq
    simp
  have e2 : (b8 x 0).toUInt32.toBitVec = BitVec.ofNat 32 (x.toNat % 2 ^ 8) := by
    apply BitVec.eq_of_toNat_eq
    unfold b8
    simp
    omega
  rw [e1, e2, BitVec.getLsbD_xor, BitVec.getLsbD_shiftLeft, BitVec.getLsbD_ushiftRight, BitVec.getLsbD_ofNat, Nat.testBit_mod_two_pow]
  have e3 : x.toBitVec.getLsbD i = x.toNat.testBit i := by rw [BitVec.getLsbD, UInt32.toNat_toBitVec]
  by_cases h : i < 8
  · have e4 : x.toBitVec[i] = x.toNat.testBit i := by rw [← BitVec.getLsbD_eq_getElem, e3]
    simp [h, hi, e4]
  · have : 8 + (i - 8) = i := by omega
    simp [h, hi, this]
/-- one byte of a word that is fed in: what is left of the word is mixed into the register, a byte lower -/
theorem feed_one (D x : UInt32) : byte (D ^^^ x) (b8 x 0) = bits8 D ^^^ (x >>> 8) := by
  unfold byte
  have e : D ^^^ x ^^^ (b8 x 0).toUInt32 = D ^^^ ((x >>> 8) <<< 8) := by
    conv => lhs; rw [show D ^^^ x = D ^^^ ((x >>> 8) <<< 8 ^^^ (b8 x 0).toUInt32) from congrArg (D ^^^ ·) (word_split x)]
    rw [show D ^^^ (x >>> 8 <<< 8 ^^^ (b8 x 0).toUInt32) ^^^ (b8 x 0).toUInt32 = D ^^^ (x >>> 8 <<< 8) ^^^ ((b8 x 0).toUInt32 ^^^ (b8 x 0).toUInt32) from by ac_rfl, UInt32.xor_self, UInt32.xor_zero]
  rw [e, bits8_xor, eight_high]
  have : (x >>> 8).toNat = x.toNat / 2 ^ 8 := by simp [Nat.shiftRight_eq_div_pow]
  rw [this]
  have := x.toNat_lt
  omega
theorem b8_shift (x : UInt32) (k : Nat) : b8 (x >>> 8) k = b8 x (k + 1) := by
  unfold b8
  have : (x >>> 8).toNat = x.toNat / 256 := by simp [Nat.shiftRight_eq_div_pow]
  rw [this, Nat.div_div_eq_div_mul, Nat.pow_succ, Nat.mul_comm]
/-- a whole word that is fed in -/
theorem feed_word (D x : UInt32) : regs (D ^^^ x) (le4 x) = bits8 (bits8 (bits8 (bits8 D))) := by
  show byte (byte (byte (byte (D ^^^ x) (b8 x 0)) (b8 x 1)) (b8 x 2)) (b8 x 3) = _
  have h : ∀ n : UInt32, n.toNat = 0 → ∀ d : UInt32, d ^^^ n = d := fun n hn d => by
    rw [show n = 0 from UInt32.toNat_inj.1 (by simpa using hn), UInt32.xor_zero]
  rw [feed_one, ← b8_shift x 0, feed_one, ← b8_shift x 1, ← b8_shift (x >>> 8) 0, feed_one, ← b8_shift x 2, ← b8_shift (x >>> 8) 1, ← b8_shift (x >>> 8 >>> 8) 0, feed_one]
  apply h
  have := x.toNat_lt
  simp [Nat.shiftRight_eq_div_pow]
  omega
theorem regs_append (r : UInt32) (a b : List UInt8) : regs r (a ++ b) = regs (regs r a) b := List.foldl_append ..
theorem residue (l : List UInt8) : sumU (l ++ le4 (sumU l)) = 0x48674BC7 := by
  unfold sumU
  rw [regs_append]
  generalize regs 0xFFFFFFFF l = r
  have e : r = 0xFFFFFFFF ^^^ (~~~ r) := by
    apply UInt32.toBitVec_inj.1
    show r.toBitVec = (4294967295#32) ^^^ ~~~ r.toBitVec
    rw [show (4294967295#32) = BitVec.allOnes 32 from by decide, BitVec.allOnes_xor, BitVec.not_not]
  conv => lhs; rw [show regs r (le4 (~~~ r)) = regs (0xFFFFFFFF ^^^ (~~~ r)) (le4 (~~~ r)) from congrArg (fun q => regs q (le4 (~~~ r))) e]
  rw [feed_word]
  decide +kernel
end Go.Proofs.Ytefmihbjboacdaa.Crc
