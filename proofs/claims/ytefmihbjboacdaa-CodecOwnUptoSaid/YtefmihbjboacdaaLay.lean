/- Numbers as bytes, laid into a list; no Go in it. -/
import Derived.Test.YtefmihbjboacdaaCrcMix
namespace Go.Proofs.Ytefmihbjboacdaa.Lay
open Go.Proofs.Ytefmihbjboacdaa.Crc

/-- byte k of a number -/
def nb (v k : Nat) : UInt8 := UInt8.ofNat (v / 256 ^ k)
/-- n bytes of a number, the lowest first -/
def leN : Nat → Nat → List UInt8
  | 0, _ => []
  | n + 1, v => leN n v ++ [nb v n]
theorem leN_length (n v : Nat) : (leN n v).length = n := by
  induction n with
  | zero => rfl
  | succ n ih => simp [leN, ih]
theorem nb_div (v k j : Nat) : nb (v / 256 ^ k) j = nb v (k + j) := by
  unfold nb
  rw [Nat.div_div_eq_div_mul, Nat.pow_add]
theorem leN_four (x : UInt32) : leN 4 x.toNat = le4 x := rfl
/-- bs laid over l from place at on -/
def put (l : List UInt8) (at' : Nat) (bs : List UInt8) : List UInt8 := l.take at' ++ bs ++ l.drop (at' + bs.length)
theorem put_length (l : List UInt8) (a : Nat) (bs : List UInt8) (h : a + bs.length ≤ l.length) : (put l a bs).length = l.length := by
  unfold put
  simp
  omega
theorem put_nil (l : List UInt8) (a : Nat) : put l a [] = l := by
  unfold put
  simp
theorem put_set (l : List UInt8) (a : Nat) (bs : List UInt8) (y : UInt8) (h : a + bs.length < l.length) : (put l a bs).set (a + bs.length) y = put l a (bs ++ [y]) := by
  unfold put
  have e : l.drop (a + bs.length) = l[a + bs.length] :: l.drop (a + bs.length + 1) := List.drop_eq_getElem_cons h
  rw [List.set_append_right _ _ (by simp; omega)]
  have e2 : a + bs.length - (List.take a l ++ bs).length = 0 := by simp; omega
  rw [e2, e, List.set_cons_zero]
  simp [Nat.add_assoc]
theorem put_leN (l : List UInt8) (a n v : Nat) (h : a + n < l.length) : (put l a (leN n v)).set (a + n) (nb v n) = put l a (leN (n + 1) v) := by
  have := put_set l a (leN n v) (nb v n) (by rw [leN_length]; exact h)
  rw [leN_length] at this
  exact this
theorem v8_nb (v k : Nat) : v8 (nb v k) = ((v / 256 ^ k % 256 : Nat) : Int) := by
  unfold v8 nb
  rw [UInt8.toNat_ofNat']
/-- the number that bytes make, the lowest first -/
def leVal : List UInt8 → Nat
  | [] => 0
  | x :: l => x.toNat + 256 * leVal l
theorem leVal_lt (l : List UInt8) : leVal l < 256 ^ l.length := by
  induction l with
  | nil => simp [leVal]
  | cons x l ih =>
    have := x.toNat_lt
    simp only [leVal, List.length_cons, Nat.pow_succ]
    omega
theorem leVal_append (a b : List UInt8) : leVal (a ++ b) = leVal a + 256 ^ a.length * leVal b := by
  induction a with
  | nil => simp [leVal]
  | cons x a ih =>
    simp only [List.cons_append, leVal, ih, List.length_cons, Nat.pow_succ]
    rw [Nat.mul_add, Nat.mul_comm (256 ^ a.length) 256, ← Nat.mul_assoc]
    omega
theorem leVal_leN (n v : Nat) (h : v < 256 ^ n) : leVal (leN n v) = v := by
  have key : ∀ n v, leVal (leN n v) = v % 256 ^ n := by
    intro n
    induction n with
    | zero => intro v; simp [leN, leVal, Nat.mod_one]
    | succ n ih =>
      intro v
      simp only [leN, leVal_append, ih, leN_length, leVal]
      unfold nb
      have e : v % 256 ^ (n + 1) = v % 256 ^ n + 256 ^ n * (v / 256 ^ n % 256) := by rw [Nat.pow_succ, Nat.mod_mul]
      rw [UInt8.toNat_ofNat', Nat.mul_zero, Nat.add_zero, e]
  rw [key, Nat.mod_eq_of_lt h]
end Go.Proofs.Ytefmihbjboacdaa.Lay
