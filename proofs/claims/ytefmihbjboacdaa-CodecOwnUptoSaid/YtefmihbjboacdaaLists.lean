/- Numbers laid one behind the other; what is read from them. No Go in it. -/
import Derived.Test.YtefmihbjboacdaaSuperEnc
namespace Go.Proofs.Ytefmihbjboacdaa.Lists
open Go.Proofs.Ytefmihbjboacdaa.Crc Go.Proofs.Ytefmihbjboacdaa.Lay Go.Proofs.Ytefmihbjboacdaa.Writer Go.Proofs.Ytefmihbjboacdaa.SuperEnc
set_option linter.unusedVariables false

def zs (n : Nat) : List UInt8 := List.replicate n 0
theorem zs_length (n : Nat) : (zs n).length = n := List.length_replicate ..
theorem put_put {l xs ys : List UInt8} {a b : Nat} (hb : b = a + xs.length) (h : b + ys.length ≤ l.length) : put (put l a xs) b ys = put l a (xs ++ ys) := by
  subst hb
  unfold put
  have h1 : (l.take a ++ xs).length = a + xs.length := by simp; omega
  rw [List.take_left' h1, List.drop_append, List.drop_of_length_le (l := l.take a ++ xs) (by rw [h1]; omega), h1]
  have h2 : a + xs.length + ys.length - (a + xs.length) = ys.length := by omega
  rw [h2, List.drop_drop]
  simp [Nat.add_assoc]
theorem leN_add (m n v : Nat) : leN (m + n) v = leN m v ++ leN n (v / 256 ^ m) := by
  induction n with
  | zero => simp [leN]
  | succ n ih => rw [← Nat.add_assoc, leN, ih, leN, nb_div, List.append_assoc]
theorem leN_zero (n : Nat) : leN n 0 = List.replicate n 0 := by
  induction n with
  | zero => rfl
  | succ n ih => 
    rw [leN, ih, List.replicate_succ']
    unfold nb
    rw [Nat.zero_div]
    rfl
theorem leVal_zeros (n : Nat) : leVal (List.replicate n 0) = 0 := by
  induction n with
  | zero => rfl
  | succ n ih => rw [List.replicate_succ, leVal, ih]; rfl
theorem field_mid {A C : List UInt8} {n v p : Nat} (hp : p = A.length) (hv : v < 256 ^ n) : leVal (((A ++ leN n v ++ C).drop p).take n) = v := by
  subst hp
  rw [List.append_assoc, List.drop_left, List.take_left' (leN_length n v), leVal_leN n v hv]
theorem field_sealed {l : List UInt8} {p n : Nat} (h : p + n + 4 ≤ l.length) : ((sealed4 l).drop p).take n = (l.drop p).take n := by
  unfold sealed4 put
  rw [List.append_assoc, List.drop_append_of_le_length (by rw [List.length_take]; omega), List.take_append_of_le_length (by rw [List.length_drop, List.length_take]; omega)]
  rw [List.drop_take, List.take_take, Nat.min_eq_left (by omega)]
end Go.Proofs.Ytefmihbjboacdaa.Lists
