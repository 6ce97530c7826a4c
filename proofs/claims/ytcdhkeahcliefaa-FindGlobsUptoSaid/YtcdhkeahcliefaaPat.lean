/- Patterns in plain words: how a pattern's bytes are read, piece by piece; which texts are of the pieces. No Go in it. -/
import Derived.Test.YtcdhkeahcliefaaKit
namespace Go.Proofs.Ytcdhkeahcliefaa.Pat
set_option linter.unusedVariables false

/-- byte i of a text -/
def gb (s : ByteArray) (i : Nat) : Nat := (s.data.getD i 0).toNat
theorem gb_lt (s : ByteArray) (i : Nat) : gb s i < 256 := by
  unfold gb
  exact UInt8.toNat_lt _
/-- what a piece is -/
inductive Pc where
  | byte (b : Nat)
  | any1
  | star
  | stars
  | set (M : Nat → Bool)
/-- the byte that a unit of a set stands for, and the place behind it -/
def U (s : ByteArray) (i : Nat) : Option (Nat × Nat) :=
  if s.size ≤ i then none
  else if gb s i = 93 ∨ gb s i = 45 then none
  else if gb s i = 92 then (if s.size ≤ i + 1 then none else some (gb s (i + 1), i + 2))
  else some (gb s i, i + 1)
/-- a range of a set -/
def R (s : ByteArray) (i : Nat) : Option (Nat × Nat × Nat) :=
  match U s i with
  | none => none
  | some (lo, j) =>
    if j < s.size ∧ gb s j = 45 then
      match U s (j + 1) with
      | none => none
      | some (hi, k) => if hi < lo then none else some (lo, hi, k)
    else some (lo, lo, j)
def add (M : Nat → Bool) (lo hi : Nat) : Nat → Bool := fun c => M c || (decide (lo ≤ c) && decide (c ≤ hi))
/-- is the set at its end? -/
def AtEnd (s : ByteArray) (i k : Nat) : Prop := k ≠ 0 ∧ i < s.size ∧ gb s i = 93
instance (s : ByteArray) (i k : Nat) : Decidable (AtEnd s i k) := by unfold AtEnd; infer_instance
/-- the ranges of a set, from place i on: k of them so far, M so far -/
inductive SetRun (s : ByteArray) : Nat → (Nat → Bool) → Nat → Option ((Nat → Bool) × Nat) → Prop where
  | stop {i M k} (h : AtEnd s i k) : SetRun s i M k (some (M, i))
  | bad {i M k} (h : ¬ AtEnd s i k) (hr : R s i = none) : SetRun s i M k none
  | step {i M k lo hi j r} (h : ¬ AtEnd s i k) (hr : R s i = some (lo, hi, j)) (h2 : SetRun s j (add M lo hi) (k + 1) r) : SetRun s i M k r
theorem SetRun.same {s : ByteArray} {i : Nat} {M : Nat → Bool} {k : Nat} {r r' : Option ((Nat → Bool) × Nat)} (h : SetRun s i M k r) (h' : SetRun s i M k r') : r = r' := by
  induction h with
  | stop h =>
    cases h' with
    | stop => rfl
    | bad h2 => exact absurd h h2
    | step h2 => exact absurd h h2
  | bad h hr =>
    cases h' with
    | stop h2 => exact absurd h2 h
    | bad => rfl
    | step _ hr2 => rw [hr] at hr2; cases hr2
  | step h hr _ ih =>
    cases h' with
    | stop h2 => exact absurd h2 h
    | bad _ hr2 => rw [hr] at hr2; cases hr2
    | step _ hr2 h3 =>
      rw [hr] at hr2
      cases hr2
      exact ih h3
/-- the first place from i on that is no star -/
inductive StarRun (s : ByteArray) : Nat → Nat → Prop where
  | stop {i} (h : ¬ (i < s.size ∧ gb s i = 42)) : StarRun s i i
  | step {i j} (h : i < s.size ∧ gb s i = 42) (h2 : StarRun s (i + 1) j) : StarRun s i j
theorem StarRun.same {s : ByteArray} {i j j' : Nat} (h : StarRun s i j) (h' : StarRun s i j') : j = j' := by
  induction h with
  | stop h =>
    cases h' with
    | stop => rfl
    | step h2 => exact absurd h2 h
  | step h _ ih =>
    cases h' with
    | stop h2 => exact absurd h h2
    | step _ h3 => exact ih h3
theorem StarRun.le {s : ByteArray} {i j : Nat} (h : StarRun s i j) : i ≤ j := by
  induction h with
  | stop => exact Nat.le_refl _
  | step _ _ ih => omega
theorem StarRun.lt {s : ByteArray} {i j : Nat} (h : StarRun s i j) (hi : i ≤ s.size) : j ≤ s.size := by
  induction h with
  | stop => exact hi
  | step h _ ih => exact ih (by omega)
/-- a set's members at last: turned over where it says so; the slash never -/
def last (neg : Bool) (M : Nat → Bool) : Nat → Bool := fun c => (M c != neg) && c != 47
def Turned (s : ByteArray) (i : Nat) : Bool := decide (i < s.size) && gb s i == 33
def past (s : ByteArray) (i : Nat) : Nat := if Turned s i then i + 1 else i
/-- one piece, at place i (there is a byte) -/
inductive Piece (s : ByteArray) : Nat → Option (Pc × Nat) → Prop where
  | star {i} (h : gb s i = 42) (hj : StarRun s (i + 1) (i + 1)) : Piece s i (some (.star, i + 1))
  | stars {i j} (h : gb s i = 42) (hj : StarRun s (i + 1) j) (hne : i + 1 < j) : Piece s i (some (.stars, j))
  | any1 {i} (h : gb s i = 63) : Piece s i (some (.any1, i + 1))
  | set {i M e} (h : gb s i = 91) (hr : SetRun s (past s (i + 1)) (fun _ => false) 0 (some (M, e))) : Piece s i (some (.set (last (Turned s (i + 1)) M), e + 1))
  | noset {i} (h : gb s i = 91) (hr : SetRun s (past s (i + 1)) (fun _ => false) 0 none) : Piece s i none
  | esc {i} (h : gb s i = 92) (hl : i + 1 < s.size) : Piece s i (some (.byte (gb s (i + 1)), i + 2))
  | noesc {i} (h : gb s i = 92) (hl : s.size ≤ i + 1) : Piece s i none
  | byte {i} (h1 : gb s i ≠ 42) (h2 : gb s i ≠ 63) (h3 : gb s i ≠ 91) (h4 : gb s i ≠ 92) : Piece s i (some (.byte (gb s i), i + 1))
theorem Piece.same {s : ByteArray} {i : Nat} {r r' : Option (Pc × Nat)} (h : Piece s i r) (h' : Piece s i r') : r = r' := by
  cases h with
  | star h hj =>
    cases h' with
    | star => rfl
    | stars h2 hj2 hne => have := hj.same hj2; omega
    | _ => first | omega | (exfalso; omega)
  | stars h hj hne =>
    cases h' with
    | star h2 hj2 => have := hj.same hj2; omega
    | stars h2 hj2 hne => rw [hj.same hj2]
    | _ => first | omega | (exfalso; omega)
  | any1 h => cases h' <;> first | rfl | (exfalso; omega)
  | set h hr =>
    cases h' with
    | set h2 hr2 => cases hr.same hr2; rfl
    | noset h2 hr2 => cases hr.same hr2
    | _ => exfalso; omega
  | noset h hr =>
    cases h' with
    | set h2 hr2 => cases hr.same hr2
    | noset => rfl
    | _ => exfalso; omega
  | esc h hl => cases h' <;> first | rfl | (exfalso; omega)
  | noesc h hl => cases h' <;> first | rfl | (exfalso; omega)
  | byte h1 h2 h3 h4 => cases h' <;> first | rfl | (exfalso; omega)
/-- all pieces, from place i on -/
inductive Run (s : ByteArray) : Nat → List Pc → Option (List Pc) → Prop where
  | stop {i l} (h : s.size ≤ i) : Run s i l (some l)
  | bad {i l} (h : i < s.size) (hp : Piece s i none) : Run s i l none
  | step {i l p j r} (h : i < s.size) (hp : Piece s i (some (p, j))) (h2 : Run s j (l ++ [p]) r) : Run s i l r
theorem Run.same {s : ByteArray} {i : Nat} {l : List Pc} {r r' : Option (List Pc)} (h : Run s i l r) (h' : Run s i l r') : r = r' := by
  induction h with
  | stop h =>
    cases h' with
    | stop => rfl
    | bad h2 => omega
    | step h2 => omega
  | bad h hp =>
    cases h' with
    | stop h2 => omega
    | bad => rfl
    | step _ hp2 => cases hp.same hp2
  | step h hp _ ih =>
    cases h' with
    | stop h2 => omega
    | bad _ hp2 => cases hp.same hp2
    | step _ hp2 h3 =>
      cases hp.same hp2
      exact ih h3

/-- may a byte stand for the piece (for a star: be one of its bytes)? -/
def takes : Pc → Nat → Bool
  | .byte b, c => c == b
  | .any1, c => c != 47
  | .star, c => c != 47
  | .stars, _ => true
  | .set M, c => M c
def many : Pc → Bool
  | .star => true
  | .stars => true
  | _ => false
/-- to which places of the text one comes behind a piece, from those of S -/
def stepM (p : Pc) (t : ByteArray) (S : Nat → Bool) : Nat → Bool
  | 0 => S 0
  | i + 1 => S (i + 1) || (stepM p t S i && takes p (gb t i))
def step1 (p : Pc) (t : ByteArray) (S : Nat → Bool) : Nat → Bool
  | 0 => false
  | i + 1 => S i && takes p (gb t i)
def step (p : Pc) (t : ByteArray) (S : Nat → Bool) : Nat → Bool := if many p then stepM p t S else step1 p t S
def atZero : Nat → Bool := fun i => i == 0
def reach (t : ByteArray) (S : Nat → Bool) (l : List Pc) : Nat → Bool := l.foldl (fun S p => step p t S) S
/-- is the text of these pieces? -/
def isOf (l : List Pc) (t : ByteArray) : Bool := reach t atZero l t.size
theorem reach_snoc (t : ByteArray) (S : Nat → Bool) (l : List Pc) (p : Pc) : reach t S (l ++ [p]) = step p t (reach t S l) := by
  unfold reach
  rw [List.foldl_append]
  rfl
/-- what Match answers -/
inductive Answer (p t : ByteArray) : Bool → Int → Prop where
  | long (h : 255 < p.size) : Answer p t false 7
  | bad (h : p.size ≤ 255) (hr : Run p 0 [] none) : Answer p t false 190
  | text {l} (h : p.size ≤ 255) (hr : Run p 0 [] (some l)) (ht : 1023 < t.size) : Answer p t false 7
  | of {l} (h : p.size ≤ 255) (hr : Run p 0 [] (some l)) (ht : t.size ≤ 1023) : Answer p t (isOf l t) 0
theorem Answer.same {p t : ByteArray} {b b' : Bool} {e e' : Int} (h : Answer p t b e) (h' : Answer p t b' e') : b = b' ∧ e = e' := by
  cases h with
  | long h => cases h' <;> first | exact ⟨rfl, rfl⟩ | (exfalso; omega)
  | bad h hr =>
    cases h' with
    | long h2 => omega
    | bad => exact ⟨rfl, rfl⟩
    | text h2 hr2 => cases hr.same hr2
    | of h2 hr2 => cases hr.same hr2
  | text h hr ht =>
    cases h' with
    | long h2 => omega
    | bad h2 hr2 => cases hr.same hr2
    | text h2 hr2 => exact ⟨rfl, rfl⟩
    | of h2 hr2 ht2 => omega
  | of h hr ht =>
    cases h' with
    | long h2 => omega
    | bad h2 hr2 => cases hr.same hr2
    | text h2 hr2 ht2 => omega
    | of h2 hr2 ht2 => cases hr.same hr2; exact ⟨rfl, rfl⟩
end Go.Proofs.Ytcdhkeahcliefaa.Pat
