/- The document's small parts: unit; a piece's cells. -/
import Derived.Test.YtcdhkeahcliefaaPatOf
namespace Go.Proofs.Ytcdhkeahcliefaa.PatB
open Go.ChangeShapes Go.WideShapes Go.ChangeAt Go.RowKit
open Go.Proofs.Ytcdhkeahcliefaa.Kit Go.Proofs.Ytcdhkeahcliefaa.Pat Go.Proofs.Ytcdhkeahcliefaa.PatA Go.Proofs.Ytcdhkeahcliefaa.PatSet Go.Proofs.Ytcdhkeahcliefaa.PatPiece Go.Proofs.Ytcdhkeahcliefaa.PatCompile Go.Proofs.Ytcdhkeahcliefaa.PatOf
set_option linter.unusedVariables false

def rowB (k : Int) (b : Nat) (M : Nat → Bool) : Array Value := (.int .i64 k :: .int .u8 b :: bools 256 M).toArray
theorem rowB_size (k : Int) (b : Nat) (M : Nat → Bool) : (rowB k b M).size = 258 := by
  show (Value.int .i64 k :: Value.int .u8 b :: bools 256 M).length = 258
  rw [List.length_cons, List.length_cons, bools_length]
theorem rowB_get (k : Int) (b : Nat) (M : Nat → Bool) (c : Nat) (h : c < 256) : (rowB k b M)[2 + c]? = some (.bool (M c)) := by
  unfold rowB
  rw [Nat.add_comm, List.getElem?_toArray, List.getElem?_cons_succ, List.getElem?_cons_succ, bools_get 256 M c h]
theorem rowB_put (k : Int) (b : Nat) (M : Nat → Bool) (c : Nat) (v : Bool) : (rowB k b M).setIfInBounds (2 + c) (.bool v) = rowB k b (upd M c v) := by
  unfold rowB
  rw [Nat.add_comm, List.setIfInBounds_toArray, List.set_cons_succ, List.set_cons_succ, bools_set]
theorem rowB_congr {k : Int} {b : Nat} {M M' : Nat → Bool} (h : ∀ c, c < 256 → M c = M' c) : rowB k b M = rowB k b M' := by
  unfold rowB
  rw [bools_congr h]
theorem rowB_one (k : Int) (b : Nat) (M : Nat → Bool) : (rowB k b M).all (·.oneCell') = true := by
  rw [Array.all_eq_true_iff_forall_mem]
  intro v hv
  unfold rowB bools at hv
  simp at hv
  rcases hv with rfl | rfl | ⟨c, _, rfl⟩ <;> rfl
def zrowB : Array Value := rowB 0 0 fun _ => false
def rowRef : Pc → Array Value
  | .byte b => rowB 1 b fun _ => false
  | .any1 => rowB 2 0 fun _ => false
  | .star => rowB 3 0 fun _ => false
  | .stars => rowB 4 0 fun _ => false
  | .set M => rowB 5 0 M
theorem rowRef_size (p : Pc) : (rowRef p).size = 258 := by cases p <;> exact rowB_size _ _ _
theorem rowRef_one (p : Pc) : (rowRef p).all (·.oneCell') = true := by cases p <;> exact rowB_one _ _ _

def UnitPost (r : Option (Nat × Nat)) (i : Nat) (w : World) (e : Ending) (w' : World) : Prop :=
  w = w' ∧ (match r with
  | none => e = .returned (.tuple #[.int .u8 0, .int .i64 0])
  | some (x, j) => e = .returned (.tuple #[.int .u8 x, .int .i64 ((j - i : Nat) : Int)]))
set_option maxRecDepth 100000 in
set_option maxHeartbeats 1600000 in
theorem unit_any (s : ByteArray) (i : Nat) (w : World) (hs9 : s.size ≤ 1000) (hi9 : i ≤ 1001) : Calls Try.prog 38 #[.string s, .int .i64 i] w (UnitPost (U s i) i w) := by
  have hi9i : (i : Int) ≤ 1001 := by omega
  unfold U
  by_cases h1 : s.size ≤ i
  · rw [if_pos h1]
    have q1 : (s.size : Int) ≤ (i : Int) := by omega
    clear h1
    go_enter Try.func38, Try.ntmps38
    go_wp2_with fail
    exact bodyPost_ret (v := .tuple #[.int .u8 0, .int .i64 0]) (by simp [results, Try.results38]) rfl ⟨rfl, rfl⟩
  rw [if_neg h1]
  have hx := index_gb s i (by omega)
  have q1 : ¬ ((s.size : Int) ≤ (i : Int)) := by omega
  obtain ⟨y, hy⟩ : ∃ y, gb s i = y := ⟨_, rfl⟩
  rw [hy] at hx ⊢
  clear hy
  by_cases h2 : y = 93
  · subst h2
    rw [if_pos (.inl rfl)]
    clear h1
    go_enter Try.func38, Try.ntmps38
    go_wp2_with fail
    exact bodyPost_ret (v := .tuple #[.int .u8 0, .int .i64 0]) (by simp [results, Try.results38]) rfl ⟨rfl, rfl⟩
  have e2 : ((y : Int) == 93) = false := beq_eq_false_iff_ne.2 (by omega)
  by_cases h3 : y = 45
  · subst h3
    rw [if_pos (.inr rfl)]
    clear h1 h2
    go_enter Try.func38, Try.ntmps38
    go_wp2_with fail
    exact bodyPost_ret (v := .tuple #[.int .u8 0, .int .i64 0]) (by simp [results, Try.results38]) rfl ⟨rfl, rfl⟩
  have e3 : ((y : Int) == 45) = false := beq_eq_false_iff_ne.2 (by omega)
  rw [if_neg (by omega)]
  by_cases h4 : y = 92
  · subst h4
    rw [if_pos rfl]
    by_cases h5 : s.size ≤ i + 1
    · rw [if_pos h5]
      have q5 : (s.size : Int) ≤ (i : Int) + 1 := by omega
      clear h1 h2 h3 h5
      go_enter Try.func38, Try.ntmps38
      go_wp2_with fail
      exact bodyPost_ret (v := .tuple #[.int .u8 0, .int .i64 0]) (by simp [results, Try.results38]) rfl ⟨rfl, rfl⟩
    · rw [if_neg h5]
      have q5 : ¬ ((s.size : Int) ≤ (i : Int) + 1) := by omega
      have hx1 : ∀ w, (Instr.index 9 (.string s) (.int .i64 ((i : Int) + 1))).run Try.prog w = .ok (.int .u8 (gb s (i + 1))) w := index_gb s (i + 1) (by omega)
      have E : Hid (i + 2 - i = 2) := by show _ = _; omega
      obtain ⟨z, hz⟩ : ∃ z, gb s (i + 1) = z := ⟨_, rfl⟩
      rw [hz] at hx1 ⊢
      clear h1 h2 h3 h5 hz
      go_enter Try.func38, Try.ntmps38
      go_wp2_with fail
      exact bodyPost_ret (v := .tuple #[.int .u8 z, .int .i64 2]) (by simp [results, Try.results38]) rfl ⟨rfl, by show Ending.returned _ = Ending.returned _; rw [E.out]; rfl⟩
  · rw [if_neg h4]
    have e4 : ((y : Int) != 92) = true := bne_iff_ne.2 (by omega)
    have E : Hid (i + 1 - i = 1) := by show _ = _; omega
    clear h1 h2 h3 h4
    go_enter Try.func38, Try.ntmps38
    go_wp2_with fail
    exact bodyPost_ret (v := .tuple #[.int .u8 y, .int .i64 1]) (by simp [results, Try.results38]) rfl ⟨rfl, by show Ending.returned _ = Ending.returned _; rw [E.out]; rfl⟩
end Go.Proofs.Ytcdhkeahcliefaa.PatB
