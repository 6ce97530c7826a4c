/- Plain facts on bytes, bars and runes. -/
import Derived.Test.YtefmihbjboacdaaRune
namespace Go.Proofs.Ytefmihbjboacdaa.Bars
set_option linter.unusedVariables false
def isBar (b : UInt8) : Bool := b == 47 || b == 0
def hasBar (s : ByteArray) : Bool := s.data.toList.any isBar
theorem high_not_bar (b : UInt8) (h : 128 ≤ b.toNat) : isBar b = false := by
  unfold isBar
  have h1 : b ≠ 47 := fun e => by subst e; revert h; decide
  have h2 : b ≠ 0 := fun e => by subst e; revert h; decide
  simp [h1, h2]
theorem contains_bars (b : UInt8) : ([47, 0] : List UInt8).contains b = isBar b := by
  unfold isBar
  simp [List.contains, List.elem]
  cases h : b == 47 <;> cases h2 : b == 0 <;> simp_all
theorem index_bars : ∀ l : List UInt8, decide (0 ≤ Lib.indexAny l [47, 0]) = l.any isBar
  | [] => rfl
  | b :: l => by
    have ih := index_bars l
    unfold Lib.indexAny
    rw [contains_bars, List.any_cons, ← ih]
    have hge := Lib.indexAny_ge [47, 0] l
    cases isBar b
    · rw [if_neg (by decide), Bool.false_or]
      by_cases h : Lib.indexAny l [47, 0] = -1
      · rw [h]
        rfl
      · rw [if_neg (by simpa using h)]
        exact decide_eq_decide.2 (by omega)
    · rfl
theorem get_at (s : ByteArray) (k : Nat) (h : k < s.size) : s.get! k = s[k]'h := by
  have := Go.get_at s k h
  simpa using this
theorem decode_span (s : ByteArray) (pos : Nat) (h : pos < s.size) (ha : 128 ≤ (s[pos]'h).toNat) :
    pos + (Utf8.decode s pos).2 ≤ s.size ∧ ∀ k, k < (Utf8.decode s pos).2 → 128 ≤ (s.get! (pos + k)).toNat := by
  have hn : ¬ (s[pos]'h).toNat < 128 := by omega
  have h0 : (s.get! (pos + 0)).toNat = (s[pos]'h).toNat := by rw [Go.get_at s pos h]
  have key : ∀ n, (∀ k, k < n → k = 0 ∨ (pos + k < s.size ∧ (s.get! (pos + k)).toNat / 64 = 2)) → 1 ≤ n → pos + n ≤ s.size ∧ ∀ k, k < n → 128 ≤ (s.get! (pos + k)).toNat := by
    intro n hk hn1
    refine ⟨?_, fun k hkn => ?_⟩
    · rcases hk (n - 1) (by omega) with h | ⟨h, _⟩
      · omega
      · omega
    · rcases hk k hkn with rfl | ⟨_, h⟩
      · omega
      · omega
  have h1 := key 1 (fun k hk => .inl (by omega)) (by omega)
  simp only [Utf8.decode, Go.get_at s pos h, hn, if_false]
  split
  · rename_i hc
    simp only [Bool.and_eq_true, beq_iff_eq, decide_eq_true_eq] at hc
    split
    · exact key 2 (fun k hk => by match k, hk with | 0, _ => exact .inl rfl | 1, _ => exact .inr ⟨hc.2.1, hc.2.2⟩) (by omega)
    · exact h1
  · split
    · rename_i hc
      simp only [Bool.and_eq_true, beq_iff_eq, decide_eq_true_eq] at hc
      split
      · exact key 3 (fun k hk => by match k, hk with | 0, _ => exact .inl rfl | 1, _ => exact .inr ⟨hc.1.2.1, hc.1.2.2⟩ | 2, _ => exact .inr ⟨hc.2.1, hc.2.2⟩) (by omega)
      · exact h1
    · split
      · rename_i hc
        simp only [Bool.and_eq_true, beq_iff_eq, decide_eq_true_eq] at hc
        split
        · exact key 4 (fun k hk => by match k, hk with | 0, _ => exact .inl rfl | 1, _ => exact .inr ⟨hc.1.1.2.1, hc.1.1.2.2⟩ | 2, _ => exact .inr ⟨hc.1.2.1, hc.1.2.2⟩ | 3, _ => exact .inr ⟨hc.2.1, hc.2.2⟩) (by omega)
        · exact h1
      · exact h1
/-- none of the first i bytes is a bar -/
def NoBar (s : ByteArray) (i : Nat) : Prop := ∀ j, j < i → ∀ h : j < s.size, isBar (s[j]'h) = false
theorem NoBar.all {s : ByteArray} (h : NoBar s s.size) : hasBar s = false := by
  unfold hasBar
  rw [List.any_eq_false]
  intro b hb
  obtain ⟨j, hj, rfl⟩ := List.getElem_of_mem hb
  have := h j (by simpa using hj) (by simpa using hj)
  simpa [ByteArray.getElem_eq_getElem_data] using this
theorem hasBar_at {s : ByteArray} {j : Nat} (h : j < s.size) (hb : isBar (s[j]'h) = true) : hasBar s = true := by
  unfold hasBar
  rw [List.any_eq_true]
  exact ⟨s[j], by rw [ByteArray.getElem_eq_getElem_data]; simp, hb⟩
end Go.Proofs.Ytefmihbjboacdaa.Bars
