/- What patterns are for, in plain words: escaped bytes have just themselves; a star has what has no slash; pieces stand one behind the other. No Go in it. -/
import Derived.Test.YtcdhkeahcliefaaPat
namespace Go.Proofs.Ytcdhkeahcliefaa.Glob
open Go.Proofs.Ytcdhkeahcliefaa.Pat
set_option linter.unusedVariables false

/-- a text's bytes as numbers -/
def bs (s : ByteArray) : List Nat := s.data.toList.map UInt8.toNat
theorem bs_length (s : ByteArray) : (bs s).length = s.size := by
  unfold bs
  rw [List.length_map, Array.length_toList]
  rfl
theorem gb_bs (s : ByteArray) (i : Nat) : gb s i = (bs s).getD i 0 := by
  unfold gb bs
  rw [Array.getD_eq_getD_getElem?, List.getD_eq_getElem?_getD, List.getElem?_map, Array.getElem?_toList]
  cases s.data[i]? <;> rfl
theorem bs_append (a b : ByteArray) : bs (a ++ b) = bs a ++ bs b := by
  unfold bs
  rw [← List.map_append]
  simp
theorem bs_lt (s : ByteArray) : ∀ c ∈ bs s, c < 256 := by
  intro c hc
  obtain ⟨x, _, rfl⟩ := List.mem_map.1 hc
  exact UInt8.toNat_lt x
theorem bs_inj {a b : ByteArray} (h : bs a = bs b) : a = b := by
  have h1 : a.data.toList = b.data.toList := by
    unfold bs at h
    exact (List.map_inj_right (fun x y e => UInt8.toNat_inj.1 e)).1 h
  cases a
  cases b
  congr 1
  exact Array.toList_inj.1 h1

/-- the pieces l have the text's bytes from i to j -/
def P (p : Pc) (t : ByteArray) (i k : Nat) : Prop := if many p then i ≤ k ∧ ∀ q, i ≤ q → q < k → takes p (gb t q) = true else k = i + 1 ∧ takes p (gb t i) = true
def M (t : ByteArray) : List Pc → Nat → Nat → Prop
  | [], i, j => i = j
  | p :: l, i, j => ∃ k, P p t i k ∧ M t l k j
theorem getD_left {l r : List Nat} {q : Nat} (h : q < l.length) : (l ++ r).getD q 0 = l.getD q 0 := by
  rw [List.getD_eq_getElem?_getD, List.getD_eq_getElem?_getD, List.getElem?_append_left h]
theorem getD_right {l r : List Nat} {q : Nat} (h : l.length ≤ q) : (l ++ r).getD q 0 = r.getD (q - l.length) 0 := by
  rw [List.getD_eq_getElem?_getD, List.getD_eq_getElem?_getD, List.getElem?_append_right h]
theorem step_iff (p : Pc) (t : ByteArray) (S : Nat → Bool) (k : Nat) : Pat.step p t S k = true ↔ ∃ i, S i = true ∧ P p t i k := by
  unfold Pat.step P
  cases hm : many p with
  | false =>
    simp only [Bool.false_eq_true, if_false]
    cases k with
    | zero => simp [step1]
    | succ k =>
      simp only [step1, Bool.and_eq_true]
      constructor
      · rintro ⟨h1, h2⟩
        exact ⟨k, h1, rfl, h2⟩
      · rintro ⟨i, h1, h2, h3⟩
        obtain rfl : k = i := by omega
        exact ⟨h1, h3⟩
  | true =>
    simp only [if_true]
    induction k with
    | zero =>
      simp only [stepM]
      constructor
      · intro h
        exact ⟨0, h, Nat.le_refl _, fun q _ h => absurd h (Nat.not_lt_zero q)⟩
      · rintro ⟨i, h1, h2, _⟩
        obtain rfl : i = 0 := by omega
        exact h1
    | succ k ih =>
      simp only [stepM, Bool.or_eq_true, Bool.and_eq_true]
      constructor
      · rintro (h | ⟨h1, h2⟩)
        · exact ⟨k + 1, h, Nat.le_refl _, fun q h1 h2 => by omega⟩
        · obtain ⟨i, hi, hik, hq⟩ := ih.1 h1
          refine ⟨i, hi, by omega, fun q h3 h4 => ?_⟩
          by_cases hqk : q = k
          · subst hqk; exact h2
          · exact hq q h3 (by omega)
      · rintro ⟨i, hi, hik, hq⟩
        by_cases hk : i = k + 1
        · subst hk; exact .inl hi
        · refine .inr ⟨ih.2 ⟨i, hi, by omega, fun q h3 h4 => hq q h3 (by omega)⟩, hq k (by omega) (by omega)⟩
theorem reach_iff (t : ByteArray) : ∀ (l : List Pc) (S : Nat → Bool) (j : Nat), reach t S l j = true ↔ ∃ i, S i = true ∧ M t l i j
  | [], S, j => by
    show S j = true ↔ _
    constructor
    · intro h; exact ⟨j, h, rfl⟩
    · rintro ⟨i, h, rfl⟩; exact h
  | p :: l, S, j => by
    show reach t (Pat.step p t S) l j = true ↔ _
    rw [reach_iff t l]
    constructor
    · rintro ⟨k, hk, hm⟩
      obtain ⟨i, hi, hp⟩ := (step_iff p t S k).1 hk
      exact ⟨i, hi, k, hp, hm⟩
    · rintro ⟨i, hi, k, hp, hm⟩
      exact ⟨k, (step_iff p t S k).2 ⟨i, hi, hp⟩, hm⟩
theorem isOf_iff (l : List Pc) (t : ByteArray) : isOf l t = true ↔ M t l 0 t.size := by
  unfold isOf
  rw [reach_iff]
  constructor
  · rintro ⟨i, hi, h⟩
    obtain rfl : i = 0 := by simpa [atZero] using hi
    exact h
  · intro h
    exact ⟨0, rfl, h⟩
theorem M_append (t : ByteArray) : ∀ (l l' : List Pc) (i j : Nat), M t (l ++ l') i j ↔ ∃ k, M t l i k ∧ M t l' k j
  | [], l', i, j => by simp [M]
  | p :: l, l', i, j => by
    show (∃ k, P p t i k ∧ M t (l ++ l') k j) ↔ ∃ k, (∃ k', P p t i k' ∧ M t l k' k) ∧ M t l' k j
    constructor
    · rintro ⟨k, hp, hm⟩
      obtain ⟨k2, h1, h2⟩ := (M_append t l l' k j).1 hm
      exact ⟨k2, ⟨k, hp, h1⟩, h2⟩
    · rintro ⟨k2, ⟨k, hp, h1⟩, h2⟩
      exact ⟨k, hp, (M_append t l l' k j).2 ⟨k2, h1, h2⟩⟩
/-- the pieces of escaped bytes -/
def lits (a : List Nat) : List Pc := a.map .byte
theorem M_lits (t : ByteArray) : ∀ (a : List Nat) (i j : Nat), M t (lits a) i j ↔ j = i + a.length ∧ ∀ q, q < a.length → gb t (i + q) = a.getD q 0
  | [], i, j => by
    show i = j ↔ _
    simp
    omega
  | c :: a, i, j => by
    show (∃ k, P (.byte c) t i k ∧ M t (lits a) k j) ↔ _
    constructor
    · rintro ⟨k, ⟨rfl, hc⟩, hm⟩
      obtain ⟨h1, h2⟩ := (M_lits t a (i + 1) j).1 hm
      refine ⟨by rw [h1, List.length_cons]; omega, fun q hq => ?_⟩
      cases q with
      | zero => exact eq_of_beq hc
      | succ q =>
        have := h2 q (by simpa using hq)
        rw [show i + (q + 1) = i + 1 + q from by omega, this]
        rfl
    · rintro ⟨h1, h2⟩
      refine ⟨i + 1, ⟨rfl, ?_⟩, (M_lits t a (i + 1) j).2 ⟨by rw [h1, List.length_cons]; omega, fun q hq => ?_⟩⟩
      · have := h2 0 (by simp)
        exact beq_iff_eq.2 this
      · have := h2 (q + 1) (by simpa using hq)
        rw [show i + 1 + q = i + (q + 1) from by omega, this]
        rfl
/-- escaped bytes have just themselves -/
theorem lits_iff (a t : ByteArray) : isOf (lits (bs a)) t = true ↔ a = t := by
  rw [isOf_iff, M_lits, bs_length]
  constructor
  · rintro ⟨h1, h2⟩
    apply bs_inj
    have hl : (bs a).length = (bs t).length := by rw [bs_length, bs_length]; omega
    refine List.ext_getElem hl fun q h3 h4 => ?_
    have := h2 q (by rw [bs_length] at h3; exact h3)
    rw [Nat.zero_add, gb_bs, List.getD_eq_getElem?_getD, List.getD_eq_getElem?_getD, List.getElem?_eq_getElem h3, List.getElem?_eq_getElem h4] at this
    exact this.symm
  · rintro rfl
    exact ⟨by omega, fun q _ => by rw [Nat.zero_add, gb_bs]⟩
/-- one piece between escaped bytes, over a text that has these bytes in front and behind -/
theorem mid_iff (a m b : ByteArray) (p : Pc) : isOf (lits (bs a) ++ [p] ++ lits (bs b)) (a ++ m ++ b) = true ↔ P p (a ++ m ++ b) a.size (a.size + m.size) := by
  have hg : bs (a ++ m ++ b) = bs a ++ (bs m ++ bs b) := by rw [bs_append, bs_append, List.append_assoc]
  have hs : (a ++ m ++ b).size = a.size + m.size + b.size := by rw [← bs_length, hg, List.length_append, List.length_append, bs_length, bs_length, bs_length]; omega
  have ha : ∀ q, q < a.size → gb (a ++ m ++ b) (0 + q) = (bs a).getD q 0 := fun q hq => by
    rw [Nat.zero_add, gb_bs, hg, getD_left (by rw [bs_length]; exact hq)]
  have hb : ∀ q, q < b.size → gb (a ++ m ++ b) (a.size + m.size + q) = (bs b).getD q 0 := fun q hq => by
    rw [gb_bs, hg, getD_right (by rw [bs_length]; omega), getD_right (by rw [bs_length, bs_length]; omega), bs_length, bs_length]
    congr 1
    omega
  rw [isOf_iff, M_append]
  constructor
  · rintro ⟨k, h1, h2⟩
    obtain ⟨k0, h3, h4⟩ := (M_append _ _ _ _ _).1 h1
    obtain ⟨k1, hp, rfl⟩ := h4
    obtain ⟨rfl, _⟩ := (M_lits _ _ _ _).1 h3
    obtain ⟨h5, _⟩ := (M_lits _ _ _ _).1 h2
    rw [bs_length, hs] at h5
    rw [Nat.zero_add, bs_length] at hp
    rw [show a.size + m.size = k1 from by omega]
    exact hp
  · intro hp
    refine ⟨a.size + m.size, (M_append _ _ _ _ _).2 ⟨a.size, (M_lits _ _ _ _).2 ⟨by rw [bs_length]; omega, by rw [bs_length]; exact ha⟩, a.size + m.size, hp, rfl⟩, (M_lits _ _ _ _).2 ⟨by rw [bs_length, hs], by rw [bs_length]; exact hb⟩⟩
theorem gb_mid (a m b : ByteArray) (q : Nat) (h : q < m.size) : gb (a ++ m ++ b) (a.size + q) = gb m q := by
  rw [gb_bs, gb_bs, bs_append, bs_append, List.append_assoc, getD_right (by rw [bs_length]; omega), getD_left (by rw [bs_length, bs_length]; omega), bs_length]
  congr 1
  omega
/-- has the text no slash? -/
def clear1 (m : ByteArray) : Bool := (bs m).all (· != 47)
theorem clear1_iff (m : ByteArray) : clear1 m = true ↔ ∀ q, q < m.size → (gb m q != 47) = true := by
  unfold clear1
  rw [List.all_eq_true]
  constructor
  · intro h q hq
    rw [gb_bs, List.getD_eq_getElem?_getD, List.getElem?_eq_getElem (by rw [bs_length]; exact hq)]
    exact h _ (List.getElem_mem _)
  · intro h c hc
    obtain ⟨q, hq, rfl⟩ := List.mem_iff_getElem.1 hc
    have := h q (by rw [bs_length] at hq; exact hq)
    rwa [gb_bs, List.getD_eq_getElem?_getD, List.getElem?_eq_getElem hq] at this
theorem bool_of_iff {a b : Bool} (h : a = true ↔ b = true) : a = b := by
  cases a <;> cases b <;> simp_all
theorem star_is (a m b : ByteArray) : isOf (lits (bs a) ++ [.star] ++ lits (bs b)) (a ++ m ++ b) = clear1 m := by
  apply bool_of_iff
  rw [mid_iff, clear1_iff]
  show (a.size ≤ a.size + m.size ∧ ∀ q, a.size ≤ q → q < a.size + m.size → (gb (a ++ m ++ b) q != 47) = true) ↔ _
  constructor
  · rintro ⟨_, h⟩ q hq
    rw [← gb_mid a m b q hq]
    exact h _ (by omega) (by omega)
  · intro h
    refine ⟨by omega, fun q h1 h2 => ?_⟩
    have := h (q - a.size) (by omega)
    rw [← gb_mid a m b _ (by omega), show a.size + (q - a.size) = q from by omega] at this
    exact this
theorem stars_is (a m b : ByteArray) : isOf (lits (bs a) ++ [.stars] ++ lits (bs b)) (a ++ m ++ b) = true := by
  rw [mid_iff]
  exact ⟨by omega, fun _ _ _ => rfl⟩
theorem one_is (a m b : ByteArray) (p : Pc) (hp : many p = false) (hm : m.size = 1) : isOf (lits (bs a) ++ [p] ++ lits (bs b)) (a ++ m ++ b) = takes p (gb m 0) := by
  apply bool_of_iff
  rw [mid_iff, hm]
  unfold P
  rw [hp]
  have := gb_mid a m b 0 (by omega)
  rw [Nat.add_zero] at this
  simp [this]
end Go.Proofs.Ytcdhkeahcliefaa.Glob
