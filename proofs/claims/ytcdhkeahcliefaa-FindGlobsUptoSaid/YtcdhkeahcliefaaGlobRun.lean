/- How the patterns of FindGlobs are read, and what Match answers of them. No Go in it. -/
import Derived.Test.YtcdhkeahcliefaaGlob
namespace Go.Proofs.Ytcdhkeahcliefaa.GlobRun
open Go.Proofs.Ytcdhkeahcliefaa.Pat Go.Proofs.Ytcdhkeahcliefaa.Glob
set_option linter.unusedVariables false

def esc (a : List Nat) : List Nat := a.flatMap fun c => [92, c]
theorem esc_length (a : List Nat) : (esc a).length = 2 * a.length := by
  induction a with
  | nil => rfl
  | cons c a ih =>
    show ([92, c] ++ esc a).length = _
    rw [List.length_append, ih, List.length_cons]
    simp
    omega
theorem at_suf {p : ByteArray} {pre suf : List Nat} (h : bs p = pre ++ suf) (k : Nat) : gb p (pre.length + k) = suf.getD k 0 := by
  rw [gb_bs, h, getD_right (by omega)]
  congr 1
  omega
theorem size_suf {p : ByteArray} {pre suf : List Nat} (h : bs p = pre ++ suf) : p.size = pre.length + suf.length := by
  rw [← bs_length, h, List.length_append]
theorem run_esc {p : ByteArray} {r : Option (List Pc)} {post : List Nat} : ∀ (a pre : List Nat) (l : List Pc), bs p = pre ++ (esc a ++ post) → Run p (pre.length + 2 * a.length) (l ++ lits a) r → Run p pre.length l r
  | [], pre, l, h, hr => by simpa [lits] using hr
  | c :: a, pre, l, h, hr => by
    have h' : bs p = pre ++ (92 :: c :: (esc a ++ post)) := h
    have hs := size_suf h'
    have g0 := at_suf h' 0
    have g1 := at_suf h' 1
    rw [Nat.add_zero] at g0
    have hp : Piece p pre.length (some (.byte (gb p (pre.length + 1)), pre.length + 2)) := .esc g0 (by rw [hs]; simp)
    rw [g1] at hp
    refine .step (by rw [hs]; simp) hp ?_
    have := run_esc (p := p) (r := r) (post := post) a (pre ++ [92, c]) (l ++ [.byte c]) (by rw [h']; simp) (by
      have e1 : (pre ++ [92, c]).length + 2 * a.length = pre.length + 2 * (c :: a).length := by simp; omega
      have e2 : l ++ [.byte c] ++ lits a = l ++ lits (c :: a) := by simp [lits]
      rw [e1, e2]
      exact hr)
    rwa [show (pre ++ [92, c]).length = pre.length + 2 from by simp] at this
theorem run_end {p : ByteArray} {a pre : List Nat} {l : List Pc} (h : bs p = pre ++ esc a) : Run p pre.length l (some (l ++ lits a)) := by
  refine run_esc (post := []) a pre l (by rw [h]; simp) (.stop ?_)
  rw [size_suf h, esc_length]
  exact Nat.le_refl _
theorem esc_no (b : List Nat) (c : Nat) (hc : c ≠ 0) (h92 : c ≠ 92) : (esc b).getD 0 0 ≠ c := by
  cases b with
  | nil => exact fun h => hc h.symm
  | cons x b => exact fun h => h92 h.symm
/-- a piece between escaped bytes -/
theorem run_mid {p : ByteArray} {a mid b : List Nat} {q : Pc} (h : bs p = esc a ++ (mid ++ esc b)) (hm : 0 < mid.length) (hq : Piece p (2 * a.length) (some (q, 2 * a.length + mid.length))) : Run p 0 [] (some (lits a ++ [q] ++ lits b)) := by
  refine run_esc (p := p) (post := mid ++ esc b) a [] [] (by rw [h]; simp) ?_
  rw [show ([] : List Nat).length + 2 * a.length = 2 * a.length from by simp, List.nil_append]
  have hs : p.size = 2 * a.length + mid.length + 2 * b.length := by rw [← bs_length, h, List.length_append, List.length_append, esc_length, esc_length]; omega
  refine .step (by omega) hq ?_
  have h2 := run_end (p := p) (a := b) (pre := esc a ++ mid) (l := lits a ++ [q]) (by rw [h, List.append_assoc])
  rwa [show (esc a ++ mid).length = 2 * a.length + mid.length from by rw [List.length_append, esc_length]] at h2
theorem run_lits {p : ByteArray} {a : List Nat} (h : bs p = esc a) : Run p 0 [] (some (lits a)) := by
  have := run_end (p := p) (a := a) (pre := []) (l := []) (by rw [h]; rfl)
  exact this
theorem gb_out {p : ByteArray} {i : Nat} (h : p.size ≤ i) : gb p i = 0 := by
  rw [gb_bs, List.getD_eq_getElem?_getD, List.getElem?_eq_none (by rw [bs_length]; exact h)]
  rfl
theorem mid_star {p : ByteArray} {a b : List Nat} (h : bs p = esc a ++ ([42] ++ esc b)) : Piece p (2 * a.length) (some (.star, 2 * a.length + 1)) := by
  have g0 := at_suf h 0
  have g1 := at_suf h 1
  rw [esc_length] at g0 g1
  refine .star g0 (.stop ?_)
  rintro ⟨_, h2⟩
  rw [g1] at h2
  exact esc_no b 42 (by decide) (by decide) h2
theorem mid_stars {p : ByteArray} {a b : List Nat} (h : bs p = esc a ++ ([42, 42] ++ esc b)) : Piece p (2 * a.length) (some (.stars, 2 * a.length + 2)) := by
  have g0 := at_suf h 0
  have g1 := at_suf h 1
  have g2 := at_suf h 2
  have hs := size_suf h
  rw [esc_length] at g0 g1 g2 hs
  refine .stars g0 (.step ⟨by rw [hs]; simp, g1⟩ (.stop ?_)) (by omega)
  rintro ⟨_, h2⟩
  rw [show 2 * a.length + 1 + 1 = 2 * a.length + 2 from rfl, g2] at h2
  exact esc_no b 42 (by decide) (by decide) h2
theorem mid_any {p : ByteArray} {a b : List Nat} (h : bs p = esc a ++ ([63] ++ esc b)) : Piece p (2 * a.length) (some (.any1, 2 * a.length + 1)) := by
  have g0 := at_suf h 0
  rw [esc_length] at g0
  exact .any1 g0
theorem U_esc {p : ByteArray} {i x : Nat} (h0 : gb p i = 92) (h1 : gb p (i + 1) = x) (hs : i + 1 < p.size) : U p i = some (x, i + 2) := by
  unfold U
  rw [if_neg (by omega), if_neg (by rw [h0]; decide), if_pos h0, if_neg (by omega), h1]
/-- a set of two escaped bytes side by side -/
theorem mid_two {p : ByteArray} {a b : List Nat} {x y : Nat} (h : bs p = esc a ++ ([91, 92, x, 92, y, 93] ++ esc b)) : Piece p (2 * a.length) (some (.set (last false (add (add (fun _ => false) x x) y y)), 2 * a.length + 6)) := by
  have g0 : gb p ((esc a).length + 0) = 91 := at_suf h 0
  have g1 : gb p ((esc a).length + 1) = 92 := at_suf h 1
  have g2 : gb p ((esc a).length + 2) = x := at_suf h 2
  have g3 : gb p ((esc a).length + 3) = 92 := at_suf h 3
  have g4 : gb p ((esc a).length + 4) = y := at_suf h 4
  have g5 : gb p ((esc a).length + 5) = 93 := at_suf h 5
  have hs := size_suf h
  rw [esc_length] at g0 g1 g2 g3 g4 g5 hs
  have hs6 : 2 * a.length + 6 ≤ p.size := by rw [hs]; simp
  generalize 2 * a.length = n at *
  have ht : Turned p (n + 1) = false := by unfold Turned; rw [g1]; simp
  have hp : past p (n + 1) = n + 1 := by unfold past; rw [ht]; rfl
  have hq : Piece p n (some (.set (last (Turned p (n + 1)) (add (add (fun _ => false) x x) y y)), n + 5 + 1)) := by
    refine .set g0 ?_
    rw [hp]
    refine .step (lo := x) (hi := x) (j := n + 3) (by rintro ⟨h, _⟩; exact h rfl) ?_ (.step (lo := y) (hi := y) (j := n + 5) ?_ ?_ (.stop ⟨by decide, by omega, g5⟩))
    · unfold R
      rw [U_esc g1 g2 (by omega)]
      simp only
      rw [if_neg]
      rintro ⟨_, h⟩
      have h3 : gb p (n + 3) = 45 := h
      rw [g3] at h3
      exact absurd h3 (by decide)
    · rintro ⟨_, _, h⟩
      rw [g3] at h
      exact absurd h (by decide)
    · unfold R
      rw [U_esc g3 g4 (by omega)]
      simp only
      rw [if_neg]
      rintro ⟨_, h⟩
      have h3 : gb p (n + 5) = 45 := h
      rw [g5] at h3
      exact absurd h3 (by decide)
  rw [ht] at hq
  exact hq
theorem range_is {p : ByteArray} {n x y : Nat} (g1 : gb p n = 92) (g2 : gb p (n + 1) = x) (g3 : gb p (n + 2) = 45) (g4 : gb p (n + 3) = 92) (g5 : gb p (n + 4) = y) (hs : n + 4 < p.size) :
    R p n = if y < x then none else some (x, y, n + 5) := by
  unfold R
  rw [U_esc g1 g2 (by omega)]
  simp only
  rw [if_pos ⟨by omega, g3⟩, U_esc (i := n + 2 + 1) g4 g5 (by omega)]
/-- a set of a range -/
theorem set_range {p : ByteArray} {n x y : Nat} {neg : Bool} (g0 : gb p 0 = 91) (hn : past p 1 = n) (ht : Turned p 1 = neg) (g1 : gb p n = 92) (g2 : gb p (n + 1) = x) (g3 : gb p (n + 2) = 45) (g4 : gb p (n + 3) = 92) (g5 : gb p (n + 4) = y) (g6 : gb p (n + 5) = 93) (hs : p.size = n + 6) :
    if y < x then Run p 0 [] none else Run p 0 [] (some [.set (last neg (add (fun _ => false) x y))]) := by
  have hr := range_is g1 g2 g3 g4 g5 (by omega)
  by_cases hxy : y < x
  · rw [if_pos hxy] at hr ⊢
    refine .bad (by omega) (.noset g0 ?_)
    rw [show 0 + 1 = 1 from rfl, hn]
    exact .bad (by rintro ⟨h, _⟩; exact h rfl) hr
  · rw [if_neg hxy] at hr ⊢
    have hq : Piece p 0 (some (.set (last (Turned p (0 + 1)) (add (fun _ => false) x y)), n + 5 + 1)) := by
      refine .set g0 ?_
      rw [show 0 + 1 = 1 from rfl, hn]
      exact .step (by rintro ⟨h, _⟩; exact h rfl) hr (.stop ⟨by decide, by omega, g6⟩)
    rw [show 0 + 1 = 1 from rfl, ht] at hq
    exact .step (by omega) hq (.stop (by omega))
/-- what the law asks of an answer -/
def Ok (p t : ByteArray) (want : Bool) : Prop := ∀ b x, Answer p t b x → if 255 < p.size ∨ 1023 < t.size then b = false ∧ x = 7 else x = 0 ∧ b = want
theorem ok_of {p t : ByteArray} {l : List Pc} {want : Bool} (hr : Run p 0 [] (some l)) (hw : isOf l t = want) : Ok p t want := by
  intro b x h
  cases h with
  | long h => rw [if_pos (.inl h)]; exact ⟨rfl, rfl⟩
  | bad h hr2 => cases hr.same hr2
  | text h hr2 ht => rw [if_pos (.inr ht)]; exact ⟨rfl, rfl⟩
  | of h hr2 ht =>
    cases hr.same hr2
    rw [if_neg (by omega)]
    exact ⟨rfl, hw⟩
theorem isOf_one (q : Pc) (t : ByteArray) (hq : many q = false) (ht : t.size = 1) : isOf [q] t = takes q (gb t 0) := by
  apply bool_of_iff
  rw [isOf_iff]
  unfold M M P
  rw [hq, ht]
  simp
theorem isOf_many (q : Pc) (t : ByteArray) (hq : many q = true) : isOf [q] t = true ↔ ∀ i, i < t.size → takes q (gb t i) = true := by
  rw [isOf_iff]
  unfold M M P
  rw [hq]
  simp
end Go.Proofs.Ytcdhkeahcliefaa.GlobRun
