/- The document's unary: a stack that is cut. -/
import Derived.Test.YtcdhkeahcliefaaGreatDoorPrint28
namespace Go.Proofs.YtcdhkeahcliefaaGreatDoor.RefB
open Go.ChangeShapes Go.WideShapes Go.ChangeAt Go.RowKit
open Go.Proofs.YtcdhkeahcliefaaGreatDoor.Kit Go.Proofs.YtcdhkeahcliefaaGreatDoor.Base Go.Proofs.YtcdhkeahcliefaaGreatDoor.Gram
set_option linter.unusedVariables false

def ints (st : List Int) : List Value := st.reverse.map fun p => .int .i64 p
theorem ints_cons (p : Int) (st : List Int) : ints (p :: st) = ints st ++ [.int .i64 p] := by
  unfold ints
  rw [List.reverse_cons, List.map_append]
  rfl
theorem ints_len (st : List Int) : (ints st).length = st.length := by simp [ints]
theorem owns_take {w : World} {Z n m c : Nat} {e : TypeId} {A : Option Addr} {xs : List Value} (h : w.ownsRow Z e 1 (.slice A n c) n xs) (hm : m ≤ n) (hA : A ≠ none) : w.ownsRow Z e 1 (.slice A m c) m (xs.take m) := by
  obtain ⟨hl, h | ⟨g, cap, cur, hv, hb, hg, h1, h2, h3, h4⟩⟩ := h
  · obtain ⟨h0, _⟩ := h
    cases h0
    exact absurd rfl hA
  · cases hv
    refine ⟨?_, .inr ⟨g, _, cur, rfl, hb, hg, Nat.le_trans hm h1, h2, h3, ?_⟩⟩
    · rw [List.length_take, hl]
      omega
    · rw [← h4, List.take_take, Nat.mul_one, Nat.mul_one, Nat.min_eq_left hm]
/-- a stack of one's own -/
def Stk (Z : Nat) (w : World) (A : Option Addr) (c : Nat) (st : List Int) : Prop := w.ownsRow Z 3 1 (.slice A st.length c) st.length (ints st)
theorem Stk.pop {Z : Nat} {w : World} {A : Option Addr} {c : Nat} {p : Int} {st : List Int} (h : Stk Z w A c (p :: st)) : Stk Z w A c st := by
  have hA : A ≠ none := by
    intro e
    subst e
    rcases h.2 with ⟨h0, hn⟩ | ⟨g, cap, cur, hv, _⟩
    · simp at hn
    · cases hv
  have h2 := owns_take (m := st.length) h (by simp) hA
  rw [ints_cons, List.take_left' (ints_len st)] at h2
  exact h2
theorem Stk.top {Z : Nat} {w : World} {A : Option Addr} {c : Nat} {p : Int} {st : List Int} (h : Stk Z w A c (p :: st)) : ∃ ad, A = some ad ∧ w.cell? (ad.add st.length) = some (.int .i64 p) ∧ st.length + 1 ≤ c := by
  obtain ⟨A', c', e, hc⟩ := owns_slice h
  cases e
  obtain ⟨ad, hA, hcell⟩ := hc st.length (.int .i64 p) (by rw [ints_cons, List.getElem?_append_right (by rw [ints_len]; exact Nat.le_refl _), ints_len]; simp)
  refine ⟨ad, hA, hcell, ?_⟩
  rcases h.2 with ⟨h0, hn⟩ | ⟨g, cap, cur, hv, _, _, h1, _⟩
  · simp at hn
  · cases hv
    exact h1
theorem unary_nil : unaryF [] = [] := rfl
theorem unary_pre (st : List Int) : unaryF (2 :: st) = unaryF st := if_pos rfl
theorem unary_other {p : Int} (st : List Int) (h : p ≠ 2) : unaryF (p :: st) = p :: st := if_neg h
theorem unary_len (st : List Int) : (unaryF st).length ≤ st.length := by
  induction st with
  | nil => exact Nat.le_refl _
  | cons p st ih =>
    by_cases h : p = 2
    · subst h; rw [unary_pre]; simp; omega
    · rw [unary_other st h]; exact Nat.le_refl _
set_option maxRecDepth 100000 in
set_option maxHeartbeats 1600000 in
theorem unary_any (Z : Nat) (A : Option Addr) (c : Nat) (st0 : List Int) (w : World) (h : Hid (Stk Z w A c st0)) (hn : st0.length ≤ 100) :
    Calls Tryz.prog 41 #[.slice A st0.length c] w fun e w' => e = .returned (.slice A (unaryF st0).length c) ∧ Hid (Stk Z w A c (unaryF st0)) ∧ w' = w := by
  have HN : Hid (st0.length ≤ 100) := hn
  obtain ⟨n, hn1⟩ : ∃ n, st0.length = n := ⟨_, rfl⟩
  have HN1 := Lib.hid hn1
  obtain ⟨R, hR⟩ : ∃ R, unaryF st0 = R := ⟨_, rfl⟩
  have HR := Lib.hid hR
  rw [hn1, hR]
  clear hn hn1 hR
  go_enter Tryz.func41, Tryz.ntmps41
  go_wp2_with fail
  go_loopg [0] (n + 1) (fun g s wr => ∃ (st : List Int), st.length < g ∧ s = .slice A st.length c ∧ wr = w ∧ Hid (Stk Z w A c st) ∧ Hid (unaryF st = R) ∧ Hid (st.length ≤ 100))
  case atStart => exact ⟨st0, by rw [HN1.out]; omega, by rw [HN1.out], rfl, h, HR, HN⟩
  case round =>
    obtain ⟨st, hlt, rfl, rfl, hs, hu, hl⟩ := hrel
    have HLT := Lib.hid hlt
    cases st with
    | nil =>
      have HE : Hid (R = []) := hu.out.symm
      rw [show ([] : List Int).length = 0 from rfl] at *
      clear hlt
      go_wp2_with fail
      go_ret
      exact ⟨by rw [HE.out]; rfl, by rw [HE.out]; exact hs, rfl⟩
    | cons p st =>
      obtain ⟨ad, hA, hc, hcap⟩ := hs.out.top
      have HL9 := hl.out
      obtain ⟨m, hm⟩ : ∃ m, st.length = m := ⟨_, rfl⟩
      have HM := Lib.hid hm
      rw [show (p :: st).length = st.length + 1 from rfl, hm] at HL9 ⊢
      rw [hm] at hc hcap
      have m9 : (m : Int) ≤ 100 := by omega
      have m0 : (0 : Int) ≤ (m : Int) := by omega
      have e0 : (0 : Int) < (m : Int) + 1 := by omega
      have W2 : (m : Int) + 1 - 1 = (m : Int) := by omega
      have W : IntKind.i64.wrap (m : Int) = (m : Int) := IntWalk.i64_in _ (by omega)
      have em : (m : Int) < (m : Int) + 1 := by omega
      have em2 : (m : Int) ≤ (c : Int) := by omega
      subst hA
      clear hm hlt HL9
      by_cases h2 : p = 2
      · have HU : Hid (unaryF st = R) := by show _ = _; rw [← hu.out, h2, unary_pre]
        have HS : Hid (Stk Z wr (some ad) c st) := hs.out.pop
        subst h2
        go_wp2_with fail
        go_roundg (m + 1)
        case measure => have := HLT.out; have := HM.out; simp at *; omega
        case rel => exact ⟨st, by rw [HM.out]; omega, by rw [HM.out], rfl, HS, HU, by have := hl.out; simp at this; show _ ≤ _; omega⟩
      · have HE : Hid (R = p :: st) := by show _ = _; rw [← hu.out, unary_other st h2]
        have e1 : (p == 2) = false := beq_eq_false_iff_ne.2 h2
        clear h2
        go_wp2_with fail
        go_ret
        exact ⟨by rw [HE.out, ← HM.out]; rfl, by rw [HE.out]; exact hs, rfl⟩
end Go.Proofs.YtcdhkeahcliefaaGreatDoor.RefB
