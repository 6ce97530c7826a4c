/- The program's parser.term at every word. What the words of a query are as a whole: plain. The program's parser: unit and its closure, given the same one level deeper. -/
import Derived.Test.YtcdhkeahcliefaaGreatDoorPrint17
import Derived.Test.YtcdhkeahcliefaaGreatDoorPrint18
import Derived.Test.YtcdhkeahcliefaaGreatDoorPrint19
import Derived.Test.YtcdhkeahcliefaaGreatDoorPrint16
/- The program's parser.term at every word. -/
namespace Go.Proofs.YtcdhkeahcliefaaGreatDoor.TermG
open Go.ChangeShapes Go.WideShapes Go.ChangeAt Go.RowKit
open Go.Proofs.YtcdhkeahcliefaaGreatDoor.Kit Go.Proofs.YtcdhkeahcliefaaGreatDoor.Base Go.Proofs.YtcdhkeahcliefaaGreatDoor.Tok Go.Proofs.YtcdhkeahcliefaaGreatDoor.TokE Go.Proofs.YtcdhkeahcliefaaGreatDoor.Term Go.Proofs.YtcdhkeahcliefaaGreatDoor.TermB Go.Proofs.YtcdhkeahcliefaaGreatDoor.TermC Go.Proofs.YtcdhkeahcliefaaGreatDoor.TermD Go.Proofs.YtcdhkeahcliefaaGreatDoor.TermE Go.Proofs.YtcdhkeahcliefaaGreatDoor.TermF
set_option linter.unusedVariables false
theorem term_any (p : Pw) (i o : Nat) (x : List UInt8) (w : World) (hp : Hid p.Ok) (h : Hid (Pr p w i o)) (hw : Hid (∀ x ∈ p.ws, x.length ≤ 1023)) :
    Calls Tryz.prog 70 #[.pointer (some ⟨p.P, 0, none⟩), .string (str x)] w (TermPost p i o (leaf x (p.ws.drop i))) := by
  cases hf : isField x
  · by_cases h0 : x = [97, 108, 108]
    · exact leaf_0 p i o x w h (.inl h0)
    by_cases h1 : x = [101, 109, 112, 116, 121]
    · exact leaf_0 p i o x w h (.inr (.inl h1))
    by_cases h2 : x = [115, 112, 97, 114, 115, 101]
    · exact leaf_0 p i o x w h (.inr (.inr h2))
    by_cases h3 : x = [107, 105, 110, 100]
    · subst h3; exact leaf_kind p i o w hp h hw
    by_cases h4 : x = [110, 97, 109, 101]
    · subst h4; exact leaf_name p i o w hp h hw
    by_cases h5 : x = [112, 97, 116, 104]
    · subst h5; exact leaf_path p i o w hp h hw
    by_cases h6 : x = [116, 97, 114, 103, 101, 116]
    · subst h6; exact leaf_target p i o w hp h hw
    by_cases h7 : x = [117, 110, 100, 101, 114]
    · subst h7; exact leaf_under p i o w hp h hw
    by_cases h8 : x = [115, 97, 109, 101]
    · subst h8; exact leaf_same p i o w hp h hw
    by_cases h9 : x = [104, 111, 108, 100, 115]
    · subst h9; exact leaf_holds p i o w hp h hw
    by_cases h10 : x = [98, 101, 103, 105, 110, 115]
    · subst h10; exact leaf_begins p i o w hp h hw
    exact leaf_none p i o x w h hf h0 h1 h2 h3 h4 h5 h6 h7 h8 h9 h10
  · exact leaf_field p i o x w hp h hf
end Go.Proofs.YtcdhkeahcliefaaGreatDoor.TermG
/- What the words of a query are as a whole: plain. -/
namespace Go.Proofs.YtcdhkeahcliefaaGreatDoor.Syn
open Go.Proofs.YtcdhkeahcliefaaGreatDoor.Term
set_option linter.unusedVariables false

abbrev W := List UInt8
abbrev Res := Except Int (Term × Nat)
def wNot : W := [110, 111, 116]
def wHas : W := [104, 97, 115]
def wOpen : W := [40]
def wShut : W := [41]
def wAnd : W := [97, 110, 100]
def wOr : W := [111, 114]
def bump (k : Nat) (f : Term → Term) : Res → Res
  | .ok (t, j) => .ok (f t, j + k)
  | .error e => .error e
def flatB : Term → List Term
  | .both l => l
  | t => [t]
def flatE : Term → List Term
  | .either l => l
  | t => [t]
def packB : List Term → Term
  | [t] => t
  | l => .both l
def packE : List Term → Term
  | [t] => t
  | l => .either l
/-- things one behind another with a word between them -/
def seqF (one : List W → Res) (kw : W) (fl : Term → List Term) : Nat → List W → Except Int (List Term × Nat)
  | 0, _ => .error 191
  | f + 1, r =>
    match one r with
    | .error e => .error e
    | .ok (t, j) =>
      if (r.drop j).head? = some kw then
        match seqF one kw fl f (r.drop (j + 1)) with
        | .error e => .error e
        | .ok (l, k) => .ok (fl t ++ l, j + 1 + k)
      else .ok (fl t, j)
def pk (f : List Term → Term) : Except Int (List Term × Nat) → Res
  | .ok (l, k) => .ok (f l, k)
  | .error e => .error e
def andF (one : List W → Res) (r : List W) : Res := pk packB (seqF one wAnd flatB (r.length + 1) r)
def orF (one : List W → Res) (r : List W) : Res := pk packE (seqF (andF one) wOr flatE (r.length + 1) r)
/-- behind a bracket -/
def closeF (r : List W) : Res → Res
  | .ok (t, j) => if (r.drop j).head? = some wShut then .ok (t, j + 1) else .error 191
  | .error e => .error e
/-- a unit where n may be opened still -/
noncomputable def unitF : Nat → List W → Res
  | 0 => fun r => match r with
    | [] => .error 191
    | x :: r => if x = wNot ∨ x = wHas ∨ x = wOpen then .error 192 else bump 1 id (leaf x r)
  | n + 1 => fun r => match r with
    | [] => .error 191
    | x :: r =>
      if x = wNot then bump 1 .not (unitF n r)
      else if x = wHas then bump 1 .has (unitF n r)
      else if x = wOpen then bump 1 id (closeF r (orF (unitF n) r))
      else bump 1 id (leaf x r)
theorem unitF_nil (n : Nat) : unitF n [] = .error 191 := by
  cases n <;> rfl
theorem unitF_deep {x : W} (r : List W) (h : x = wNot ∨ x = wHas ∨ x = wOpen) : unitF 0 (x :: r) = .error 192 := if_pos h
theorem unitF_not (n : Nat) (r : List W) : unitF (n + 1) (wNot :: r) = bump 1 .not (unitF n r) := by
  rw [unitF]
  exact if_pos rfl
theorem unitF_has (n : Nat) (r : List W) : unitF (n + 1) (wHas :: r) = bump 1 .has (unitF n r) := by
  rw [unitF]
  show (if wHas = wNot then _ else _) = _
  rw [if_neg (by decide)]
  exact if_pos rfl
theorem unitF_open (n : Nat) (r : List W) : unitF (n + 1) (wOpen :: r) = bump 1 id (closeF r (orF (unitF n) r)) := by
  rw [unitF]
  show (if wOpen = wNot then _ else _) = _
  rw [if_neg (by decide), if_neg (by decide)]
  exact if_pos rfl
theorem unitF_leaf {x : W} (n : Nat) (r : List W) (h1 : x ≠ wNot) (h2 : x ≠ wHas) (h3 : x ≠ wOpen) : unitF n (x :: r) = bump 1 id (leaf x r) := by
  cases n with
  | zero => exact if_neg (by rintro (h | h | h) <;> contradiction)
  | succ n => exact (if_neg h1).trans ((if_neg h2).trans (if_neg h3))
/-- a whole query's words -/
noncomputable def parseF (ws : List W) : Except Int Term :=
  match orF (unitF 16) ws with
  | .error e => .error e
  | .ok (t, j) => if j < ws.length then .error 191 else .ok t
/-- what is known of a term that j words are -/
def PB (t : Term) (j : Nat) : Prop := 1 ≤ j ∧ (flatB t).length ≤ j ∧ (flatE t).length ≤ j ∧ (∀ l, t = .both l → 2 ≤ l.length) ∧ (∀ l, t = .either l → 2 ≤ l.length)
def Fine (one : List W → Res) : Prop := ∀ r t j, one r = .ok (t, j) → PB t j ∧ j ≤ r.length
theorem PB.one_both {t : Term} {j : Nat} (h : PB t j) : 1 ≤ (flatB t).length := by
  unfold flatB
  split
  · rename_i l
    have := h.2.2.2.1 l rfl
    omega
  · exact Nat.le_refl _
theorem PB.one_either {t : Term} {j : Nat} (h : PB t j) : 1 ≤ (flatE t).length := by
  unfold flatE
  split
  · rename_i l
    have := h.2.2.2.2 l rfl
    omega
  · exact Nat.le_refl _
theorem PB.mono {t : Term} {j k : Nat} (h : PB t j) (hk : j ≤ k) : PB t k := ⟨Nat.le_trans h.1 hk, Nat.le_trans h.2.1 hk, Nat.le_trans h.2.2.1 hk, h.2.2.2⟩
theorem PB.pack_flatB {t : Term} {j : Nat} (h : PB t j) : packB (flatB t) = t := by
  cases t with
  | both l =>
    have := h.2.2.2.1 l rfl
    match l, this with
    | _ :: _ :: _, _ => rfl
  | _ => rfl
theorem PB.pack_flatE {t : Term} {j : Nat} (h : PB t j) : packE (flatE t) = t := by
  cases t with
  | either l =>
    have := h.2.2.2.2 l rfl
    match l, this with
    | _ :: _ :: _, _ => rfl
  | _ => rfl
theorem packB_many {l : List Term} (h : 2 ≤ l.length) : packB l = .both l := by
  match l, h with
  | _ :: _ :: _, _ => rfl
theorem packE_many {l : List Term} (h : 2 ≤ l.length) : packE l = .either l := by
  match l, h with
  | _ :: _ :: _, _ => rfl
theorem head_len {r : List W} {j : Nat} {kw : W} (h : (r.drop j).head? = some kw) : j < r.length := by
  apply Nat.lt_of_not_le
  intro hh
  rw [List.drop_eq_nil_of_le hh] at h
  cases h
theorem seq_fine {one : List W → Res} {kw : W} {fl : Term → List Term} (hf : Fine one) (hlo : ∀ t j, PB t j → 1 ≤ (fl t).length) (hhi : ∀ t j, PB t j → (fl t).length ≤ j) :
    ∀ f r l j, seqF one kw fl f r = .ok (l, j) → j ≤ r.length ∧ ((∃ t, one r = .ok (t, j) ∧ l = fl t) ∨ (2 ≤ l.length ∧ l.length ≤ j)) := by
  intro f
  induction f with
  | zero => intro r l j h; cases h
  | succ f ih =>
    intro r l j h
    cases ho : one r with
    | error e => simp only [seqF, ho] at h; cases h
    | ok x =>
      obtain ⟨t, i⟩ := x
      obtain ⟨hp, hi⟩ := hf r t i ho
      by_cases hh : (r.drop i).head? = some kw
      · have hlt := head_len hh
        cases hq : seqF one kw fl f (r.drop (i + 1)) with
        | error e => simp only [seqF, ho, if_pos hh, hq] at h; cases h
        | ok y =>
          obtain ⟨l2, k⟩ := y
          simp only [seqF, ho, if_pos hh, hq] at h
          injection h with h
          injection h with h1 h2
          subst h1 h2
          obtain ⟨h3, h4⟩ := ih _ _ _ hq
          rw [List.length_drop] at h3
          refine ⟨by omega, .inr ?_⟩
          rw [List.length_append]
          have a1 := hlo t i hp
          have a2 := hhi t i hp
          rcases h4 with ⟨t2, h5, rfl⟩ | ⟨h5, h6⟩
          · obtain ⟨hp2, _⟩ := hf _ _ _ h5
            have a3 := hlo t2 k hp2
            have a4 := hhi t2 k hp2
            omega
          · omega
      · simp only [seqF, ho, if_neg hh] at h
        injection h with h
        injection h with h1 h2
        subst h1 h2
        exact ⟨hi, .inl ⟨t, rfl, rfl⟩⟩
theorem pb_leaf {t : Term} {j : Nat} (h1 : 1 ≤ j) (hb : ∀ l, t ≠ .both l) (he : ∀ l, t ≠ .either l) : PB t j := by
  refine ⟨h1, ?_, ?_, fun l h => absurd h (hb l), fun l h => absurd h (he l)⟩
  · unfold flatB
    split
    · exact absurd rfl (hb _)
    · exact h1
  · unfold flatE
    split
    · exact absurd rfl (he _)
    · exact h1
theorem pk_ok {f : List Term → Term} {r : Except Int (List Term × Nat)} {t : Term} {j : Nat} (h : pk f r = .ok (t, j)) : ∃ l, r = .ok (l, j) ∧ t = f l := by
  cases r with
  | error e => cases h
  | ok x =>
    obtain ⟨l, k⟩ := x
    injection h with h
    injection h with h1 h2
    subst h1 h2
    exact ⟨l, rfl, rfl⟩
theorem and_fine {one : List W → Res} (hf : Fine one) : Fine (andF one) := by
  intro r t j h
  obtain ⟨l, h1, rfl⟩ := pk_ok h
  obtain ⟨h2, h3⟩ := seq_fine hf (fun t j => PB.one_both) (fun t j h => h.2.1) _ _ _ _ h1
  rcases h3 with ⟨t, h4, rfl⟩ | ⟨h4, h5⟩
  · obtain ⟨hp, _⟩ := hf _ _ _ h4
    rw [hp.pack_flatB]
    exact ⟨hp, h2⟩
  · rw [packB_many h4]
    refine ⟨⟨by omega, h5, by show 1 ≤ j; omega, fun l' e => ?_, fun l' e => (by cases e)⟩, h2⟩
    injection e with e
    subst e
    exact h4
theorem or_fine {one : List W → Res} (hf : Fine (andF one)) : Fine (orF one) := by
  intro r t j h
  obtain ⟨l, h1, rfl⟩ := pk_ok h
  obtain ⟨h2, h3⟩ := seq_fine hf (fun t j => PB.one_either) (fun t j h => h.2.2.1) _ _ _ _ h1
  rcases h3 with ⟨t, h4, rfl⟩ | ⟨h4, h5⟩
  · obtain ⟨hp, _⟩ := hf _ _ _ h4
    rw [hp.pack_flatE]
    exact ⟨hp, h2⟩
  · rw [packE_many h4]
    refine ⟨⟨by omega, by show 1 ≤ j; omega, h5, fun l' e => (by cases e), fun l' e => ?_⟩, h2⟩
    injection e with e
    subst e
    exact h4
theorem bump_ok {k : Nat} {f : Term → Term} {r : Res} {t : Term} {j : Nat} (h : bump k f r = .ok (t, j)) : ∃ t' j', r = .ok (t', j') ∧ t = f t' ∧ j = j' + k := by
  cases r with
  | error e => cases h
  | ok x =>
    obtain ⟨t', j'⟩ := x
    injection h with h
    injection h with h1 h2
    exact ⟨t', j', rfl, h1.symm, h2.symm⟩
theorem leaf_fine {x : W} {r : List W} {t : Term} {k : Nat} (h : leaf x r = .ok (t, k)) : k ≤ r.length ∧ (∀ l, t ≠ .both l) ∧ (∀ l, t ≠ .either l) := by
  revert h
  unfold leaf
  repeat' split
  all_goals (intro h; first | (cases h; refine ⟨by simp, ?_, ?_⟩ <;> intro l e <;> cases e) | cases h)
theorem leaf_bump {x : W} {r : List W} {t : Term} {j : Nat} (h : bump 1 id (leaf x r) = .ok (t, j)) : PB t j ∧ j ≤ (x :: r).length := by
  obtain ⟨t', j', h1, rfl, rfl⟩ := bump_ok h
  obtain ⟨h2, h3, h4⟩ := leaf_fine h1
  exact ⟨pb_leaf (by omega) h3 h4, by simpa using h2⟩
theorem unit_fine : ∀ n, Fine (unitF n) := by
  intro n
  induction n with
  | zero =>
    intro r t j h
    cases r with
    | nil => cases h
    | cons x r =>
      by_cases hx : x = wNot ∨ x = wHas ∨ x = wOpen
      · rw [unitF_deep r hx] at h; cases h
      · rw [unitF_leaf 0 r (fun h => hx (.inl h)) (fun h => hx (.inr (.inl h))) (fun h => hx (.inr (.inr h)))] at h
        exact leaf_bump h
  | succ n ih =>
    intro r t j h
    cases r with
    | nil => cases h
    | cons x r =>
      by_cases h1 : x = wNot
      · subst h1
        rw [unitF_not] at h
        obtain ⟨t', j', h2, rfl, rfl⟩ := bump_ok h
        obtain ⟨_, h3⟩ := ih _ _ _ h2
        exact ⟨pb_leaf (by omega) (fun l e => by cases e) (fun l e => by cases e), by simpa using h3⟩
      by_cases h2 : x = wHas
      · subst h2
        rw [unitF_has] at h
        obtain ⟨t', j', h2, rfl, rfl⟩ := bump_ok h
        obtain ⟨_, h3⟩ := ih _ _ _ h2
        exact ⟨pb_leaf (by omega) (fun l e => by cases e) (fun l e => by cases e), by simpa using h3⟩
      by_cases h3 : x = wOpen
      · subst h3
        rw [unitF_open] at h
        obtain ⟨t', j', h2, rfl, rfl⟩ := bump_ok h
        cases ho : orF (unitF n) r with
        | error e => rw [ho] at h2; cases h2
        | ok y =>
          obtain ⟨t2, k⟩ := y
          rw [ho] at h2
          by_cases hh : (r.drop k).head? = some wShut
          · have hlt := head_len hh
            simp only [closeF, if_pos hh] at h2
            injection h2 with h2
            injection h2 with h4 h5
            subst h4 h5
            obtain ⟨hp, hk⟩ := or_fine (and_fine ih) _ _ _ ho
            exact ⟨hp.mono (by omega), by simp; omega⟩
          · simp only [closeF, if_neg hh] at h2
            cases h2
      · rw [unitF_leaf _ r h1 h2 h3] at h
        exact leaf_bump h
/-- what is read so far ahead of what comes -/
def ext (acc : List Term) (k : Nat) : Except Int (List Term × Nat) → Except Int (List Term × Nat)
  | .ok (l, j) => .ok (acc ++ l, k + j)
  | .error e => .error e
theorem ext_nil (r : Except Int (List Term × Nat)) : ext [] 0 r = r := by
  cases r with
  | error e => rfl
  | ok x => obtain ⟨l, j⟩ := x; show Except.ok ([] ++ l, 0 + j) = _; rw [List.nil_append, Nat.zero_add]
section
variable {one : List W → Res} {kw : W} {fl : Term → List Term} {g : Nat} {r : List W} {acc : List Term} {k : Nat}
theorem ext_err {e : Int} (h : one r = .error e) : ext acc k (seqF one kw fl (g + 1) r) = .error e := by
  simp only [seqF, h, ext]
theorem ext_end {t : Term} {j : Nat} (h : one r = .ok (t, j)) (hh : (r.drop j).head? ≠ some kw) : ext acc k (seqF one kw fl (g + 1) r) = .ok (acc ++ fl t, k + j) := by
  simp only [seqF, h, if_neg hh, ext]
theorem ext_more {t : Term} {j : Nat} (h : one r = .ok (t, j)) (hh : (r.drop j).head? = some kw) : ext acc k (seqF one kw fl (g + 1) r) = ext (acc ++ fl t) (k + (j + 1)) (seqF one kw fl g (r.drop (j + 1))) := by
  simp only [seqF, h, if_pos hh]
  cases seqF one kw fl g (r.drop (j + 1)) with
  | error e => rfl
  | ok x =>
    obtain ⟨l, i⟩ := x
    simp only [ext, List.append_assoc, Nat.add_assoc]
end
end Go.Proofs.YtcdhkeahcliefaaGreatDoor.Syn
/- The program's parser: unit and its closure, given the same one level deeper. -/
namespace Go.Proofs.YtcdhkeahcliefaaGreatDoor.ParseU
open Go.ChangeShapes Go.WideShapes Go.ChangeAt Go.RowKit
open Go.Proofs.YtcdhkeahcliefaaGreatDoor.Kit Go.Proofs.YtcdhkeahcliefaaGreatDoor.Base Go.Proofs.YtcdhkeahcliefaaGreatDoor.PatA Go.Proofs.YtcdhkeahcliefaaGreatDoor.Tok Go.Proofs.YtcdhkeahcliefaaGreatDoor.TokB Go.Proofs.YtcdhkeahcliefaaGreatDoor.TokD Go.Proofs.YtcdhkeahcliefaaGreatDoor.Term Go.Proofs.YtcdhkeahcliefaaGreatDoor.TermB Go.Proofs.YtcdhkeahcliefaaGreatDoor.TermG Go.Proofs.YtcdhkeahcliefaaGreatDoor.Within Go.Proofs.YtcdhkeahcliefaaGreatDoor.Syn
set_option linter.unusedVariables false

def Words (p : Pw) : Prop := ∀ x ∈ p.ws, x.length ≤ 1023
def UnitC (o : Nat) : Prop := ∀ (p : Pw) (i : Nat) (w : World), Hid p.Ok → Hid (Words p) → Hid (Pr p w i o) → Calls Tryz.prog 53 #[.pointer (some ⟨p.P, 0, none⟩)] w (TermPost p i o (unitF (16 - o) (p.ws.drop i)))
def OrC (o : Nat) : Prop := ∀ (p : Pw) (i : Nat) (w : World), Hid p.Ok → Hid (Words p) → Hid (Pr p w i o) → Calls Tryz.prog 19 #[.pointer (some ⟨p.P, 0, none⟩)] w (TermPost p i o (orF (unitF (16 - o)) (p.ws.drop i)))
theorem bump_post {p : Pw} {i o : Nat} {r : Res} {e : Ending} {w' : World} (h : TermPost p (i + 1) o r e w') : TermPost p i o (bump 1 id r) e w' := by
  rcases h with ⟨x, rfl, h1, h2⟩ | ⟨t, j, v, rfl, h1, h2, h3⟩
  · exact .inl ⟨x, rfl, h1, h2⟩
  · exact .inr ⟨t, j + 1, v, rfl, h1, h2, by rw [show i + (j + 1) = i + 1 + j from by omega]; exact h3⟩
/-- a contract at the world at hand, for the parser as it was before -/
theorem post_back {p : Pw} {i o : Nat} {w : World} (h : Pr p w i o) {k : Nat} {r : Res} {e : Ending} {w' : World} (h2 : TermPost { p with w1 := w } k o r e w') : TermPost p k o r e w' := by
  rcases h2 with ⟨x, rfl, h3, h4⟩ | ⟨t, j, v, rfl, h3, h4, h5⟩
  · exact .inl ⟨x, rfl, h3, h4⟩
  · exact .inr ⟨t, j, v, rfl, h3, h4.out.mono (fun k _ hk => Nat.le_trans h.2.2.2.2.1.size hk), h.back h5.out⟩
def Bx (p : Pw) (B : Nat) (w : World) : Prop := Blk w B #[.pointer (some ⟨p.P, 0, none⟩)] 67 ∧ B ≠ p.P
theorem Bx.set {p : Pw} {B : Nat} {w : World} (h : Bx p B w) (u : Value) : Bx p B (w.setCell ⟨p.P, 2, none⟩ u) := ⟨h.1.far h.2 _, h.2⟩
theorem next_box (p : Pw) (i o B : Nat) (w : World) (hp : Hid p.Ok) (h : Hid (Pr p w i o)) (hb : Hid (Bx p B w)) (x : List UInt8) (hlt : i < p.ws.length) (hx : p.ws[i] = x) : Calls Tryz.prog 67 #[.pointer (some ⟨p.P, 0, none⟩)] w fun e w' => e = .returned (.string (str x)) ∧ Hid (Pr p w' (i + 1) o) ∧ Hid (Bx p B w') := by
  refine (next_word { p with w1 := w } i o w hp h.out.fresh x hlt hx).mono ?_
  rintro e w' ⟨rfl, h2⟩
  exact ⟨rfl, h.out.back h2.out, h2.out.blk hb.out.1 hb.out.2, hb.out.2⟩
/-- behind a bracket: the words behind it from i on -/
theorem close_none {p : Pw} {i j : Nat} {t : Term} (h : ¬ i + j < p.ws.length) : closeF (p.ws.drop i) (.ok (t, j)) = .error 191 := by
  show (if ((p.ws.drop i).drop j).head? = some wShut then _ else _) = _
  rw [if_neg (by rw [List.drop_drop, List.drop_eq_nil_of_le (by omega)]; simp)]
theorem close_some {p : Pw} {i j : Nat} {t : Term} {x : W} (h : i + j < p.ws.length) (hx : p.ws[i + j] = x) : closeF (p.ws.drop i) (.ok (t, j)) = if x = wShut then .ok (t, j + 1) else .error 191 := by
  show (if ((p.ws.drop i).drop j).head? = some wShut then _ else _) = _
  rw [List.drop_drop, List.drop_eq_getElem_cons h, hx]
  simp
set_option maxRecDepth 100000 in
set_option maxHeartbeats 1600000 in
theorem shut_any (p : Pw) (i o B : Nat) (w : World) (hor : Hid (OrC o)) (hp : Hid p.Ok) (hw : Hid (Words p)) (h : Hid (Pr p w i o)) (hb : Hid (Bx p B w)) :
    Calls Tryz.prog 69 #[.pointer (some ⟨B, 0, none⟩)] w (TermPost p i o (closeF (p.ws.drop i) (orF (unitF (16 - o)) (p.ws.drop i)))) := by
  have c1 : w.cell? ⟨B, 0, none⟩ = some (.pointer (some ⟨p.P, 0, none⟩)) := (hb.out.1.cell 0).trans rfl
  have g1 := hb.out.1.frozen 0
  have hpn := panics 191
  have HO := Lib.hid (hor.out { p with w1 := w } i w hp hw h.out.fresh)
  obtain ⟨r, hr⟩ : ∃ r, orF (unitF (16 - o)) (p.ws.drop i) = r := ⟨_, rfl⟩
  rw [show (({ p with w1 := w } : Pw).ws) = p.ws from rfl, hr] at HO
  rw [hr]
  clear hr
  go_enter Tryz.func69, Tryz.ntmps69
  go_wp2_with fail
  refine HO.out.mono ?_
  rintro e w2 (⟨x, rfl, he, h2⟩ | ⟨t, j, v, rfl, rfl, ht, h2⟩)
  · unfold Threw at he
    subst he
    go_wp2_with fail
    exact ⟨rfl, .inl ⟨_, rfl, rfl, h2⟩⟩
  · have hb2 : Hid (Bx p B w2) := ⟨h2.out.blk hb.out.1 hb.out.2, hb.out.2⟩
    have h3 : Hid (Pr p w2 (i + j) o) := h.out.back h2.out
    have ht2 : Hid (TermIs (fun k => p.w1.heap.size ≤ k) w2 v t) := ht.out.mono (fun k _ hk => Nat.le_trans h.out.2.2.2.2.1.size hk)
    have d1 : w2.cell? ⟨B, 0, none⟩ = some (.pointer (some ⟨p.P, 0, none⟩)) := (hb2.out.1.cell 0).trans rfl
    have f1 := hb2.out.1.frozen 0
    clear HO ht h2
    by_cases hlt : i + j < p.ws.length
    · obtain ⟨x, hx⟩ : ∃ x, p.ws[i + j] = x := ⟨_, rfl⟩
      have HC := Lib.hid (close_some (t := t) hlt hx)
      have HN := Lib.hid (next_word { p with w1 := w2 } (i + j) o w2 hp h3.out.fresh x hlt hx)
      clear hlt hx
      by_cases hs : x = wShut
      · have HC2 : Hid (closeF (p.ws.drop i) (.ok (t, j)) = .ok (t, j + 1)) := HC.out.trans (if_pos hs)
        subst hs
        rw [show str wShut = ⟨#[41]⟩ from rfl] at HN
        go_wp2_with fail
        refine HN.out.mono ?_
        rintro e w3 ⟨rfl, h4⟩
        go_wp2_with fail
        go_ret
        exact .inr ⟨t, j + 1, v, HC2.out, rfl, ht2.out.chg h4.out.2.2.2.2.1 (fun k (hk : p.w1.heap.size ≤ k) (e : k = p.P) => by have := h.out.2.2.2.2.2; omega), h3.out.back h4.out⟩
      · have HC2 : Hid (closeF (p.ws.drop i) (.ok (t, j)) = .error 191) := HC.out.trans (if_neg hs)
        have hne := ne_list hs
        rw [show wShut = [41] from rfl] at hne
        clear hs
        go_wp2_with fail
        refine HN.out.mono ?_
        rintro e w3 ⟨rfl, h4⟩
        go_wp2_with fail
        exact ⟨rfl, .inl ⟨_, HC2.out, rfl, h4.out.1⟩⟩
    · have HC := Lib.hid (close_none (t := t) hlt)
      have HN := Lib.hid (next_end p (i + j) o w2 hp h3 hlt)
      clear hlt
      go_wp2_with fail
      refine HN.out.mono ?_
      rintro e w3 ⟨he, h4⟩
      unfold Threw at he
      subst he
      go_wp2_with fail
      exact ⟨rfl, .inl ⟨_, HC.out, rfl, h4⟩⟩
theorem deep_not {p : Pw} {i o : Nat} (hi : i < p.ws.length) (hx : p.ws[i] = wNot) (ho : o ≤ 16) : unitF (16 - o) (p.ws.drop i) = bump 1 .not (deeper o (unitF (16 - (o + 1)) (p.ws.drop (i + 1)))) := by
  rw [List.drop_eq_getElem_cons hi, hx]
  by_cases h : o = 16
  · subst h; exact unitF_deep _ (.inl rfl)
  · rw [show 16 - o = (16 - (o + 1)) + 1 from by omega, unitF_not]
    unfold deeper
    rw [if_neg h]
theorem deep_has {p : Pw} {i o : Nat} (hi : i < p.ws.length) (hx : p.ws[i] = wHas) (ho : o ≤ 16) : unitF (16 - o) (p.ws.drop i) = bump 1 .has (deeper o (unitF (16 - (o + 1)) (p.ws.drop (i + 1)))) := by
  rw [List.drop_eq_getElem_cons hi, hx]
  by_cases h : o = 16
  · subst h; exact unitF_deep _ (.inr (.inl rfl))
  · rw [show 16 - o = (16 - (o + 1)) + 1 from by omega, unitF_has]
    unfold deeper
    rw [if_neg h]
theorem deep_open {p : Pw} {i o : Nat} (hi : i < p.ws.length) (hx : p.ws[i] = wOpen) (ho : o ≤ 16) : unitF (16 - o) (p.ws.drop i) = bump 1 id (deeper o (closeF (p.ws.drop (i + 1)) (orF (unitF (16 - (o + 1))) (p.ws.drop (i + 1))))) := by
  rw [List.drop_eq_getElem_cons hi, hx]
  by_cases h : o = 16
  · subst h; exact unitF_deep _ (.inr (.inr rfl))
  · rw [show 16 - o = (16 - (o + 1)) + 1 from by omega, unitF_open]
    unfold deeper
    rw [if_neg h]
theorem deep_leaf {p : Pw} {i o : Nat} {x : W} (hi : i < p.ws.length) (hx : p.ws[i] = x) (h1 : x ≠ wNot) (h2 : x ≠ wHas) (h3 : x ≠ wOpen) : unitF (16 - o) (p.ws.drop i) = bump 1 id (leaf x (p.ws.drop (i + 1))) := by
  rw [List.drop_eq_getElem_cons hi, hx, unitF_leaf _ _ h1 h2 h3]
theorem deep_end {p : Pw} {i o : Nat} (hi : ¬ i < p.ws.length) : unitF (16 - o) (p.ws.drop i) = .error 191 := by
  rw [List.drop_eq_nil_of_le (by omega), unitF_nil]
theorem term_iface {S : Nat → Prop} {w : World} {v : Value} {t : Term} (h : TermIs S w v t) : ∃ T x, v = .iface T x := by
  cases h <;> exact ⟨_, _, rfl⟩
theorem box_new {p : Pw} {w : World} {i o : Nat} (h : Hid (Pr p w i o)) : Hid (Pr p (w.alloc (.cells #[.pointer (some ⟨p.P, 0, none⟩)] 67)) i o) ∧ Hid (Bx p w.heap.size (w.alloc (.cells #[.pointer (some ⟨p.P, 0, none⟩)] 67))) :=
  ⟨h.out.next ((Below.refl _ _).alloc (Nat.le_refl _) _), Blk.new w _ _, by have := h.out.2.1.lt; omega⟩
set_option maxRecDepth 100000 in
set_option maxHeartbeats 3200000 in
theorem unit_not (o : Nat) (hu : Hid (o < 16 → UnitC (o + 1))) (hor : Hid (o < 16 → OrC (o + 1))) (p : Pw) (i : Nat) (w0 : World) (hp : Hid p.Ok) (hw : Hid (Words p)) (h0 : Hid (Pr p w0 i o)) (hlt : i < p.ws.length) (hx : p.ws[i] = wNot) : Calls Tryz.prog 53 #[.pointer (some ⟨p.P, 0, none⟩)] w0 (TermPost p i o (unitF (16 - o) (p.ws.drop i))) := by
    have HO9 : Hid (o ≤ 16) := h0.out.2.2.2.1
    have HN := Lib.hid (fun B w h hb => next_box p i o B w hp h hb wNot hlt hx)
    rw [show str wNot = ⟨#[110, 111, 116]⟩ from rfl] at HN
    have HR := Lib.hid (deep_not hlt hx HO9.out)
    have HW := Lib.hid (fun B w2 (hb2 : Hid (Bx p B w2)) (h2 : Hid (Pr p w2 (i + 1) o)) => within_53 p (i + 1) o w2 (fun _ => True) trivial (fun _ _ _ => trivial) h2 (unitF (16 - (o + 1)) (p.ws.drop (i + 1))) (fun ho w hh _ => hu.out ho p (i + 1) w hp hw hh))
    obtain ⟨r, hr⟩ : ∃ r, deeper o (unitF (16 - (o + 1)) (p.ws.drop (i + 1))) = r := ⟨_, rfl⟩
    rw [hr] at HR HW
    rw [HR.out]
    clear hlt hx hr hu hor HR
    go_enter Tryz.func53, Tryz.ntmps53
    go_upto_region 1 with (fail)
    refine gen_world (fun w' => Hid (Pr p w' i o) ∧ Hid (Bx p w0.heap.size w')) (box_new h0) ?_
    clear h0
    generalize w0.heap.size = B
    rintro w ⟨h, hb⟩
    have c1 : w.cell? ⟨B, 0, none⟩ = some (.pointer (some ⟨p.P, 0, none⟩)) := (hb.out.1.cell 0).trans rfl
    have g1 := hb.out.1.frozen 0
    go_wp2_with fail
    refine (HN.out B w h hb).mono ?_
    rintro e w2 ⟨rfl, h2, hb2⟩
    have d1 : w2.cell? ⟨B, 0, none⟩ = some (.pointer (some ⟨p.P, 0, none⟩)) := (hb2.out.1.cell 0).trans rfl
    have f1 := hb2.out.1.frozen 0
    clear c1 g1 HN
    go_wp2_with fail
    refine (HW.out B w2 hb2 h2).mono ?_
    clear HW
    rintro e w3 (⟨x, rfl, he, h3⟩ | ⟨t, j, v, rfl, rfl, ht, h3⟩)
    · unfold Threw at he
      subst he
      go_wp2_with fail
      exact ⟨rfl, .inl ⟨_, rfl, rfl, h3⟩⟩
    · obtain ⟨T, y, rfl⟩ := term_iface ht.out
      go_wp2_with fail
      go_ret
      exact .inr ⟨_, _, _, rfl, rfl, .not ht.out, by rw [show i + (j + 1) = i + 1 + j from by omega]; exact h3⟩
set_option maxRecDepth 100000 in
set_option maxHeartbeats 3200000 in
theorem unit_has (o : Nat) (hu : Hid (o < 16 → UnitC (o + 1))) (hor : Hid (o < 16 → OrC (o + 1))) (p : Pw) (i : Nat) (w0 : World) (hp : Hid p.Ok) (hw : Hid (Words p)) (h0 : Hid (Pr p w0 i o)) (hlt : i < p.ws.length) (hx : p.ws[i] = wHas) : Calls Tryz.prog 53 #[.pointer (some ⟨p.P, 0, none⟩)] w0 (TermPost p i o (unitF (16 - o) (p.ws.drop i))) := by
    have HO9 : Hid (o ≤ 16) := h0.out.2.2.2.1
    have HN := Lib.hid (fun B w h hb => next_box p i o B w hp h hb wHas hlt hx)
    rw [show str wHas = ⟨#[104, 97, 115]⟩ from rfl] at HN
    have HR := Lib.hid (deep_has hlt hx HO9.out)
    have HW := Lib.hid (fun B w2 (hb2 : Hid (Bx p B w2)) (h2 : Hid (Pr p w2 (i + 1) o)) => within_53 p (i + 1) o w2 (fun _ => True) trivial (fun _ _ _ => trivial) h2 (unitF (16 - (o + 1)) (p.ws.drop (i + 1))) (fun ho w hh _ => hu.out ho p (i + 1) w hp hw hh))
    obtain ⟨r, hr⟩ : ∃ r, deeper o (unitF (16 - (o + 1)) (p.ws.drop (i + 1))) = r := ⟨_, rfl⟩
    rw [hr] at HR HW
    rw [HR.out]
    clear hlt hx hr hu hor HR
    go_enter Tryz.func53, Tryz.ntmps53
    go_upto_region 1 with (fail)
    refine gen_world (fun w' => Hid (Pr p w' i o) ∧ Hid (Bx p w0.heap.size w')) (box_new h0) ?_
    clear h0
    generalize w0.heap.size = B
    rintro w ⟨h, hb⟩
    have c1 : w.cell? ⟨B, 0, none⟩ = some (.pointer (some ⟨p.P, 0, none⟩)) := (hb.out.1.cell 0).trans rfl
    have g1 := hb.out.1.frozen 0
    go_wp2_with fail
    refine (HN.out B w h hb).mono ?_
    rintro e w2 ⟨rfl, h2, hb2⟩
    have d1 : w2.cell? ⟨B, 0, none⟩ = some (.pointer (some ⟨p.P, 0, none⟩)) := (hb2.out.1.cell 0).trans rfl
    have f1 := hb2.out.1.frozen 0
    clear c1 g1 HN
    go_wp2_with fail
    refine (HW.out B w2 hb2 h2).mono ?_
    clear HW
    rintro e w3 (⟨x, rfl, he, h3⟩ | ⟨t, j, v, rfl, rfl, ht, h3⟩)
    · unfold Threw at he
      subst he
      go_wp2_with fail
      exact ⟨rfl, .inl ⟨_, rfl, rfl, h3⟩⟩
    · obtain ⟨T, y, rfl⟩ := term_iface ht.out
      go_wp2_with fail
      go_ret
      exact .inr ⟨_, _, _, rfl, rfl, .has ht.out, by rw [show i + (j + 1) = i + 1 + j from by omega]; exact h3⟩
set_option maxRecDepth 100000 in
set_option maxHeartbeats 3200000 in
theorem unit_open (o : Nat) (hu : Hid (o < 16 → UnitC (o + 1))) (hor : Hid (o < 16 → OrC (o + 1))) (p : Pw) (i : Nat) (w0 : World) (hp : Hid p.Ok) (hw : Hid (Words p)) (h0 : Hid (Pr p w0 i o)) (hlt : i < p.ws.length) (hx : p.ws[i] = wOpen) : Calls Tryz.prog 53 #[.pointer (some ⟨p.P, 0, none⟩)] w0 (TermPost p i o (unitF (16 - o) (p.ws.drop i))) := by
    have HO9 : Hid (o ≤ 16) := h0.out.2.2.2.1
    have HN := Lib.hid (fun B w h hb => next_box p i o B w hp h hb wOpen hlt hx)
    rw [show str wOpen = ⟨#[40]⟩ from rfl] at HN
    have HR := Lib.hid (deep_open hlt hx HO9.out)
    have HW := Lib.hid (fun B w2 (hb2 : Hid (Bx p B w2)) (h2 : Hid (Pr p w2 (i + 1) o)) => within_69 p (i + 1) o B w2 (Bx p B) hb2 (fun _ u hh => hh.set u) h2 (closeF (p.ws.drop (i + 1)) (orF (unitF (16 - (o + 1))) (p.ws.drop (i + 1)))) (fun ho w hh hr => shut_any p (i + 1) (o + 1) B w (hor.out ho) hp hw hh hr))
    obtain ⟨r, hr⟩ : ∃ r, deeper o (closeF (p.ws.drop (i + 1)) (orF (unitF (16 - (o + 1))) (p.ws.drop (i + 1)))) = r := ⟨_, rfl⟩
    rw [hr] at HR HW
    rw [HR.out]
    clear hlt hx hr hu hor HR
    go_enter Tryz.func53, Tryz.ntmps53
    go_upto_region 1 with (fail)
    refine gen_world (fun w' => Hid (Pr p w' i o) ∧ Hid (Bx p w0.heap.size w')) (box_new h0) ?_
    clear h0
    generalize w0.heap.size = B
    rintro w ⟨h, hb⟩
    have c1 : w.cell? ⟨B, 0, none⟩ = some (.pointer (some ⟨p.P, 0, none⟩)) := (hb.out.1.cell 0).trans rfl
    have g1 := hb.out.1.frozen 0
    go_wp2_with fail
    refine (HN.out B w h hb).mono ?_
    rintro e w2 ⟨rfl, h2, hb2⟩
    have d1 : w2.cell? ⟨B, 0, none⟩ = some (.pointer (some ⟨p.P, 0, none⟩)) := (hb2.out.1.cell 0).trans rfl
    have f1 := hb2.out.1.frozen 0
    clear c1 g1 HN
    go_wp2_with fail
    refine (HW.out B w2 hb2 h2).mono ?_
    clear HW
    rintro e w3 (⟨x, rfl, he, h3⟩ | ⟨t, j, v, rfl, rfl, ht, h3⟩)
    · unfold Threw at he
      subst he
      go_wp2_with fail
      exact ⟨rfl, .inl ⟨_, rfl, rfl, h3⟩⟩
    · go_wp2_with fail
      go_ret
      exact .inr ⟨_, _, _, rfl, rfl, ht, by rw [show i + (j + 1) = i + 1 + j from by omega]; exact h3⟩
set_option maxRecDepth 100000 in
set_option maxHeartbeats 3200000 in
theorem unit_term (o : Nat) (p : Pw) (i : Nat) (w0 : World) (hp : Hid p.Ok) (hw : Hid (Words p)) (h0 : Hid (Pr p w0 i o)) (x : W) (hlt : i < p.ws.length) (hx : p.ws[i] = x) (h1 : x ≠ wNot) (h2 : x ≠ wHas) (h3 : x ≠ wOpen) : Calls Tryz.prog 53 #[.pointer (some ⟨p.P, 0, none⟩)] w0 (TermPost p i o (unitF (16 - o) (p.ws.drop i))) := by
    have HN := Lib.hid (fun B w h hb => next_box p i o B w hp h hb x hlt hx)
    have HR := Lib.hid (deep_leaf (o := o) hlt hx h1 h2 h3)
    have HT := Lib.hid (fun w2 h2 => term_any p (i + 1) o x w2 hp h2 hw)
    obtain ⟨r, hr⟩ : ∃ r, leaf x (p.ws.drop (i + 1)) = r := ⟨_, rfl⟩
    rw [hr] at HR HT
    rw [HR.out]
    clear hr HR
    have e1 := ne_list h1
    have e2 := ne_list h2
    have e3 := ne_list h3
    rw [show wNot = [110, 111, 116] from rfl] at e1
    rw [show wHas = [104, 97, 115] from rfl] at e2
    rw [show wOpen = [40] from rfl] at e3
    clear hlt hx h1 h2 h3
    go_enter Tryz.func53, Tryz.ntmps53
    go_upto_region 1 with (fail)
    refine gen_world (fun w' => Hid (Pr p w' i o) ∧ Hid (Bx p w0.heap.size w')) (box_new h0) ?_
    clear h0
    generalize w0.heap.size = B
    rintro w ⟨h, hb⟩
    have c1 : w.cell? ⟨B, 0, none⟩ = some (.pointer (some ⟨p.P, 0, none⟩)) := (hb.out.1.cell 0).trans rfl
    have g1 := hb.out.1.frozen 0
    go_wp2_with fail
    refine (HN.out B w h hb).mono ?_
    rintro e w2 ⟨rfl, h2, hb2⟩
    have d1 : w2.cell? ⟨B, 0, none⟩ = some (.pointer (some ⟨p.P, 0, none⟩)) := (hb2.out.1.cell 0).trans rfl
    have f1 := hb2.out.1.frozen 0
    clear c1 g1 HN
    go_wp2_with fail
    refine (HT.out w2 h2).mono ?_
    clear HT
    rintro e w3 (⟨x, rfl, he, h3⟩ | ⟨t, j, v, rfl, rfl, ht, h3⟩)
    · unfold Threw at he
      subst he
      go_wp2_with fail
      exact ⟨rfl, .inl ⟨_, rfl, rfl, h3⟩⟩
    · go_wp2_with fail
      go_ret
      exact .inr ⟨_, _, _, rfl, rfl, ht, by rw [show i + (j + 1) = i + 1 + j from by omega]; exact h3⟩
set_option maxRecDepth 100000 in
set_option maxHeartbeats 3200000 in
theorem unit_end (o : Nat) (p : Pw) (i : Nat) (w0 : World) (hp : Hid p.Ok) (h0 : Hid (Pr p w0 i o)) (hlt : ¬ i < p.ws.length) : Calls Tryz.prog 53 #[.pointer (some ⟨p.P, 0, none⟩)] w0 (TermPost p i o (unitF (16 - o) (p.ws.drop i))) := by
    have HN := Lib.hid (fun w h => next_end p i o w hp h hlt)
    have HR := Lib.hid (deep_end (o := o) hlt)
    rw [HR.out]
    clear hlt
    go_enter Tryz.func53, Tryz.ntmps53
    go_upto_region 1 with (fail)
    refine gen_world (fun w' => Hid (Pr p w' i o) ∧ Hid (Bx p w0.heap.size w')) (box_new h0) ?_
    clear h0
    generalize w0.heap.size = B
    rintro w ⟨h, hb⟩
    have c1 : w.cell? ⟨B, 0, none⟩ = some (.pointer (some ⟨p.P, 0, none⟩)) := (hb.out.1.cell 0).trans rfl
    have g1 := hb.out.1.frozen 0
    go_wp2_with fail
    refine (HN.out w h).mono ?_
    rintro e w3 ⟨he, h4⟩
    unfold Threw at he
    subst he
    go_wp2_with fail
    exact ⟨rfl, .inl ⟨_, rfl, rfl, h4⟩⟩
theorem unit_step (o : Nat) (hu : Hid (o < 16 → UnitC (o + 1))) (hor : Hid (o < 16 → OrC (o + 1))) : UnitC o := by
  intro p i w0 hp hw h0
  by_cases hlt : i < p.ws.length
  · by_cases h1 : p.ws[i] = wNot
    · exact unit_not o hu hor p i w0 hp hw h0 hlt h1
    by_cases h2 : p.ws[i] = wHas
    · exact unit_has o hu hor p i w0 hp hw h0 hlt h2
    by_cases h3 : p.ws[i] = wOpen
    · exact unit_open o hu hor p i w0 hp hw h0 hlt h3
    exact unit_term o p i w0 hp hw h0 _ hlt rfl h1 h2 h3
  · exact unit_end o p i w0 hp h0 hlt
end Go.Proofs.YtcdhkeahcliefaaGreatDoor.ParseU
