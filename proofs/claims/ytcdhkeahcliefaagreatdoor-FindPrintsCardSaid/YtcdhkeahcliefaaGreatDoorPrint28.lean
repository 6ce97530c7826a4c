/- The program's text at every term. The document's parts of a query's words are those of the program's parse: plain. The document's is, decimal. -/
import Derived.Test.YtcdhkeahcliefaaGreatDoorPrint26
import Derived.Test.YtcdhkeahcliefaaGreatDoorPrint27
import Derived.Test.YtcdhkeahcliefaaGreatDoorPrint20
import Derived.Test.YtcdhkeahcliefaaGreatDoorPrint25
import Derived.Test.YtcdhkeahcliefaaGreatDoorPrint02
/- The program's text at every term. -/
namespace Go.Proofs.YtcdhkeahcliefaaGreatDoor.TextH
open Go.ChangeShapes Go.WideShapes Go.ChangeAt Go.RowKit
open Go.Proofs.YtcdhkeahcliefaaGreatDoor.Kit Go.Proofs.YtcdhkeahcliefaaGreatDoor.Base Go.Proofs.YtcdhkeahcliefaaGreatDoor.Quo Go.Proofs.YtcdhkeahcliefaaGreatDoor.Term Go.Proofs.YtcdhkeahcliefaaGreatDoor.Syn Go.Proofs.YtcdhkeahcliefaaGreatDoor.Text Go.Proofs.YtcdhkeahcliefaaGreatDoor.TextA Go.Proofs.YtcdhkeahcliefaaGreatDoor.TextB Go.Proofs.YtcdhkeahcliefaaGreatDoor.TextC Go.Proofs.YtcdhkeahcliefaaGreatDoor.TextD Go.Proofs.YtcdhkeahcliefaaGreatDoor.TextE Go.Proofs.YtcdhkeahcliefaaGreatDoor.TextF Go.Proofs.YtcdhkeahcliefaaGreatDoor.TextG
open Go.Proofs.YtcdhkeahcliefaaGreatDoor.ParseU (term_iface)
set_option linter.unusedVariables false
set_option maxRecDepth 100000 in
set_option maxHeartbeats 3200000 in
theorem text_not {S : Nat → Prop} {w : World} {v : Value} {t : Term} (h : TermIs S w v t) (H : Hid (TextC w v t)) : TextC w (.iface 47 (.agg #[v])) (.not t) := by
  intro w1 hb ht hN
  obtain ⟨T, y, rfl⟩ := term_iface h
  have HQ : Hid (str (textT (.not t)) = ⟨#[110, 111, 116, 32]⟩ ++ str (brIf (isC t) (textT t))) := by
    show _ = _
    rw [show (⟨#[110, 111, 116, 32]⟩ : ByteArray) = str [110, 111, 116, 32] from rfl, str_append, textT]
  have HL : Hid ((brIf (isC t) (textT t)).length ≤ 65536) := by
    have h1 := hN.out
    have h2 := congrArg ByteArray.size HQ.out
    rw [show (⟨#[110, 111, 116, 32]⟩ : ByteArray) = str [110, 111, 116, 32] from rfl, str_append, str_size, str_size, List.length_append] at h2
    show _ ≤ _
    omega
  have hal : Below w1.heap.size w1 (w1.alloc (.cells #[.iface T y] 47)) := (Below.refl _ _).alloc (Nat.le_refl _) _
  have HT := Lib.hid (tight_any h H (w1.alloc (.cells #[.iface T y] 47)) (hb.out.trans (hal.mono hb.out.size)) (ht.out.below hal) HL)
  have HAL := Lib.hid hal
  have n1 : ¬ (9223372036854775807 < 4 + (str (brIf (isC t) (textT t))).size) := by have := HL.out; rw [str_size]; omega
  generalize brIf (isC t) (textT t) = bt at *
  have n43 : ∀ W, (Instr.typeAssert (.iface 47 (.agg #[.iface T y])) 32 43 true).run Tryz.prog W = .ok (.tuple #[.slice none 0 0, .bool false]) W := fun W => no43 W 47 _ (by decide)
  have n45 : ∀ W, (Instr.typeAssert (.iface 47 (.agg #[.iface T y])) 32 45 true).run Tryz.prog W = .ok (.tuple #[.slice none 0 0, .bool false]) W := fun W => no45 W 47 _ (by decide)
  have y47 : ∀ W, (Instr.typeAssert (.iface 47 (.agg #[.iface T y])) 32 47 true).run Tryz.prog W = .ok (.tuple #[(.agg #[.iface T y]), .bool true]) W := fun W => yes47 W _
  clear hal h H
  go_enter Tryz.func8, Tryz.ntmps8
  go_wp2_with fail
  refine HT.out.mono ?_
  rintro e w2 ⟨rfl, hb2⟩
  go_wp2_with fail
  go_ret
  exact ⟨by rw [HQ.out]; rfl, HAL.out.trans (hb2.out.mono HAL.out.size)⟩
set_option maxRecDepth 100000 in
set_option maxHeartbeats 3200000 in
theorem text_has {S : Nat → Prop} {w : World} {v : Value} {t : Term} (h : TermIs S w v t) (H : Hid (TextC w v t)) : TextC w (.iface 48 (.agg #[v])) (.has t) := by
  intro w1 hb ht hN
  obtain ⟨T, y, rfl⟩ := term_iface h
  have HQ : Hid (str (textT (.has t)) = ⟨#[104, 97, 115, 32]⟩ ++ str (brIf (isC t) (textT t))) := by
    show _ = _
    rw [show (⟨#[104, 97, 115, 32]⟩ : ByteArray) = str [104, 97, 115, 32] from rfl, str_append, textT]
  have HL : Hid ((brIf (isC t) (textT t)).length ≤ 65536) := by
    have h1 := hN.out
    have h2 := congrArg ByteArray.size HQ.out
    rw [show (⟨#[104, 97, 115, 32]⟩ : ByteArray) = str [104, 97, 115, 32] from rfl, str_append, str_size, str_size, List.length_append] at h2
    show _ ≤ _
    omega
  have hal : Below w1.heap.size w1 (w1.alloc (.cells #[.iface T y] 48)) := (Below.refl _ _).alloc (Nat.le_refl _) _
  have HT := Lib.hid (tight_any h H (w1.alloc (.cells #[.iface T y] 48)) (hb.out.trans (hal.mono hb.out.size)) (ht.out.below hal) HL)
  have HAL := Lib.hid hal
  have n1 : ¬ (9223372036854775807 < 4 + (str (brIf (isC t) (textT t))).size) := by have := HL.out; rw [str_size]; omega
  generalize brIf (isC t) (textT t) = bt at *
  have n43 : ∀ W, (Instr.typeAssert (.iface 48 (.agg #[.iface T y])) 32 43 true).run Tryz.prog W = .ok (.tuple #[.slice none 0 0, .bool false]) W := fun W => no43 W 48 _ (by decide)
  have n45 : ∀ W, (Instr.typeAssert (.iface 48 (.agg #[.iface T y])) 32 45 true).run Tryz.prog W = .ok (.tuple #[.slice none 0 0, .bool false]) W := fun W => no45 W 48 _ (by decide)
  have n47 : ∀ W, (Instr.typeAssert (.iface 48 (.agg #[.iface T y])) 32 47 true).run Tryz.prog W = .ok (.tuple #[.agg #[.nilIface], .bool false]) W := fun W => no47 W 48 _ (by decide)
  have y48 : ∀ W, (Instr.typeAssert (.iface 48 (.agg #[.iface T y])) 32 48 true).run Tryz.prog W = .ok (.tuple #[(.agg #[.iface T y]), .bool true]) W := fun W => yes48 W _
  clear hal h H
  go_enter Tryz.func8, Tryz.ntmps8
  go_wp2_with fail
  refine HT.out.mono ?_
  rintro e w2 ⟨rfl, hb2⟩
  go_wp2_with fail
  go_ret
  exact ⟨by rw [HQ.out]; rfl, HAL.out.trans (hb2.out.mono HAL.out.size)⟩
set_option maxRecDepth 100000 in
set_option maxHeartbeats 3200000 in
theorem text_both {S : Nat → Prop} {w : World} {A : Option Addr} {c : Nat} {vs : List Value} {l : List Term} (hn : vs.length = l.length) (hc : Hid (Cells S w A vs)) (hl : ∀ (i : Nat) (v : Value) (t : Term), vs[i]? = some v → l[i]? = some t → TermIs S w v t)
    (H : Hid (∀ (i : Nat) (v : Value) (t : Term), vs[i]? = some v → l[i]? = some t → TextC w v t)) : TextC w (.iface 45 (.slice A l.length c)) (.both l) := by
  intro w1 hb ht hN
  have HX : Hid (textT (.both l) = Lib.join (textsB l) [32, 97, 110, 100, 32]) := by show _ = _; rw [textT]
  rw [HX.out] at hN ⊢
  have HJ := Lib.hid (joined_and w A c vs l hn hc hl H w1 hb ht hN)
  generalize Lib.join (textsB l) [32, 97, 110, 100, 32] = jj at *
  clear hl hn
  have n43 : ∀ W, (Instr.typeAssert (.iface 45 (.slice A l.length c)) 32 43 true).run Tryz.prog W = .ok (.tuple #[.slice none 0 0, .bool false]) W := fun W => no43 W 45 _ (by decide)
  have y45 : ∀ W, (Instr.typeAssert (.iface 45 (.slice A l.length c)) 32 45 true).run Tryz.prog W = .ok (.tuple #[(.slice A l.length c), .bool true]) W := fun W => yes45 W _
  go_enter Tryz.func8, Tryz.ntmps8
  go_wp2_with fail
  refine HJ.out.mono ?_
  rintro e w2 ⟨rfl, hb2⟩
  go_wp2_with fail
  go_ret
  exact ⟨rfl, hb2⟩
set_option maxRecDepth 100000 in
set_option maxHeartbeats 3200000 in
theorem text_either {S : Nat → Prop} {w : World} {A : Option Addr} {c : Nat} {vs : List Value} {l : List Term} (hn : vs.length = l.length) (hc : Hid (Cells S w A vs)) (hl : ∀ (i : Nat) (v : Value) (t : Term), vs[i]? = some v → l[i]? = some t → TermIs S w v t)
    (H : Hid (∀ (i : Nat) (v : Value) (t : Term), vs[i]? = some v → l[i]? = some t → TextC w v t)) : TextC w (.iface 43 (.slice A l.length c)) (.either l) := by
  intro w1 hb ht hN
  have HX : Hid (textT (.either l) = Lib.join (textsE l) [32, 111, 114, 32]) := by show _ = _; rw [textT]
  rw [HX.out] at hN ⊢
  have HJ := Lib.hid (joined_or w A c vs l hn hc hl H w1 hb ht hN)
  generalize Lib.join (textsE l) [32, 111, 114, 32] = jj at *
  clear hl hn
  have y43 : ∀ W, (Instr.typeAssert (.iface 43 (.slice A l.length c)) 32 43 true).run Tryz.prog W = .ok (.tuple #[(.slice A l.length c), .bool true]) W := fun W => yes43 W _
  go_enter Tryz.func8, Tryz.ntmps8
  go_wp2_with fail
  refine HJ.out.mono ?_
  rintro e w2 ⟨rfl, hb2⟩
  go_wp2_with fail
  go_ret
  exact ⟨rfl, hb2⟩
theorem text_all2 {S : Nat → Prop} {w : World} {v : Value} {t : Term} (h : TermIs S w v t) : TextC w v t := by
  induction h with
  | all => exact fun w1 hb ht hN => text_all w1 ht hN
  | empty => exact fun w1 hb ht hN => text_empty w1 ht hN
  | sparse => exact fun w1 hb ht hN => text_sparse w1 ht hN
  | kind k => exact fun w1 hb ht hN => text_kind k w1 ht hN
  | field a h n hn => exact fun w1 hb ht hN => text_field a h n hn w1 ht hN
  | pattern a x pA pn pc => exact fun w1 hb ht hN => text_pattern a x pA pn pc w1 ht hN
  | under x => exact fun w1 hb ht hN => text_under x w1 ht hN
  | same x => exact fun w1 hb ht hN => text_same x w1 ht hN
  | content a x => exact fun w1 hb ht hN => text_content a x w1 ht hN
  | not h ih => exact text_not h ih
  | has h ih => exact text_has h ih
  | both vs l hn hc hl ih => exact text_both hn hc hl ih
  | either vs l hn hc hl ih => exact text_either hn hc hl ih
/-- the program's text of a term -/
theorem text_any {S : Nat → Prop} {w : World} {v : Value} {t : Term} (h : TermIs S w v t) (ht : Hid (Tabs w)) (hN : Hid ((textT t).length ≤ 65536)) : Calls Tryz.prog 8 #[v] w (TextPost (textT t) w) :=
  text_all2 h w (Below.refl _ _) ht hN
end Go.Proofs.YtcdhkeahcliefaaGreatDoor.TextH
/- The document's parts of a query's words are those of the program's parse: plain. -/
namespace Go.Proofs.YtcdhkeahcliefaaGreatDoor.Gram
open Go.Proofs.YtcdhkeahcliefaaGreatDoor.Term Go.Proofs.YtcdhkeahcliefaaGreatDoor.Syn
set_option linter.unusedVariables false

/-- a word with its part -/
structure Wd where
  (s : W) (p : Int)
def wordsOf (x : W) (r : List W) : List Wd := ⟨x, 5⟩ :: r.map fun y => ⟨y, 6⟩
def joinW (kw : W) : List (List Wd) → List Wd
  | [] => []
  | [a] => a
  | a :: b :: l => a ++ ⟨kw, 1⟩ :: joinW kw (b :: l)
/-- words with their parts that are this term: a unit, an and, an or -/
inductive D : Nat → List Wd → Term → Prop where
  | leaf {x : W} {r : List W} {t : Term} (h : leaf x r = .ok (t, r.length)) : D 0 (wordsOf x r) t
  | not {l : List Wd} {t : Term} (h : D 0 l t) : D 0 (⟨wNot, 2⟩ :: l) (.not t)
  | has {l : List Wd} {t : Term} (h : D 0 l t) : D 0 (⟨wHas, 2⟩ :: l) (.has t)
  | par {l : List Wd} {t : Term} (h : D 2 l t) : D 0 (⟨wOpen, 3⟩ :: (l ++ [⟨wShut, 4⟩])) t
  | and (l : List (List Wd × Term)) (hne : l ≠ []) (h : ∀ x ∈ l, D 0 x.1 x.2) : D 1 (joinW wAnd (l.map (·.1))) (packB ((l.map (·.2)).flatMap flatB))
  | or (l : List (List Wd × Term)) (hne : l ≠ []) (h : ∀ x ∈ l, D 1 x.1 x.2) : D 2 (joinW wOr (l.map (·.1))) (packE ((l.map (·.2)).flatMap flatE))
def unaryF : List Int → List Int
  | [] => []
  | p :: st => if p = 2 then unaryF st else p :: st
noncomputable def partsF (want : Bool) (st : List Int) (ws : List W) (acc : List Wd) : Except Int (List Wd) :=
  match ws with
  | [] => if want = true ∨ st ≠ [] then .error 191 else .ok acc
  | x :: r =>
    if want = false then
      if x = wOr ∨ x = wAnd then partsF true st r (acc ++ [⟨x, 1⟩])
      else if x = wShut then
        match st with
        | [] => .error 191
        | _ :: st' => partsF false (unaryF st') r (acc ++ [⟨x, 4⟩])
      else .error 191
    else if x = wNot ∨ x = wHas ∨ x = wOpen then
      if st.length = 16 then .error 192
      else partsF true ((if x = wOpen then 3 else 2) :: st) r (acc ++ [⟨x, if x = wOpen then 3 else 2⟩])
    else
      match leaf x r with
      | .error e => .error e
      | .ok (t, k) => partsF false (unaryF st) (r.drop k) (acc ++ wordsOf x (r.take k))
termination_by ws.length
decreasing_by
  all_goals simp_wf
  all_goals omega
theorem leaf_take {x : W} {r : List W} {t : Term} {k : Nat} (h : leaf x r = .ok (t, k)) : k ≤ r.length ∧ leaf x (r.take k) = .ok (t, (r.take k).length) := by
  unfold leaf at h ⊢
  split at h
  · rename_i hf
    rw [if_pos hf]
    split at h
    · rename_i a b r'
      split at h
      · rename_i h1
        split at h
        · rename_i h2
          injection h with h
          injection h with h3 h4
          subst h3 h4
          refine ⟨by simp, ?_⟩
          simp only [List.take_succ_cons, List.take_zero]
          rw [if_pos h1, if_pos h2]
          rfl
        · cases h
      · cases h
    · cases h
  · rename_i hf
    rw [if_neg hf]
    split at h
    · rename_i h0
      injection h with h
      injection h with h3 h4
      subst h3 h4
      rw [if_pos h0]
      exact ⟨Nat.zero_le _, rfl⟩
    · rename_i h0
      rw [if_neg h0]
      split at h
      · rename_i h1
        injection h with h
        injection h with h3 h4
        subst h3 h4
        rw [if_pos h1]
        exact ⟨Nat.zero_le _, rfl⟩
      · rename_i h1
        rw [if_neg h1]
        split at h
        · rename_i h2
          injection h with h
          injection h with h3 h4
          subst h3 h4
          rw [if_pos h2]
          exact ⟨Nat.zero_le _, rfl⟩
        · rename_i h2
          rw [if_neg h2]
          split at h
          · cases h
          · rename_i a r'
            have hk : k = 1 := by
              revert h
              repeat' split
              all_goals (intro h; first | (cases h; rfl) | cases h)
            subst hk
            refine ⟨by simp, ?_⟩
            simp only [List.take_succ_cons, List.take_zero]
            exact h
/-- a reader of things with whose words the parts agree; kws: what does not stand behind -/
def Good (lv : Nat) (kws : List W) (st : List Int) (one : List W → Res) : Prop := ∀ r acc,
  (∀ e, one r = .error e → partsF true st r acc = .error e) ∧
  (∀ t j, one r = .ok (t, j) → ∃ l, D lv l t ∧ l.map Wd.s = r.take j ∧ 1 ≤ j ∧ j ≤ r.length ∧ (∀ k ∈ kws, (r.drop j).head? ≠ some k) ∧ partsF true st r acc = partsF false (unaryF st) (r.drop j) (acc ++ l))
theorem parts_joint {st : List Int} {kw : W} {r : List W} {acc : List Wd} (hkw : kw = wOr ∨ kw = wAnd) : partsF false st (kw :: r) acc = partsF true st r (acc ++ [⟨kw, 1⟩]) := by
  rw [partsF.eq_def]
  dsimp only
  rw [if_pos rfl, if_pos hkw]
theorem join_cons (kw : W) (a : List Wd) (l : List (List Wd)) (h : l ≠ []) : joinW kw (a :: l) = a ++ ⟨kw, 1⟩ :: joinW kw l := by
  cases l with
  | nil => exact absurd rfl h
  | cons b l => rfl
theorem drop_head {r : List W} {j : Nat} {kw : W} (h : (r.drop j).head? = some kw) : r.drop j = kw :: r.drop (j + 1) ∧ j < r.length := by
  have hj : j < r.length := by
    apply Nat.lt_of_not_le
    intro hh
    rw [List.drop_eq_nil_of_le hh] at h
    cases h
  rw [List.drop_eq_getElem_cons hj] at h ⊢
  injection h with h
  rw [h]
  exact ⟨rfl, hj⟩
theorem seq_good {lv : Nat} {kws : List W} {st : List Int} {one : List W → Res} {kw : W} {fl : Term → List Term} (hst : unaryF st = st) (hkw : kw = wOr ∨ kw = wAnd) (h : Good lv kws st one) : ∀ f r acc, r.length < f →
    (∀ e, seqF one kw fl f r = .error e → partsF true st r acc = .error e) ∧
    (∀ l j, seqF one kw fl f r = .ok (l, j) → ∃ ps : List (List Wd × Term), ps ≠ [] ∧ (∀ x ∈ ps, D lv x.1 x.2) ∧ l = (ps.map (·.2)).flatMap fl ∧ (joinW kw (ps.map (·.1))).map Wd.s = r.take j ∧ 1 ≤ j ∧ j ≤ r.length ∧ (∀ k ∈ kw :: kws, (r.drop j).head? ≠ some k) ∧ partsF true st r acc = partsF false st (r.drop j) (acc ++ joinW kw (ps.map (·.1)))) := by
  intro f
  induction f with
  | zero => intro r acc hlt; omega
  | succ f ih =>
    intro r acc hlt
    obtain ⟨g1, g2⟩ := h r acc
    cases ho : one r with
    | error e =>
      refine ⟨fun e' he => ?_, fun l j he => ?_⟩
      · simp only [seqF, ho] at he
        injection he with he
        subst he
        exact g1 _ ho
      · simp only [seqF, ho] at he
        cases he
    | ok x =>
      obtain ⟨t, j⟩ := x
      obtain ⟨l0, hD, hs, h1, hj, hk, hp⟩ := g2 t j ho
      rw [hst] at hp
      by_cases hh : (r.drop j).head? = some kw
      · obtain ⟨hd, hjl⟩ := drop_head hh
        have hp2 : partsF true st r acc = partsF true st (r.drop (j + 1)) (acc ++ l0 ++ [⟨kw, 1⟩]) := by rw [hp, hd, parts_joint hkw]
        obtain ⟨i1, i2⟩ := ih (r.drop (j + 1)) (acc ++ l0 ++ [⟨kw, 1⟩]) (by rw [List.length_drop]; omega)
        cases hq : seqF one kw fl f (r.drop (j + 1)) with
        | error e =>
          refine ⟨fun e' he => ?_, fun l j he => ?_⟩
          · simp only [seqF, ho, if_pos hh, hq] at he
            injection he with he
            subst he
            rw [hp2]
            exact i1 _ hq
          · simp only [seqF, ho, if_pos hh, hq] at he
            cases he
        | ok y =>
          obtain ⟨l, k⟩ := y
          obtain ⟨ps, p1, p2, p3, p4, p5, p6, p7, p8⟩ := i2 l k hq
          refine ⟨fun e' he => ?_, fun l' j' he => ?_⟩
          · simp only [seqF, ho, if_pos hh, hq] at he
            cases he
          · simp only [seqF, ho, if_pos hh, hq] at he
            injection he with he
            injection he with he1 he2
            subst he1 he2
            have hdd : r.drop (j + 1 + k) = (r.drop (j + 1)).drop k := by rw [List.drop_drop]
            have hne : ps.map (fun x => x.1) ≠ [] := by simpa using p1
            rw [List.length_drop] at p6
            refine ⟨(l0, t) :: ps, by simp, ?_, ?_, ?_, by omega, by omega, ?_, ?_⟩
            · intro x hx
              rcases List.mem_cons.1 hx with rfl | hx
              · exact hD
              · exact p2 x hx
            · rw [p3]; rfl
            · show (joinW kw (l0 :: ps.map (fun x => x.1))).map Wd.s = _
              rw [join_cons _ _ _ hne, List.map_append, hs]
              show r.take j ++ kw :: (joinW kw (ps.map (fun x => x.1))).map Wd.s = _
              rw [p4]
              have e1 : r.take (j + 1 + k) = r.take j ++ (r.drop j).take (1 + k) := by rw [Nat.add_assoc, List.take_add]
              rw [e1, hd, Nat.add_comm 1 k]
              rfl
            · rw [hdd]; exact p7
            · rw [hp2, p8, hdd]
              show _ = partsF false st _ (acc ++ joinW kw (l0 :: ps.map (fun x => x.1)))
              rw [join_cons _ _ _ hne]
              simp
      · refine ⟨fun e' he => ?_, fun l' j' he => ?_⟩
        · simp only [seqF, ho, if_neg hh] at he
          cases he
        · simp only [seqF, ho, if_neg hh] at he
          injection he with he
          injection he with he1 he2
          subst he1 he2
          refine ⟨[(l0, t)], by simp, ?_, by simp, hs, h1, hj, ?_, hp⟩
          · intro x hx
            rcases List.mem_cons.1 hx with rfl | hx
            · exact hD
            · cases hx
          · intro k hk2
            rcases List.mem_cons.1 hk2 with rfl | hk2
            · exact hh
            · exact hk k hk2
theorem and_good {kws : List W} {st : List Int} {one : List W → Res} (hst : unaryF st = st) (h : Good 0 kws st one) : Good 1 (wAnd :: kws) st (andF one) := by
  intro r acc
  obtain ⟨g1, g2⟩ := seq_good (kw := wAnd) (fl := flatB) hst (.inr rfl) h (r.length + 1) r acc (Nat.lt_succ_self _)
  refine ⟨fun e he => ?_, fun t j he => ?_⟩
  · unfold andF at he
    cases hq : seqF one wAnd flatB (r.length + 1) r with
    | error e' => rw [hq] at he; injection he with he; subst he; exact g1 _ hq
    | ok x => rw [hq] at he; cases he
  · unfold andF at he
    cases hq : seqF one wAnd flatB (r.length + 1) r with
    | error e' => rw [hq] at he; cases he
    | ok x =>
      obtain ⟨l, k⟩ := x
      rw [hq] at he
      injection he with he
      injection he with he1 he2
      subst he1 he2
      obtain ⟨ps, p1, p2, p3, p4, p5, p6, p7, p8⟩ := g2 l k hq
      exact ⟨_, by rw [p3]; exact .and ps p1 p2, p4, p5, p6, p7, by rw [hst]; exact p8⟩
theorem or_good {kws : List W} {st : List Int} {one : List W → Res} (hst : unaryF st = st) (h : Good 1 kws st (andF one)) : Good 2 (wOr :: kws) st (orF one) := by
  intro r acc
  obtain ⟨g1, g2⟩ := seq_good (kw := wOr) (fl := flatE) hst (.inl rfl) h (r.length + 1) r acc (Nat.lt_succ_self _)
  refine ⟨fun e he => ?_, fun t j he => ?_⟩
  · unfold orF at he
    cases hq : seqF (andF one) wOr flatE (r.length + 1) r with
    | error e' => rw [hq] at he; injection he with he; subst he; exact g1 _ hq
    | ok x => rw [hq] at he; cases he
  · unfold orF at he
    cases hq : seqF (andF one) wOr flatE (r.length + 1) r with
    | error e' => rw [hq] at he; cases he
    | ok x =>
      obtain ⟨l, k⟩ := x
      rw [hq] at he
      injection he with he
      injection he with he1 he2
      subst he1 he2
      obtain ⟨ps, p1, p2, p3, p4, p5, p6, p7, p8⟩ := g2 l k hq
      exact ⟨_, by rw [p3]; exact .or ps p1 p2, p4, p5, p6, p7, by rw [hst]; exact p8⟩
theorem query_good {st : List Int} {one : List W → Res} (hst : unaryF st = st) (h : Good 0 [] st one) : Good 2 [wOr, wAnd] st (orF one) := or_good hst (and_good hst h)
theorem parts_nil_true (st : List Int) (acc : List Wd) : partsF true st [] acc = .error 191 := by
  rw [partsF]
  exact if_pos (.inl rfl)
theorem parts_pre {st : List Int} {x : W} {r : List W} {acc : List Wd} (h : x = wNot ∨ x = wHas ∨ x = wOpen) (hl : st.length ≠ 16) : partsF true st (x :: r) acc = partsF true ((if x = wOpen then 3 else 2) :: st) r (acc ++ [⟨x, if x = wOpen then 3 else 2⟩]) := by
  rw [partsF.eq_def]
  dsimp only
  rw [if_neg (by decide), if_pos h, if_neg hl]
theorem parts_deep {st : List Int} {x : W} {r : List W} {acc : List Wd} (h : x = wNot ∨ x = wHas ∨ x = wOpen) (hl : st.length = 16) : partsF true st (x :: r) acc = .error 192 := by
  rw [partsF.eq_def]
  dsimp only
  rw [if_neg (by decide), if_pos h, if_pos hl]
theorem parts_leaf {st : List Int} {x : W} {r : List W} {acc : List Wd} (h : ¬ (x = wNot ∨ x = wHas ∨ x = wOpen)) {t : Term} {k : Nat} (hl : leaf x r = .ok (t, k)) : partsF true st (x :: r) acc = partsF false (unaryF st) (r.drop k) (acc ++ wordsOf x (r.take k)) := by
  rw [partsF.eq_def]
  dsimp only
  rw [if_neg (by decide), if_neg h, hl]
theorem parts_bad {st : List Int} {x : W} {r : List W} {acc : List Wd} (h : ¬ (x = wNot ∨ x = wHas ∨ x = wOpen)) {e : Int} (hl : leaf x r = .error e) : partsF true st (x :: r) acc = .error e := by
  rw [partsF.eq_def]
  dsimp only
  rw [if_neg (by decide), if_neg h, hl]
theorem parts_shut {st : List Int} {p : Int} {r : List W} {acc : List Wd} : partsF false (p :: st) (wShut :: r) acc = partsF false (unaryF st) r (acc ++ [⟨wShut, 4⟩]) := by
  rw [partsF.eq_def]
  dsimp only
  rw [if_pos rfl, if_neg (by decide), if_pos rfl]
theorem parts_open_nil {st : List Int} {p : Int} {acc : List Wd} : partsF false (p :: st) [] acc = .error 191 := by
  rw [partsF]
  exact if_pos (.inr (by simp))
theorem parts_top_nil {acc : List Wd} : partsF false [] [] acc = .ok acc := by
  rw [partsF]
  exact if_neg (by rintro (h | h) <;> simp at h)
theorem parts_other {st : List Int} {x : W} {r : List W} {acc : List Wd} (h1 : x ≠ wOr) (h2 : x ≠ wAnd) (h3 : x ≠ wShut ∨ st = []) : partsF false st (x :: r) acc = .error 191 := by
  rw [partsF.eq_def]
  dsimp only
  rw [if_pos rfl, if_neg (by rintro (h | h) <;> contradiction)]
  rcases h3 with h3 | rfl
  · rw [if_neg h3]
  · split <;> rfl
theorem leaf_strings (x : W) (r : List W) : (wordsOf x r).map Wd.s = x :: r := by
  unfold wordsOf
  rw [List.map_cons, List.map_map]
  congr 1
  conv => rhs; rw [← List.map_id r]
  rfl
theorem unit_leaf {x : W} {r : List W} {st : List Int} {acc : List Wd} (hx : ¬ (x = wNot ∨ x = wHas ∨ x = wOpen)) :
    (∀ e, bump 1 id (leaf x r) = .error e → partsF true st (x :: r) acc = .error e) ∧
    (∀ t j, bump 1 id (leaf x r) = .ok (t, j) → ∃ l, D 0 l t ∧ l.map Wd.s = (x :: r).take j ∧ 1 ≤ j ∧ j ≤ (x :: r).length ∧ (∀ k ∈ ([] : List W), ((x :: r).drop j).head? ≠ some k) ∧ partsF true st (x :: r) acc = partsF false (unaryF st) ((x :: r).drop j) (acc ++ l)) := by
  cases hl : leaf x r with
  | error e' =>
    refine ⟨fun e he => ?_, fun t j he => (by cases he)⟩
    injection he with he
    subst he
    exact parts_bad hx hl
  | ok y =>
    obtain ⟨t', k⟩ := y
    refine ⟨fun e he => (by cases he), fun t j he => ?_⟩
    injection he with he
    injection he with he1 he2
    subst he1 he2
    obtain ⟨hk, hl2⟩ := leaf_take hl
    exact ⟨wordsOf x (r.take k), .leaf hl2, leaf_strings _ _, by omega, by simpa using hk, fun k hk => (by cases hk), parts_leaf hx hl⟩
theorem unit_good : ∀ (n : Nat) (st : List Int), st.length + n = 16 → Good 0 [] st (unitF n) := by
  intro n
  induction n with
  | zero =>
    intro st hst r acc
    cases r with
    | nil => exact ⟨fun e he => by cases he; exact parts_nil_true _ _, fun t j he => (by cases he)⟩
    | cons x r =>
      by_cases hx : x = wNot ∨ x = wHas ∨ x = wOpen
      · rw [unitF_deep r hx]
        exact ⟨fun e he => by cases he; exact parts_deep hx (by omega), fun t j he => (by cases he)⟩
      · rw [unitF_leaf 0 r (fun h => hx (.inl h)) (fun h => hx (.inr (.inl h))) (fun h => hx (.inr (.inr h)))]
        exact unit_leaf hx
  | succ n ih =>
    intro st hst r acc
    cases r with
    | nil => exact ⟨fun e he => by cases he; exact parts_nil_true _ _, fun t j he => (by cases he)⟩
    | cons x r =>
      by_cases h1 : x = wNot
      · subst h1
        rw [unitF_not]
        obtain ⟨g1, g2⟩ := ih (2 :: st) (by simp; omega) r (acc ++ [⟨wNot, 2⟩])
        have hp : partsF true st (wNot :: r) acc = partsF true (2 :: st) r (acc ++ [⟨wNot, 2⟩]) := parts_pre (.inl rfl) (by omega)
        rw [hp]
        cases hu : unitF n r with
        | error e' => exact ⟨fun e he => by cases he; exact g1 _ hu, fun t j he => (by cases he)⟩
        | ok y =>
          obtain ⟨t', k⟩ := y
          refine ⟨fun e he => (by cases he), fun t j he => ?_⟩
          injection he with he
          injection he with he1 he2
          subst he1 he2
          obtain ⟨l, p1, p2, p3, p4, p5, p6⟩ := g2 _ _ hu
          exact ⟨_, .not p1, by simp [p2], by omega, by simpa using p4, fun k hk => (by cases hk), by rw [p6]; simp [unaryF]⟩
      by_cases h2 : x = wHas
      · subst h2
        rw [unitF_has]
        obtain ⟨g1, g2⟩ := ih (2 :: st) (by simp; omega) r (acc ++ [⟨wHas, 2⟩])
        have hp : partsF true st (wHas :: r) acc = partsF true (2 :: st) r (acc ++ [⟨wHas, 2⟩]) := parts_pre (.inr (.inl rfl)) (by omega)
        rw [hp]
        cases hu : unitF n r with
        | error e' => exact ⟨fun e he => by cases he; exact g1 _ hu, fun t j he => (by cases he)⟩
        | ok y =>
          obtain ⟨t', k⟩ := y
          refine ⟨fun e he => (by cases he), fun t j he => ?_⟩
          injection he with he
          injection he with he1 he2
          subst he1 he2
          obtain ⟨l, p1, p2, p3, p4, p5, p6⟩ := g2 _ _ hu
          exact ⟨_, .has p1, by simp [p2], by omega, by simpa using p4, fun k hk => (by cases hk), by rw [p6]; simp [unaryF]⟩
      by_cases h3 : x = wOpen
      · subst h3
        rw [unitF_open]
        have hst3 : unaryF (3 :: st) = 3 :: st := if_neg (by decide)
        obtain ⟨g1, g2⟩ := query_good hst3 (ih (3 :: st) (by simp; omega)) r (acc ++ [⟨wOpen, 3⟩])
        have hp : partsF true st (wOpen :: r) acc = partsF true (3 :: st) r (acc ++ [⟨wOpen, 3⟩]) := parts_pre (.inr (.inr rfl)) (by omega)
        rw [hp]
        cases hu : orF (unitF n) r with
        | error e' => exact ⟨fun e he => by cases he; exact g1 _ hu, fun t j he => (by cases he)⟩
        | ok y =>
          obtain ⟨t', k⟩ := y
          obtain ⟨l, p1, p2, p3, p4, p5, p6⟩ := g2 _ _ hu
          rw [hst3] at p6
          by_cases hs : (r.drop k).head? = some wShut
          · have hc : bump 1 id (closeF r (.ok (t', k))) = .ok (t', k + 1 + 1) := by show bump 1 id (if (r.drop k).head? = some wShut then _ else _) = _; rw [if_pos hs]; rfl
            rw [hc]
            refine ⟨fun e he => (by cases he), fun t j he => ?_⟩
            injection he with he
            injection he with he1 he2
            subst he1 he2
            obtain ⟨hd, hlt⟩ := drop_head hs
            refine ⟨_, .par p1, ?_, by omega, by simp; omega, fun k hk => (by cases hk), ?_⟩
            · simp only [List.map_cons, List.map_append, p2, List.map_nil, List.take_succ_cons]
              rw [List.take_add_one, List.getElem?_eq_getElem hlt]
              have : r[k] = wShut := by rw [List.drop_eq_getElem_cons hlt] at hd; injection hd
              rw [this]
              rfl
            · rw [p6, hd, parts_shut]
              simp
          · have hc : bump 1 id (closeF r (.ok (t', k))) = .error 191 := by show bump 1 id (if (r.drop k).head? = some wShut then _ else _) = _; rw [if_neg hs]; rfl
            rw [hc]
            refine ⟨fun e he => ?_, fun t j he => (by cases he)⟩
            cases he
            rw [p6]
            cases hd : r.drop k with
            | nil => exact parts_open_nil
            | cons y r' =>
              rw [hd] at p5 hs
              exact parts_other (fun h => p5 wOr (by simp) (by rw [h]; rfl)) (fun h => p5 wAnd (by simp) (by rw [h]; rfl)) (.inl fun h => hs (by rw [h]; rfl))
      · rw [unitF_leaf _ r h1 h2 h3]
        exact unit_leaf (by rintro (h | h | h) <;> contradiction)
/-- the parts of a query's words are those of what the program reads in them -/
theorem parse_parts (ws : List W) :
    (∀ e, parseF ws = .error e → partsF true [] ws [] = .error e) ∧ (∀ t, parseF ws = .ok t → ∃ l, D 2 l t ∧ l.map Wd.s = ws ∧ partsF true [] ws [] = .ok l) := by
  obtain ⟨g1, g2⟩ := query_good (st := []) rfl (unit_good 16 [] rfl) ws []
  unfold parseF
  cases hu : orF (unitF 16) ws with
  | error e' => exact ⟨fun e he => by cases he; exact g1 _ hu, fun t he => (by cases he)⟩
  | ok y =>
    obtain ⟨t', j⟩ := y
    obtain ⟨l, p1, p2, p3, p4, p5, p6⟩ := g2 _ _ hu
    by_cases hj : j < ws.length
    · refine ⟨fun e he => ?_, fun t he => ?_⟩
      · simp only [if_pos hj] at he
        cases he
        rw [p6, List.drop_eq_getElem_cons hj] at *
        exact parts_other (fun h => p5 wOr (by simp) (by rw [h]; rfl)) (fun h => p5 wAnd (by simp) (by rw [h]; rfl)) (.inr rfl)
      · simp only [if_pos hj] at he
        cases he
    · refine ⟨fun e he => ?_, fun t he => ?_⟩
      · simp only [if_neg hj] at he
        cases he
      · simp only [if_neg hj] at he
        cases he
        refine ⟨l, p1, ?_, ?_⟩
        · rw [p2, List.take_of_length_le (by omega)]
        · rw [p6, List.drop_eq_nil_of_le (by omega)]
          exact parts_top_nil
end Go.Proofs.YtcdhkeahcliefaaGreatDoor.Gram
/- The document's is, decimal. -/
namespace Go.Proofs.YtcdhkeahcliefaaGreatDoor.RefA
open Go.ChangeShapes Go.WideShapes Go.ChangeAt Go.RowKit
open Go.Proofs.YtcdhkeahcliefaaGreatDoor.Kit Go.Proofs.YtcdhkeahcliefaaGreatDoor.Base Go.Proofs.YtcdhkeahcliefaaGreatDoor.Quo Go.Proofs.YtcdhkeahcliefaaGreatDoor.Term Go.Proofs.YtcdhkeahcliefaaGreatDoor.Syn Go.Proofs.YtcdhkeahcliefaaGreatDoor.Text
open Go.Proofs.YtcdhkeahcliefaaGreatDoor.Tok (str_beq)
set_option linter.unusedVariables false

set_option maxRecDepth 100000 in
set_option maxHeartbeats 1600000 in
theorem is_any (x : W) (L : List W) (A : Option Addr) (c : Nat) (w : World) (hs : Hid (Strs w A (L.map str))) (hL : L.length ≤ 100) :
    Calls Tryz.prog 40 #[.string (str x), .slice A L.length c] w fun e w' => e = .returned (.bool (decide (x ∈ L))) ∧ w' = w := by
  obtain ⟨n, hn⟩ : ∃ n, L.length = n := ⟨_, rfl⟩
  have HN := Lib.hid hn
  have HL : Hid (n ≤ 100) := by rw [← hn]; exact hL
  obtain ⟨r, hr⟩ : ∃ r, decide (x ∈ L) = r := ⟨_, rfl⟩
  have HR := Lib.hid hr
  rw [hn, hr]
  clear hn hL hr
  go_enter Tryz.func40, Tryz.ntmps40
  go_wp2_with fail
  go_loopg [5] n (fun g i wr => ∃ (k : Nat), g = n - k ∧ k ≤ n ∧ i = .int .i64 k ∧ wr = w ∧ Hid (x ∉ L.take k))
  case atStart => exact ⟨0, rfl, Nat.zero_le _, rfl, rfl, by show x ∉ L.take 0; simp⟩
  case round =>
    obtain ⟨k, rfl, hk, rfl, rfl, HX⟩ := hrel
    have k9 : (k : Int) ≤ 100 := by have := HL.out; omega
    have k0 : (0 : Int) ≤ (k : Int) := by omega
    by_cases hlt : k < n
    · have hlti : (k : Int) < (n : Int) := by omega
      have HLT := Lib.hid hlt
      have hkl : k < L.length := by rw [HN.out]; exact hlt
      obtain ⟨ad, hA, hc0⟩ := hs.out k (by simpa using hkl)
      have hc : wr.cell? (ad.add k) = some (.string (str L[k])) := by simpa using hc0
      have hcmp := str_beq L[k] x
      have HT : Hid (L.take (k + 1) = L.take k ++ [L[k]]) := List.take_succ_eq_append_getElem hkl
      have HM : Hid (L[k] ∈ L) := List.getElem_mem hkl
      subst hA
      clear hc0
      generalize L[k] = y at *
      clear hkl hlt
      cases hy : y == x
      · have HNE : Hid (x ∉ L.take (k + 1)) := by
          show x ∉ L.take (k + 1)
          rw [HT.out]
          intro h
          rcases List.mem_append.1 h with h | h
          · exact HX.out h
          · have : x = y := by simpa using h
            rw [this] at hy
            simp at hy
        rw [hy] at hcmp
        clear hy
        go_wp2_with fail
        go_roundg (n - (k + 1))
        case measure => have := HLT.out; omega
        case rel => exact ⟨k + 1, rfl, HLT.out, by go_num, rfl, HNE⟩
      · have HY : Hid (r = true) := by
          show r = true
          rw [← HR.out]
          have : y = x := by simpa using hy
          rw [← this]
          exact decide_eq_true HM.out
        rw [hy] at hcmp
        clear hy
        go_wp2_with fail
        go_ret
        exact ⟨by rw [HY.out]; rfl, rfl⟩
    · have hlti : ¬ ((k : Int) < (n : Int)) := by omega
      have HY : Hid (r = false) := by
        show r = false
        rw [← HR.out]
        have h := HX.out
        rw [List.take_of_length_le (by rw [HN.out]; omega)] at h
        exact decide_eq_false h
      clear hlt
      go_wp2_with fail
      go_ret
      exact ⟨by rw [HY.out]; rfl, rfl⟩
theorem dec_small {u : Nat} (h : u < 10) : Lib.decDigits u = [UInt8.ofNat (48 + u)] := by
  rw [Lib.decDigits, dif_pos h]
theorem dec_big {u : Nat} (h : ¬ u < 10) : Lib.decDigits u = Lib.decDigits (u / 10) ++ [UInt8.ofNat (48 + u % 10)] := by
  rw [Lib.decDigits, dif_neg h]
theorem itoa_dec (n : Nat) : Lib.itoa (n : Nat) = Lib.decDigits n := by
  unfold Lib.itoa
  rw [if_neg (by omega)]
  rfl
theorem byte_conv (w : World) (b : Nat) (hb : b < 256) (v : Int) (hv : v = (b : Nat)) : (convert 60 9 (.slice (some ⟨w.heap.size, 0, none⟩) 1 1)).run Tryz.prog (w.alloc (.cells #[.int .u8 v] 5)) = .ok (.string (str [UInt8.ofNat b])) (w.alloc (.cells #[.int .u8 v] 5)) := by
  subst hv
  refine conv_bytes rfl (fun i hi => ⟨_, rfl, ?_⟩)
  have h0 : i = 0 := by simp at hi; omega
  subst h0
  rw [add_block, (Blk.new w _ _).cell]
  show some (Value.int .u8 (b : Int)) = some (.int .u8 ((UInt8.ofNat b).toNat : Int))
  rw [UInt8.toNat_ofNat_of_lt' (by exact hb)]
set_option maxRecDepth 100000 in
set_option maxHeartbeats 1600000 in
theorem decimal_any (n0 : Nat) (w : World) (hn : n0 ≤ 999999999) : Calls Tryz.prog 43 #[.int .i64 (n0 : Nat)] w (TextPost (Lib.itoa (n0 : Nat)) w) := by
  rw [itoa_dec]
  have HN : Hid (n0 ≤ 999999999) := hn
  obtain ⟨R, hR⟩ : ∃ R, Lib.decDigits n0 = R := ⟨_, rfl⟩
  have HR := Lib.hid hR
  rw [hR]
  clear hn hR
  go_enter Tryz.func43, Tryz.ntmps43
  go_wp2_with fail
  go_loopg [0, 3] n0 (fun g i s wr => ∃ (n : Nat) (l : W), n ≤ g ∧ i = .int .i64 n ∧ s = .string (str l) ∧ Hid (n ≤ 999999999) ∧ Hid (R = Lib.decDigits n ++ l ∧ l.length ≤ 999999999 - n) ∧ Hid (Below w.heap.size w wr))
  case atStart => exact ⟨n0, [], Nat.le_refl _, rfl, rfl, HN, ⟨by rw [List.append_nil]; exact HR.out.symm, Nat.zero_le _⟩, Below.refl _ _⟩
  case round =>
    obtain ⟨n, l, hg, rfl, rfl, hn, hl, hb⟩ := hrel
    have n9 : (n : Int) ≤ 999999999 := by have := hn.out; omega
    have n0 : (0 : Int) ≤ (n : Int) := by omega
    by_cases h9 : n < 10
    · have e1 : ¬ ((9 : Int) < (n : Int)) := by omega
      have e2 : decide ((9 : Int) < (n : Int)) = false := decide_eq_false e1
      have HX : Hid (str R = str [UInt8.ofNat (48 + n)] ++ str l) := by show _ = _; rw [hl.out.1, dec_small h9, str_append]
      have hcv := byte_conv wr (48 + n) (by omega) (48 + (n : Int)) (by omega)
      have n1 : ¬ (9223372036854775807 < (str [UInt8.ofNat (48 + n)]).size + (str l).size) := by have := hl.out.2; rw [str_size, str_size]; simp only [List.length_cons, List.length_nil]; omega
      clear h9 hg
      generalize str [UInt8.ofNat (48 + n)] = d at *
      go_wp2_with fail
      go_ret
      exact ⟨by rw [HX.out]; rfl, hb.out.alloc hb.out.size _⟩
    · have e1 : (9 : Int) < (n : Int) := by omega
      have e2 : decide ((9 : Int) < (n : Int)) = true := decide_eq_true e1
      have HD : Hid (R = Lib.decDigits (n / 10) ++ ([UInt8.ofNat (48 + n % 10)] ++ l)) := by show _ = _; rw [hl.out.1, dec_big h9, List.append_assoc]
      have HX : Hid (str [UInt8.ofNat (48 + n % 10)] ++ str l = str ([UInt8.ofNat (48 + n % 10)] ++ l)) := str_append _ _
      have hcv := byte_conv wr (48 + n % 10) (by omega) (48 + (n : Int) % 10) (by omega)
      have n1 : ¬ (9223372036854775807 < (str [UInt8.ofNat (48 + n % 10)]).size + (str l).size) := by have := hl.out.2; rw [str_size, str_size]; simp only [List.length_cons, List.length_nil]; omega
      have HLL : Hid (([UInt8.ofNat (48 + n % 10)] ++ l).length ≤ 999999999 - n / 10) := by have := hl.out.2; show _ ≤ _; simp only [List.length_append, List.length_cons, List.length_nil]; omega
      have HG : Hid (n / 10 < gk) := by show _ < _; omega
      generalize UInt8.ofNat (48 + n % 10) = y at *
      go_wp2_with fail
      go_roundg (n / 10)
      case measure => have := HG.out; omega
      case rel => exact ⟨n / 10, _, Nat.le_refl _, by rw [show ((n / 10 : Nat) : Int) = (n : Int) / 10 from by omega], by rw [← HX.out], by have := hn.out; show _ ≤ _; omega, ⟨HD.out, HLL.out⟩, hb.out.alloc hb.out.size _⟩
end Go.Proofs.YtcdhkeahcliefaaGreatDoor.RefA
