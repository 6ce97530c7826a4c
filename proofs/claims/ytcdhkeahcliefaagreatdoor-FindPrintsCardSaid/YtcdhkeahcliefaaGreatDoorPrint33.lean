/- The document's cut of a query's words: plain. How long a parsed term's text may be: plain. The document's parts: the state of its loop. -/
import Derived.Test.YtcdhkeahcliefaaGreatDoorPrint28
import Derived.Test.YtcdhkeahcliefaaGreatDoorPrint32
import Derived.Test.YtcdhkeahcliefaaGreatDoorPrint30
/- The document's cut of a query's words: plain. -/
namespace Go.Proofs.YtcdhkeahcliefaaGreatDoor.GramB
open Go.Proofs.YtcdhkeahcliefaaGreatDoor.Term Go.Proofs.YtcdhkeahcliefaaGreatDoor.Syn Go.Proofs.YtcdhkeahcliefaaGreatDoor.Gram
set_option linter.unusedVariables false

def stepD (d p : Int) : Int := if p = 3 then d + 1 else if p = 4 then d - 1 else d
def cutP (kw : W) : Int → List Wd → List Wd → List (List Wd)
  | _, cur, [] => [cur]
  | d, cur, x :: l => if x.p = 1 ∧ x.s = kw ∧ stepD d x.p = 0 then cur :: cutP kw 0 [] l else cutP kw (stepD d x.p) (cur ++ [x]) l
/-- the depth behind words -/
def depthP (d : Int) (l : List Wd) : Int := l.foldl (fun d x => stepD d x.p) d
theorem cut_step {kw : W} {d : Int} {cur l : List Wd} {x : Wd} (h : ¬ (x.p = 1 ∧ x.s = kw ∧ stepD d x.p = 0)) : cutP kw d cur (x :: l) = cutP kw (stepD d x.p) (cur ++ [x]) l := if_neg h
theorem cut_at {kw : W} {cur l : List Wd} : cutP kw 0 cur (⟨kw, 1⟩ :: l) = cur :: cutP kw 0 [] l := if_pos ⟨rfl, rfl, rfl⟩
theorem cut_plain {kw : W} (l : List Wd) (hp : ∀ x ∈ l, x.p ≠ 1 ∧ x.p ≠ 3 ∧ x.p ≠ 4) : ∀ d cur rest, cutP kw d cur (l ++ rest) = cutP kw d (cur ++ l) rest := by
  induction l with
  | nil => intro d cur rest; simp
  | cons x l ih =>
    intro d cur rest
    obtain ⟨h1, h3, h4⟩ := hp x (by simp)
    have hs : stepD d x.p = d := by unfold stepD; rw [if_neg h3, if_neg h4]
    rw [List.cons_append, cut_step (fun h => h1 h.1), hs, ih (fun y hy => hp y (by simp [hy]))]
    simp
theorem cut_pass {lv : Nat} {l : List Wd} {t : Term} (h : D lv l t) : ∀ (kw : W) (d : Int) (cur rest : List Wd), 0 ≤ d → (lv = 0 ∨ 0 < d ∨ (lv = 1 ∧ kw ≠ wAnd)) → cutP kw d cur (l ++ rest) = cutP kw d (cur ++ l) rest := by
  induction h with
  | leaf h =>
    rename_i x r t
    intro kw d cur rest _ _
    refine cut_plain _ (fun y hy => ?_) d cur rest
    unfold wordsOf at hy
    rcases List.mem_cons.1 hy with rfl | hy
    · exact ⟨(by decide : (5 : Int) ≠ 1), (by decide : (5 : Int) ≠ 3), (by decide : (5 : Int) ≠ 4)⟩
    · obtain ⟨z, _, rfl⟩ := List.mem_map.1 hy
      exact ⟨(by decide : (6 : Int) ≠ 1), (by decide : (6 : Int) ≠ 3), (by decide : (6 : Int) ≠ 4)⟩
  | not h ih =>
    intro kw d cur rest hd _
    rw [List.cons_append, cut_step (fun h => by have := h.1; revert this; decide)]
    show cutP kw d _ _ = _
    rw [ih kw d _ rest hd (.inl rfl)]
    simp
  | has h ih =>
    intro kw d cur rest hd _
    rw [List.cons_append, cut_step (fun h => by have := h.1; revert this; decide)]
    show cutP kw d _ _ = _
    rw [ih kw d _ rest hd (.inl rfl)]
    simp
  | par h ih =>
    intro kw d cur rest hd _
    rw [List.cons_append, cut_step (fun h => by have := h.1; revert this; decide)]
    show cutP kw (d + 1) _ _ = _
    rw [List.append_assoc, ih kw (d + 1) _ _ (by omega) (.inr (.inl (by omega)))]
    rw [List.cons_append, cut_step (fun h => by have := h.1; revert this; decide)]
    show cutP kw (d + 1 - 1) _ _ = _
    rw [show d + 1 - 1 = d from by omega]
    simp
  | and ps hne hps ih =>
    intro kw d cur rest hd hc
    have hj : ¬ (kw = wAnd ∧ d = 0) := by
      rcases hc with h | h | h
      · omega
      · exact fun h2 => by omega
      · exact fun h2 => h.2 h2.1
    clear hc hne hps
    have key : ∀ (l : List (List Wd × Term)), (∀ x ∈ l, ∀ (kw : W) (d : Int) (cur rest : List Wd), 0 ≤ d → (0 = 0 ∨ 0 < d ∨ (0 = 1 ∧ kw ≠ wAnd)) → cutP kw d cur (x.1 ++ rest) = cutP kw d (cur ++ x.1) rest) → ∀ cur rest, cutP kw d cur (joinW wAnd (l.map (·.1)) ++ rest) = cutP kw d (cur ++ joinW wAnd (l.map (·.1))) rest := by
      intro l
      induction l with
      | nil => intro _ cur rest; simp [joinW]
      | cons a l ihl =>
        intro hl cur rest
        cases l with
        | nil => exact hl a (by simp) kw d cur rest hd (.inl rfl)
        | cons b l =>
          have h2 := ihl (fun x hx => hl x (by simp [hx]))
          show cutP kw d cur ((a.1 ++ ⟨wAnd, 1⟩ :: joinW wAnd ((b :: l).map (·.1))) ++ rest) = cutP kw d (cur ++ (a.1 ++ ⟨wAnd, 1⟩ :: joinW wAnd ((b :: l).map (·.1)))) rest
          rw [List.append_assoc, hl a (by simp) kw d cur _ hd (.inl rfl), List.cons_append, cut_step (x := ⟨wAnd, 1⟩) (fun h => hj ⟨h.2.1.symm, h.2.2⟩)]
          show cutP kw d _ _ = _
          rw [h2]
          simp
    exact key ps ih cur rest
  | or ps hne hps ih =>
    intro kw d cur rest hd hc
    have hd0 : 0 < d := by
      rcases hc with h | h | h
      · omega
      · exact h
      · omega
    clear hc hne hps
    have key : ∀ (l : List (List Wd × Term)), (∀ x ∈ l, ∀ (kw : W) (d : Int) (cur rest : List Wd), 0 ≤ d → (1 = 0 ∨ 0 < d ∨ (1 = 1 ∧ kw ≠ wAnd)) → cutP kw d cur (x.1 ++ rest) = cutP kw d (cur ++ x.1) rest) → ∀ cur rest, cutP kw d cur (joinW wOr (l.map (·.1)) ++ rest) = cutP kw d (cur ++ joinW wOr (l.map (·.1))) rest := by
      intro l
      induction l with
      | nil => intro _ cur rest; simp [joinW]
      | cons a l ihl =>
        intro hl cur rest
        cases l with
        | nil => exact hl a (by simp) kw d cur rest hd (.inr (.inl hd0))
        | cons b l =>
          have h2 := ihl (fun x hx => hl x (by simp [hx]))
          show cutP kw d cur ((a.1 ++ ⟨wOr, 1⟩ :: joinW wOr ((b :: l).map (·.1))) ++ rest) = cutP kw d (cur ++ (a.1 ++ ⟨wOr, 1⟩ :: joinW wOr ((b :: l).map (·.1)))) rest
          rw [List.append_assoc, hl a (by simp) kw d cur _ hd (.inr (.inl hd0)), List.cons_append, cut_step (fun h => by have h2 : d = 0 := h.2.2; omega)]
          show cutP kw d _ _ = _
          rw [h2]
          simp
    exact key ps ih cur rest
theorem cut_join {kw : W} : ∀ (l : List (List Wd)), l ≠ [] → (∀ x ∈ l, ∀ cur rest, cutP kw 0 cur (x ++ rest) = cutP kw 0 (cur ++ x) rest) → cutP kw 0 [] (joinW kw l) = l := by
  intro l
  induction l with
  | nil => intro h; exact absurd rfl h
  | cons a l ih =>
    intro _ hp
    cases l with
    | nil =>
      have h := hp a (by simp) [] []
      rw [List.append_nil, List.nil_append] at h
      show cutP kw 0 [] a = [a]
      rw [h]
      rfl
    | cons b l =>
      show cutP kw 0 [] (a ++ ⟨kw, 1⟩ :: joinW kw (b :: l)) = _
      rw [hp a (by simp), List.nil_append, cut_at, ih (by simp) (fun x hx => hp x (by simp [hx]))]
/-- no list of one -/
def Ne (t : Term) : Prop := (∀ l, t = .both l → 2 ≤ l.length) ∧ (∀ l, t = .either l → 2 ≤ l.length)
theorem Ne.b1 {t : Term} (h : Ne t) : 1 ≤ (flatB t).length := by
  unfold flatB
  split
  · rename_i l; have := h.1 l rfl; omega
  · exact Nat.le_refl _
theorem Ne.e1 {t : Term} (h : Ne t) : 1 ≤ (flatE t).length := by
  unfold flatE
  split
  · rename_i l; have := h.2 l rfl; omega
  · exact Nat.le_refl _
theorem Ne.packB {t : Term} (h : Ne t) : packB (flatB t) = t := by
  cases t with
  | both l =>
    have := h.1 l rfl
    match l, this with
    | _ :: _ :: _, _ => rfl
  | _ => rfl
theorem Ne.packE {t : Term} (h : Ne t) : packE (flatE t) = t := by
  cases t with
  | either l =>
    have := h.2 l rfl
    match l, this with
    | _ :: _ :: _, _ => rfl
  | _ => rfl
theorem flat_two {fl : Term → List Term} (ts : List Term) (h : ∀ t ∈ ts, 1 ≤ (fl t).length) : ts.length ≤ (ts.flatMap fl).length := by
  induction ts with
  | nil => exact Nat.zero_le _
  | cons t ts ih =>
    have h1 := h t (by simp)
    have h2 := ih (fun x hx => h x (by simp [hx]))
    rw [List.flatMap_cons, List.length_append, List.length_cons]
    omega
theorem d_ne {lv : Nat} {l : List Wd} {t : Term} (h : D lv l t) : Ne t := by
  induction h with
  | leaf h => exact ⟨fun l e => absurd e ((leaf_fine h).2.1 l), fun l e => absurd e ((leaf_fine h).2.2 l)⟩
  | not h ih => exact ⟨fun l e => (by cases e), fun l e => (by cases e)⟩
  | has h ih => exact ⟨fun l e => (by cases e), fun l e => (by cases e)⟩
  | par h ih => exact ih
  | and ps hne hps ih =>
    have h1 := flat_two (fl := flatB) (ps.map (·.2)) (fun t ht => by obtain ⟨x, hx, rfl⟩ := List.mem_map.1 ht; exact (ih x hx).b1)
    clear hps
    match ps, hne, ih, h1 with
    | [a], _, ih, h1 =>
      have e : packB (([a].map (·.2)).flatMap flatB) = a.2 := by
        simp only [List.map_cons, List.map_nil, List.flatMap_cons, List.flatMap_nil, List.append_nil]
        exact (ih a (by simp)).packB
      rw [e]
      exact ih a (by simp)
    | a :: b :: l, _, ih, h1 =>
      have h2 : 2 ≤ (((a :: b :: l).map (·.2)).flatMap flatB).length := Nat.le_trans (by simp) h1
      rw [packB_many h2]
      exact ⟨fun l' e => (by cases e; exact h2), fun l' e => (by cases e)⟩
  | or ps hne hps ih =>
    have h1 := flat_two (fl := flatE) (ps.map (·.2)) (fun t ht => by obtain ⟨x, hx, rfl⟩ := List.mem_map.1 ht; exact (ih x hx).e1)
    clear hps
    match ps, hne, ih, h1 with
    | [a], _, ih, h1 =>
      have e : packE (([a].map (·.2)).flatMap flatE) = a.2 := by
        simp only [List.map_cons, List.map_nil, List.flatMap_cons, List.flatMap_nil, List.append_nil]
        exact (ih a (by simp)).packE
      rw [e]
      exact ih a (by simp)
    | a :: b :: l, _, ih, h1 =>
      have h2 : 2 ≤ (((a :: b :: l).map (·.2)).flatMap flatE).length := Nat.le_trans (by simp) h1
      rw [packE_many h2]
      exact ⟨fun l' e => (by cases e), fun l' e => (by cases e; exact h2)⟩
theorem d01 {l : List Wd} {t : Term} (h : D 0 l t) : D 1 l t := by
  have h2 := D.and [(l, t)] (by simp) (fun x hx => by rcases List.mem_cons.1 hx with rfl | hx; exact h; cases hx)
  simp only [List.map_cons, List.map_nil, List.flatMap_cons, List.flatMap_nil, List.append_nil] at h2
  rw [(d_ne h).packB] at h2
  exact h2
theorem d12 {l : List Wd} {t : Term} (h : D 1 l t) : D 2 l t := by
  have h2 := D.or [(l, t)] (by simp) (fun x hx => by rcases List.mem_cons.1 hx with rfl | hx; exact h; cases hx)
  simp only [List.map_cons, List.map_nil, List.flatMap_cons, List.flatMap_nil, List.append_nil] at h2
  rw [(d_ne h).packE] at h2
  exact h2
theorem d_pos {lv : Nat} {l : List Wd} {t : Term} (h : D lv l t) : 1 ≤ l.length := by
  induction h with
  | leaf h => exact Nat.succ_le_succ (Nat.zero_le _)
  | not h ih => exact Nat.succ_le_succ (Nat.zero_le _)
  | has h ih => exact Nat.succ_le_succ (Nat.zero_le _)
  | par h ih => exact Nat.succ_le_succ (Nat.zero_le _)
  | and ps hne hps ih =>
    clear hps
    match ps, hne, ih with
    | [a], _, ih => exact ih a (by simp)
    | a :: b :: l, _, ih =>
      have := ih a (by simp)
      show 1 ≤ (a.1 ++ _).length
      rw [List.length_append]
      omega
  | or ps hne hps ih =>
    clear hps
    match ps, hne, ih with
    | [a], _, ih => exact ih a (by simp)
    | a :: b :: l, _, ih =>
      have := ih a (by simp)
      show 1 ≤ (a.1 ++ _).length
      rw [List.length_append]
      omega
theorem join_less {kw : W} : ∀ (l : List (List Wd)), 2 ≤ l.length → ∀ x ∈ l, x.length < (joinW kw l).length := by
  intro l
  induction l with
  | nil => intro h; simp at h
  | cons a l ih =>
    intro h x hx
    cases l with
    | nil => simp at h
    | cons b l =>
      show x.length < (a ++ ⟨kw, 1⟩ :: joinW kw (b :: l)).length
      rw [List.length_append, List.length_cons]
      rcases List.mem_cons.1 hx with rfl | hx
      · omega
      · cases l with
        | nil =>
          have : x = b := by simpa using hx
          subst this
          show _ < _ + ((joinW kw [x]).length + 1)
          rw [show joinW kw [x] = x from rfl]
          omega
        | cons c l =>
          have := ih (by simp) x hx
          omega
/-- what words of a query are by their weakest joint -/
inductive Way (l : List Wd) (t : Term) : Prop where
  | or (ps : List (List Wd × Term)) (h2 : 2 ≤ ps.length) (h : ∀ x ∈ ps, D 2 x.1 x.2 ∧ x.1.length < l.length) (hc : cutP wOr 0 [] l = ps.map (·.1)) (ht : t = .either ((ps.map (·.2)).flatMap flatE))
  | and (ps : List (List Wd × Term)) (h2 : 2 ≤ ps.length) (h : ∀ x ∈ ps, D 2 x.1 x.2 ∧ x.1.length < l.length) (hc0 : cutP wOr 0 [] l = [l]) (hc : cutP wAnd 0 [] l = ps.map (·.1)) (ht : t = .both ((ps.map (·.2)).flatMap flatB))
  | leaf (hc0 : cutP wOr 0 [] l = [l]) (hc : cutP wAnd 0 [] l = [l]) (x : W) (r : List W) (h : leaf x r = .ok (t, r.length)) (hl : l = wordsOf x r)
  | not (hc0 : cutP wOr 0 [] l = [l]) (hc : cutP wAnd 0 [] l = [l]) (l' : List Wd) (t' : Term) (h : D 2 l' t') (hl : l = ⟨wNot, 2⟩ :: l') (ht : t = .not t')
  | has (hc0 : cutP wOr 0 [] l = [l]) (hc : cutP wAnd 0 [] l = [l]) (l' : List Wd) (t' : Term) (h : D 2 l' t') (hl : l = ⟨wHas, 2⟩ :: l') (ht : t = .has t')
  | par (hc0 : cutP wOr 0 [] l = [l]) (hc : cutP wAnd 0 [] l = [l]) (l' : List Wd) (h : D 2 l' t) (hl : l = ⟨wOpen, 3⟩ :: (l' ++ [⟨wShut, 4⟩]))
theorem cut_self {kw : W} {l : List Wd} (h : ∀ cur rest, cutP kw 0 cur (l ++ rest) = cutP kw 0 (cur ++ l) rest) : cutP kw 0 [] l = [l] := by
  have h2 := h [] []
  rw [List.append_nil, List.nil_append] at h2
  rw [h2]
  rfl
theorem way0 {l : List Wd} {t : Term} (h : D 0 l t) : Way l t := by
  have h0 : cutP wOr 0 [] l = [l] := cut_self (fun cur rest => cut_pass h wOr 0 cur rest (by decide) (.inl rfl))
  have h1 : cutP wAnd 0 [] l = [l] := cut_self (fun cur rest => cut_pass h wAnd 0 cur rest (by decide) (.inl rfl))
  cases h with
  | leaf h => exact .leaf h0 h1 _ _ h rfl
  | not h => exact .not h0 h1 _ _ (d12 (d01 h)) rfl rfl
  | has h => exact .has h0 h1 _ _ (d12 (d01 h)) rfl rfl
  | par h => exact .par h0 h1 _ h rfl
theorem way1 {l : List Wd} {t : Term} (h : D 1 l t) : Way l t := by
  have h0 : cutP wOr 0 [] l = [l] := cut_self (fun cur rest => cut_pass h wOr 0 cur rest (by decide) (.inr (.inr ⟨rfl, by decide⟩)))
  cases h with
  | and ps hne hps =>
    match ps, hne, hps, h0 with
    | [a], _, hps, h0 =>
      have ha := hps a (by simp)
      simp only [List.map_cons, List.map_nil, List.flatMap_cons, List.flatMap_nil, List.append_nil]
      rw [(d_ne ha).packB]
      exact way0 ha
    | a :: b :: l, _, hps, h0 =>
      have hlen : 2 ≤ ((a :: b :: l).map (·.1)).length := by simp
      refine .and (a :: b :: l) (by simp) (fun x hx => ⟨d12 (d01 (hps x hx)), join_less _ hlen x.1 (List.mem_map_of_mem hx)⟩) h0 ?_ ?_
      · exact cut_join _ (by simp) (fun x hx => by obtain ⟨y, hy, rfl⟩ := List.mem_map.1 hx; exact fun cur rest => cut_pass (hps y hy) wAnd 0 cur rest (by decide) (.inl rfl))
      · have h1 := flat_two (fl := flatB) ((a :: b :: l).map (·.2)) (fun t ht => by obtain ⟨x, hx, rfl⟩ := List.mem_map.1 ht; exact (d_ne (hps x hx)).b1)
        exact packB_many (Nat.le_trans (by simp) h1)
theorem way {l : List Wd} {t : Term} (h : D 2 l t) : Way l t := by
  cases h with
  | or ps hne hps =>
    match ps, hne, hps with
    | [a], _, hps =>
      have ha := hps a (by simp)
      simp only [List.map_cons, List.map_nil, List.flatMap_cons, List.flatMap_nil, List.append_nil]
      rw [(d_ne ha).packE]
      exact way1 ha
    | a :: b :: l, _, hps =>
      have hlen : 2 ≤ ((a :: b :: l).map (·.1)).length := by simp
      refine .or (a :: b :: l) (by simp) (fun x hx => ⟨d12 (hps x hx), join_less _ hlen x.1 (List.mem_map_of_mem hx)⟩) ?_ ?_
      · exact cut_join _ (by simp) (fun x hx => by obtain ⟨y, hy, rfl⟩ := List.mem_map.1 hx; exact fun cur rest => cut_pass (hps y hy) wOr 0 cur rest (by decide) (.inr (.inr ⟨rfl, by decide⟩)))
      · have h1 := flat_two (fl := flatE) ((a :: b :: l).map (·.2)) (fun t ht => by obtain ⟨x, hx, rfl⟩ := List.mem_map.1 ht; exact (d_ne (hps x hx)).e1)
        exact packE_many (Nat.le_trans (by simp) h1)
end Go.Proofs.YtcdhkeahcliefaaGreatDoor.GramB
/- How long a parsed term's text may be: plain. -/
namespace Go.Proofs.YtcdhkeahcliefaaGreatDoor.Size
open Go.Proofs.YtcdhkeahcliefaaGreatDoor.Base Go.Proofs.YtcdhkeahcliefaaGreatDoor.Quo Go.Proofs.YtcdhkeahcliefaaGreatDoor.Term Go.Proofs.YtcdhkeahcliefaaGreatDoor.Syn Go.Proofs.YtcdhkeahcliefaaGreatDoor.Gram Go.Proofs.YtcdhkeahcliefaaGreatDoor.GramB Go.Proofs.YtcdhkeahcliefaaGreatDoor.Text Go.Proofs.YtcdhkeahcliefaaGreatDoor.RefO Go.Proofs.YtcdhkeahcliefaaGreatDoor.TokC Go.Proofs.YtcdhkeahcliefaaGreatDoor.Path Go.Proofs.YtcdhkeahcliefaaGreatDoor.PathF
set_option linter.unusedVariables false

/-- a weight of words, above what they may be written as -/
def wt (l : List Wd) : Nat := (l.map fun d => 4 * d.s.length + 40).sum
theorem wt_append (a b : List Wd) : wt (a ++ b) = wt a + wt b := by simp [wt]
theorem wt_cons (d : Wd) (l : List Wd) : wt (d :: l) = 4 * d.s.length + 40 + wt l := by simp [wt]
theorem quo_up (x : W) : (quo x).length ≤ 4 * x.length + 2 := by
  have key : (x.flatMap q1).length ≤ 4 * x.length := by
    induction x with
    | nil => exact Nat.le_refl _
    | cons c x ih =>
      have := q1_len c
      rw [List.flatMap_cons, List.length_append, List.length_cons]
      omega
  unfold quo
  simp only [List.length_cons, List.length_append, List.length_nil]
  omega
theorem digits_up : ∀ (k n : Nat), n < 10 ^ k → (Lib.decDigits n).length ≤ k + 1 := by
  intro k
  induction k with
  | zero => intro n h; rw [RefA.dec_small (by have : 10 ^ 0 = 1 := rfl; omega)]; exact Nat.le_refl _
  | succ k ih =>
    intro n h
    by_cases h9 : n < 10
    · rw [RefA.dec_small h9]; simp
    · rw [RefA.dec_big h9, List.length_append]
      have := ih (n / 10) (by rw [Nat.pow_succ] at h; omega)
      simp only [List.length_cons, List.length_nil]
      omega
theorem path_up (a : W) : (pathText (partsOf a)).length ≤ a.length + 1 := by
  have := flat_parts a
  unfold pathText
  split
  · simp
  · exact this
/-- a leaf's text -/
theorem leaf_up {x : W} {r : List W} {t : Term} (h : leaf x r = .ok (t, r.length)) : (textT t).length + 20 ≤ wt (wordsOf x r) := by
  have e : wt (wordsOf x r) = 4 * x.length + 40 + (r.map fun y => 4 * y.length + 40).sum := by
    unfold wordsOf
    rw [wt_cons]
    unfold wt
    rw [List.map_map]
    rfl
  rw [e]
  cases leaf_words h with
  | one h1 ht => subst h1; rw [ht]; simp; omega
  | field a b h1 hb ht =>
    subst h1 ht
    have h2 := TermF.num_small hb
    have h3 := digits_up 9 (numV b) (by omega)
    rw [textT, RefA.itoa_dec]
    simp
    omega
  | kind a h1 hx ht => subst h1 hx ht; rw [textT]; simp [wKind]; omega
  | under a h1 hx h0 ht =>
    subst h1 hx ht
    have h2 := quo_up (pathText (partsOf a))
    have h3 := path_up a
    rw [textT]
    simp [wUnder]
    omega
  | same a h1 hx h0 ht =>
    subst h1 hx ht
    have h2 := quo_up (pathText (partsOf a))
    have h3 := path_up a
    rw [textT]
    simp [wSame]
    omega
  | other a h1 q1 q2 q3 ht =>
    subst h1
    have h2 := quo_up a
    rw [ht]
    simp
    omega
theorem tail_len (sep : W) (l : List W) : (Lib.joinTail sep l).length ≤ sep.length + (Lib.join l sep).length := by
  cases l with
  | nil => exact Nat.zero_le _
  | cons x l =>
    have e : Lib.joinTail sep (x :: l) = sep ++ Lib.join (x :: l) sep := by
      rw [Lib.join_cons]
      simp [Lib.joinTail]
    rw [e, List.length_append]
    exact Nat.le_refl _
theorem join_add (sep : W) : ∀ (a b : List W), (Lib.join (a ++ b) sep).length ≤ (Lib.join a sep).length + sep.length + (Lib.join b sep).length := by
  intro a b
  cases a with
  | nil => rw [List.nil_append]; omega
  | cons x a =>
    rw [List.cons_append, Lib.join_cons, Lib.join_cons, List.length_append, List.length_append]
    have e : Lib.joinTail sep (a ++ b) = Lib.joinTail sep a ++ Lib.joinTail sep b := by simp [Lib.joinTail]
    rw [e, List.length_append]
    have := tail_len sep b
    omega
theorem flat_join (sep : W) (tx : List Term → List W) (fl : Term → List Term) (happ : ∀ a b, tx (a ++ b) = tx a ++ tx b) (hnil : tx [] = []) (hs : sep.length ≤ 5) (h1 : ∀ t, (Lib.join (tx (fl t)) sep).length ≤ (textT t).length + 4) : ∀ (ts : List Term), (Lib.join (tx (ts.flatMap fl)) sep).length ≤ (ts.map fun t => (textT t).length + 9).sum := by
  intro ts
  induction ts with
  | nil => rw [List.flatMap_nil, hnil]; exact Nat.zero_le _
  | cons t ts ih =>
    rw [List.flatMap_cons, happ, List.map_cons, List.sum_cons]
    have := join_add sep (tx (fl t)) (tx (ts.flatMap fl))
    have := h1 t
    omega
theorem textsB_app (a b : List Term) : textsB (a ++ b) = textsB a ++ textsB b := by simp [textsB_map]
theorem textsE_app (a b : List Term) : textsE (a ++ b) = textsE a ++ textsE b := by simp [textsE_map]
theorem one_join (x sep : W) : Lib.join [x] sep = x := by rw [Lib.join_cons]; simp [Lib.joinTail]
theorem flatB_text (t : Term) : (Lib.join (textsB (flatB t)) [32, 97, 110, 100, 32]).length ≤ (textT t).length + 4 := by
  cases t with
  | both l => rw [show flatB (.both l) = l from rfl, textT]; omega
  | _ => first | (rw [show flatB _ = [_] from rfl, textsB, textsB, one_join]; exact (brIf_len _ _).2)
theorem flatE_text (t : Term) : (Lib.join (textsE (flatE t)) [32, 111, 114, 32]).length ≤ (textT t).length + 4 := by
  cases t with
  | either l => rw [show flatE (.either l) = l from rfl, textT]; omega
  | _ => first | (rw [show flatE _ = [_] from rfl, textsE, textsE, one_join]; omega)
theorem wt_join (kw : W) : ∀ (l : List (List Wd)), (l.map wt).sum ≤ wt (joinW kw l) := by
  intro l
  induction l with
  | nil => exact Nat.zero_le _
  | cons a l ih =>
    cases l with
    | nil => simp [joinW]
    | cons b l =>
      show ((a :: b :: l).map wt).sum ≤ wt (a ++ ⟨kw, 1⟩ :: joinW kw (b :: l))
      rw [wt_append, wt_cons, List.map_cons, List.sum_cons]
      omega
theorem sum_up (ps : List (List Wd × Term)) (h : ∀ x ∈ ps, (textT x.2).length + 20 ≤ wt x.1) : ((ps.map (·.2)).map fun t => (textT t).length + 9).sum + 11 * ps.length ≤ ((ps.map (·.1)).map wt).sum := by
  induction ps with
  | nil => exact Nat.le_refl _
  | cons a ps ih =>
    have h1 := h a (by simp)
    have h2 := ih (fun x hx => h x (by simp [hx]))
    simp only [List.map_cons, List.sum_cons, List.length_cons]
    omega
theorem d_up {lv : Nat} {l : List Wd} {t : Term} (h : D lv l t) : (textT t).length + 20 ≤ wt l := by
  induction h with
  | leaf h => exact leaf_up h
  | not h ih =>
    rename_i t
    have := (brIf_len (isC t) (textT t)).2
    rw [textT, wt_cons, List.length_append]
    simp only [List.length_cons, List.length_nil]
    omega
  | has h ih =>
    rename_i t
    have := (brIf_len (isC t) (textT t)).2
    rw [textT, wt_cons, List.length_append]
    simp only [List.length_cons, List.length_nil]
    omega
  | par h ih => rw [wt_cons, wt_append]; omega
  | and ps hne hps ih =>
    have hnes := fun x hx => d_ne (hps x hx)
    clear hps
    match ps, hne, ih, hnes with
    | [a], _, ih, hnes =>
      have e : packB (([a].map (·.2)).flatMap flatB) = a.2 := by
        simp only [List.map_cons, List.map_nil, List.flatMap_cons, List.flatMap_nil, List.append_nil]
        exact (hnes a (by simp)).packB
      rw [e]
      exact ih a (by simp)
    | a :: b :: l, _, ih, hnes =>
      have h1 := flat_two (fl := flatB) ((a :: b :: l).map (·.2)) (fun t ht => by obtain ⟨x, hx, rfl⟩ := List.mem_map.1 ht; exact (hnes x hx).b1)
      rw [packB_many (Nat.le_trans (by simp) h1), textT]
      have h2 := flat_join [32, 97, 110, 100, 32] textsB flatB textsB_app (by rw [textsB]) (by decide) flatB_text ((a :: b :: l).map (·.2))
      have h3 := sum_up (a :: b :: l) ih
      have h4 := wt_join wAnd ((a :: b :: l).map (·.1))
      have h5 : 2 ≤ (a :: b :: l).length := by simp
      omega
  | or ps hne hps ih =>
    have hnes := fun x hx => d_ne (hps x hx)
    clear hps
    match ps, hne, ih, hnes with
    | [a], _, ih, hnes =>
      have e : packE (([a].map (·.2)).flatMap flatE) = a.2 := by
        simp only [List.map_cons, List.map_nil, List.flatMap_cons, List.flatMap_nil, List.append_nil]
        exact (hnes a (by simp)).packE
      rw [e]
      exact ih a (by simp)
    | a :: b :: l, _, ih, hnes =>
      have h1 := flat_two (fl := flatE) ((a :: b :: l).map (·.2)) (fun t ht => by obtain ⟨x, hx, rfl⟩ := List.mem_map.1 ht; exact (hnes x hx).e1)
      rw [packE_many (Nat.le_trans (by simp) h1), textT]
      have h2 := flat_join [32, 111, 114, 32] textsE flatE textsE_app (by rw [textsE]) (by decide) flatE_text ((a :: b :: l).map (·.2))
      have h3 := sum_up (a :: b :: l) ih
      have h4 := wt_join wOr ((a :: b :: l).map (·.1))
      have h5 : 2 ≤ (a :: b :: l).length := by simp
      omega
theorem wt_words (l : List Wd) : wt l ≤ 40 * (((l.map Wd.s).map List.length).sum + (l.map Wd.s).length) := by
  induction l with
  | nil => exact Nat.zero_le _
  | cons d l ih =>
    rw [wt_cons]
    simp only [List.map_cons, List.sum_cons, List.length_cons]
    omega
theorem leaf_err {x : W} {r : List W} {e : Int} (h : leaf x r = .error e) : e ≠ 0 := by
  unfold leaf at h
  revert h
  repeat' split
  all_goals (intro h; first | (injection h with h; subst h; first | decide | assumption) | cases h)
theorem bump_err {k : Nat} {f : Term → Term} {r : Res} {e : Int} (h : bump k f r = .error e) : r = .error e := by
  cases r with
  | error e' => injection h with h; subst h; rfl
  | ok y => cases h
theorem seq_err {one : List W → Res} {kw : W} {fl : Term → List Term} (h1 : ∀ r e, one r = .error e → e ≠ 0) : ∀ f r e, seqF one kw fl f r = .error e → e ≠ 0 := by
  intro f
  induction f with
  | zero => intro r e h; injection h with h; subst h; decide
  | succ f ih =>
    intro r e h
    cases ho : one r with
    | error e' => simp only [seqF, ho] at h; injection h with h; subst h; exact h1 _ _ ho
    | ok y =>
      obtain ⟨t, j⟩ := y
      by_cases hh : (r.drop j).head? = some kw
      · cases hq : seqF one kw fl f (r.drop (j + 1)) with
        | error e' => simp only [seqF, ho, if_pos hh, hq] at h; injection h with h; subst h; exact ih _ _ hq
        | ok z => obtain ⟨l, k⟩ := z; simp only [seqF, ho, if_pos hh, hq] at h; cases h
      · simp only [seqF, ho, if_neg hh] at h; cases h
theorem pk_err {f : List Term → Term} {r : Except Int (List Term × Nat)} {e : Int} (h : pk f r = .error e) : r = .error e := by
  cases r with
  | error e' => injection h with h; subst h; rfl
  | ok y => cases h
theorem or_err {one : List W → Res} (h1 : ∀ r e, one r = .error e → e ≠ 0) (r : List W) (e : Int) (h : orF one r = .error e) : e ≠ 0 :=
  seq_err (one := andF one) (fun r e h => seq_err h1 _ _ _ (pk_err h)) _ _ _ (pk_err h)
theorem unit_err : ∀ n r e, unitF n r = .error e → e ≠ 0 := by
  intro n
  induction n with
  | zero =>
    intro r e h
    cases r with
    | nil => injection h with h; subst h; decide
    | cons x r =>
      by_cases hx : x = wNot ∨ x = wHas ∨ x = wOpen
      · rw [unitF_deep r hx] at h; injection h with h; subst h; decide
      · rw [unitF_leaf 0 r (fun h => hx (.inl h)) (fun h => hx (.inr (.inl h))) (fun h => hx (.inr (.inr h)))] at h
        exact leaf_err (bump_err h)
  | succ n ih =>
    intro r e h
    cases r with
    | nil => injection h with h; subst h; decide
    | cons x r =>
      by_cases h1 : x = wNot
      · subst h1; rw [unitF_not] at h; exact ih _ _ (bump_err h)
      by_cases h2 : x = wHas
      · subst h2; rw [unitF_has] at h; exact ih _ _ (bump_err h)
      by_cases h3 : x = wOpen
      · subst h3
        rw [unitF_open] at h
        have h := bump_err h
        cases ho : orF (unitF n) r with
        | error e' => rw [ho] at h; injection h with h; subst h; exact or_err ih _ _ ho
        | ok y =>
          obtain ⟨t, k⟩ := y
          rw [ho] at h
          have h : (if (r.drop k).head? = some wShut then (.ok (t, k + 1) : Res) else .error 191) = .error e := h
          split at h
          · cases h
          · injection h with h; subst h; decide
      · rw [unitF_leaf _ r h1 h2 h3] at h; exact leaf_err (bump_err h)
theorem parse_err {ws : List W} {e : Int} (h : parseF ws = .error e) : e ≠ 0 := by
  unfold parseF at h
  cases ho : orF (unitF 16) ws with
  | error e' => rw [ho] at h; injection h with h; subst h; exact or_err (unit_err 16) _ _ ho
  | ok y =>
    obtain ⟨t, j⟩ := y
    rw [ho] at h
    dsimp only at h
    split at h
    · injection h with h; subst h; decide
    · cases h
end Go.Proofs.YtcdhkeahcliefaaGreatDoor.Size
/- The document's parts: the state of its loop. -/
namespace Go.Proofs.YtcdhkeahcliefaaGreatDoor.RefD
open Go.ChangeShapes Go.WideShapes Go.ChangeAt Go.RowKit
open Go.Proofs.YtcdhkeahcliefaaGreatDoor.Kit Go.Proofs.YtcdhkeahcliefaaGreatDoor.Base Go.Proofs.YtcdhkeahcliefaaGreatDoor.Syn Go.Proofs.YtcdhkeahcliefaaGreatDoor.Gram Go.Proofs.YtcdhkeahcliefaaGreatDoor.RefB
set_option linter.unusedVariables false

theorem info78 : (Tryz.prog.info? 78).map (fun i => (i.zero, i.size, i.bytes)) = some (some (.agg #[.string ⟨#[]⟩, .int .i64 0]), 2, 24) := by kernel_rfl
theorem el34 : El 34 78 2 24 := el_of Tryz.underlying34 info78 rfl (by decide) (by decide)
theorem info3 : (Tryz.prog.info? 3).map (fun i => (i.zero, i.size, i.bytes)) = some (some (.int .i64 0), 1, 8) := by kernel_rfl
theorem el106 : El 106 3 1 8 := el_of Tryz.underlying106 info3 rfl (by decide) (by decide)
/-- the cells of words with their parts -/
def wcells (l : List Wd) : List Value := l.flatMap fun d => [.string (str d.s), .int .i64 d.p]
theorem wcells_snoc (l : List Wd) (d : Wd) : wcells (l ++ [d]) = wcells l ++ [.string (str d.s), .int .i64 d.p] := by simp [wcells]
theorem wcells_len (l : List Wd) : (wcells l).length = 2 * l.length := by
  induction l with
  | nil => rfl
  | cons d l ih =>
    show (_ :: _ :: wcells l).length = _
    simp only [List.length_cons, ih]
    omega
theorem wcells_at (l : List Wd) : ∀ i (h : i < l.length), (wcells l)[2 * i]? = some (.string (str l[i].s)) ∧ (wcells l)[2 * i + 1]? = some (.int .i64 l[i].p) := by
  induction l with
  | nil => intro i h; exact absurd h (Nat.not_lt_zero i)
  | cons d l ih =>
    intro i h
    show (Value.string (str d.s) :: Value.int .i64 d.p :: wcells l)[2 * i]? = _ ∧ (Value.string (str d.s) :: Value.int .i64 d.p :: wcells l)[2 * i + 1]? = _
    cases i with
    | zero => exact ⟨rfl, rfl⟩
    | succ i =>
      rw [show 2 * (i + 1) = 2 * i + 1 + 1 from by omega]
      simp only [List.getElem?_cons_succ, List.getElem_cons_succ]
      exact ih i (by simpa using h)
/-- words with their parts in memory -/
def WordsAt (w : World) (A : Option Addr) (c : Nat) (l : List Wd) : Prop := l.length ≤ c ∧ ∀ i (h : i < l.length), ∃ b o, A = some ⟨b, o, none⟩ ∧ w.cell? ⟨b, o + i * 2, none⟩ = some (.string (str l[i].s)) ∧ w.cell? ⟨b, o + i * 2 + 1, none⟩ = some (.int .i64 l[i].p)
theorem WordsAt.below {w w' : World} {A : Option Addr} {c : Nat} {l : List Wd} (h : WordsAt w A c l) (hb : Below w.heap.size w w') : WordsAt w' A c l := by
  refine ⟨h.1, fun i hi => ?_⟩
  obtain ⟨b, o, e, h1, h2⟩ := h.2 i hi
  exact ⟨b, o, e, (hb.cell (World.block_lt_of_cell? w _ h1)).trans h1, (hb.cell (World.block_lt_of_cell? w _ h2)).trans h2⟩
/-- the words and the stack under way -/
def Ps (Z : Nat) (w0 w : World) (Al : Option Addr) (cl : Nat) (acc : List Wd) (As : Option Addr) (cs : Nat) (st : List Int) : Prop :=
  Since Z w0 w ∧ w.ownsRow Z 78 2 (.slice Al acc.length cl) acc.length (wcells acc) ∧ Stk Z w As cs st
section
variable {Z : Nat} {w0 w w' : World} {Al As : Option Addr} {cl cs : Nat} {acc : List Wd} {st : List Int}
theorem Ps.next (h : Ps Z w0 w Al cl acc As cs st) (hb : Below w.heap.size w w') : Ps Z w0 w' Al cl acc As cs st := ⟨h.1.next hb, owns_below h.2.1 hb, owns_below h.2.2 hb⟩
theorem Ps.words (h : Hid (Ps Z w0 w Al cl acc As cs st)) : Hid (Since Z w0 w ∧ w.ownsRow Z 78 2 (.slice Al acc.length cl) acc.length (wcells acc)) := ⟨h.out.1, h.out.2.1⟩
theorem Ps.stack (h : Hid (Ps Z w0 w Al cl acc As cs st)) : Hid (Since Z w0 w ∧ w.ownsRow Z 3 1 (.slice As st.length cs) st.length (ints st)) := ⟨h.out.1, h.out.2.2⟩
theorem Ps.pushW (h : Ps Z w0 w Al cl acc As cs st) {A7 : Option Addr} {c7 : Nat} {x : W} {p : Int} (h7 : Since Z w0 w' ∧ w'.ownsRow Z 78 2 (.slice A7 (acc.length + 1) c7) (acc.length + 1) (wcells acc ++ #[.string (str x), .int .i64 p].toList)) (hk : Keeps 78 w w') :
    Ps Z w0 w' A7 c7 (acc ++ [⟨x, p⟩]) As cs st := by
  refine ⟨h7.1, ?_, hk.owns h.2.2 (by decide)⟩
  rw [List.length_append, wcells_snoc]
  exact h7.2
theorem Ps.pushS (h : Ps Z w0 w Al cl acc As cs st) {A7 : Option Addr} {c7 : Nat} {p : Int} (h7 : Since Z w0 w' ∧ w'.ownsRow Z 3 1 (.slice A7 (st.length + 1) c7) (st.length + 1) (ints st ++ #[.int .i64 p].toList)) (hk : Keeps 3 w w') :
    Ps Z w0 w' Al cl acc A7 c7 (p :: st) := by
  refine ⟨h7.1, hk.owns h.2.1 (by decide), ?_⟩
  unfold Stk
  rw [ints_cons]
  exact h7.2
theorem Ps.cut (h : Ps Z w0 w Al cl acc As cs st) {st' : List Int} (hs : Stk Z w As cs st') : Ps Z w0 w Al cl acc As cs st' := ⟨h.1, h.2.1, hs⟩
theorem Ps.done (h : Ps Z w0 w Al cl acc As cs st) : WordsAt w Al cl acc := by
  obtain ⟨A, c, e, hc⟩ := owns_slice h.2.1
  cases e
  refine ⟨?_, fun i hi => ?_⟩
  · rcases h.2.1.2 with ⟨h0, hn⟩ | ⟨g, cap, cur, hv, _, _, h1, _⟩
    · omega
    · cases hv; exact h1
  · rcases h.2.1.2 with ⟨h0, hn⟩ | ⟨g, cap, cur, hv, _, _, h1, _⟩
    · omega
    · cases hv
      obtain ⟨h2, h3⟩ := wcells_at acc i hi
      obtain ⟨ad, e2, c2⟩ := hc _ _ h2
      obtain ⟨ad3, e3, c3⟩ := hc _ _ h3
      cases e2
      cases e3
      rw [add_block] at c2 c3
      exact ⟨g, 0, rfl, by rw [Nat.zero_add, Nat.mul_comm]; exact c2, by rw [Nat.zero_add, Nat.mul_comm]; exact c3⟩
end
theorem one_word (x : W) (p : Int) : ∀ u ∈ (#[.string (str x), .int .i64 p] : Array Value).toList, u.oneCell' = true := fun u hu => by
  simp at hu
  rcases hu with rfl | rfl <;> rfl
def PartsPost (R : Except Int (List Wd)) (w : World) (e : Ending) (w' : World) : Prop :=
  (∃ er, R = .error er ∧ e = .returned (.tuple #[.slice none 0 0, .int .i64 er]) ∧ Hid (Below w.heap.size w w')) ∨
  (∃ l A c, R = .ok l ∧ e = .returned (.tuple #[.slice A l.length c, .int .i64 0]) ∧ Hid (Below w.heap.size w w') ∧ Hid (WordsAt w' A c l))
theorem words_take {x : W} {r : List W} {j : Nat} (h : j < r.length) : wordsOf x (r.take (j + 1)) = wordsOf x (r.take j) ++ [⟨r[j], 6⟩] := by
  unfold wordsOf
  rw [List.take_succ_eq_append_getElem h, List.map_append]
  rfl
end Go.Proofs.YtcdhkeahcliefaaGreatDoor.RefD
