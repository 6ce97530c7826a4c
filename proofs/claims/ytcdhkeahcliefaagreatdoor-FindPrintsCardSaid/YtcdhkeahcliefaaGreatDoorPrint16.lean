/- The terms of a query: plain; what a value is a term of in a world. The program's parser.term: a leaf. The program's parser: within, at both closures. -/
import Derived.Test.YtcdhkeahcliefaaGreatDoorPrint11
import Derived.Test.YtcdhkeahcliefaaGreatDoorPrint13
import Derived.Test.YtcdhkeahcliefaaGreatDoorPrint15
/- The terms of a query: plain; what a value is a term of in a world. -/
namespace Go.Proofs.YtcdhkeahcliefaaGreatDoor.Term
open Go.ChangeShapes Go.WideShapes Go.ChangeAt Go.RowKit
open Go.Proofs.YtcdhkeahcliefaaGreatDoor.Kit Go.Proofs.YtcdhkeahcliefaaGreatDoor.Base Go.Proofs.YtcdhkeahcliefaaGreatDoor.Pat Go.Proofs.YtcdhkeahcliefaaGreatDoor.PatA
set_option linter.unusedVariables false

inductive Term where
  | all | empty | sparse
  | kind (k : List UInt8)
  | field (name how : List UInt8) (n : Nat)
  | pattern (what text : List UInt8)
  | under (p : List UInt8)
  | same (p : List UInt8)
  | content (what text : List UInt8)
  | not (t : Term)
  | has (t : Term)
  | both (l : List Term)
  | either (l : List Term)
/-- the cells of a list of terms -/
def Cells (S : Nat → Prop) (w : World) (A : Option Addr) (vs : List Value) : Prop := ∀ i (h : i < vs.length), ∃ ad, A = some ad ∧ S ad.block ∧ w.cell? (ad.add i) = some vs[i]
theorem add_at (ad : Addr) (i : Nat) : (ad.add i).block = ad.block := by
  unfold Addr.add
  split
  · rfl
  · rfl
theorem chg_cell {C : Nat → Prop} {w w' : World} (h : Chg C w w') {ad : Addr} {v : Value} (hn : ¬ C ad.block) (hc : w.cell? ad = some v) : w'.cell? ad = some v := by
  have hb := h.block ad.block (World.block_lt_of_cell? w _ hc) hn
  unfold World.cell? at hc ⊢
  rw [hb]
  exact hc
theorem Cells.chg {S C : Nat → Prop} {w w' : World} {A : Option Addr} {vs : List Value} (h : Cells S w A vs) (hb : Chg C w w') (hS : ∀ k, S k → ¬ C k) : Cells S w' A vs := fun i hi => by
  obtain ⟨ad, e, hs, hc⟩ := h i hi
  exact ⟨ad, e, hs, chg_cell hb (by rw [add_at]; exact hS _ hs) hc⟩
/-- v is the term t in the world w; its lists lie in blocks of S -/
inductive TermIs (S : Nat → Prop) (w : World) : Value → Term → Prop where
  | all : TermIs S w (.iface 50 (.agg #[])) .all
  | empty : TermIs S w (.iface 51 (.agg #[])) .empty
  | sparse : TermIs S w (.iface 52 (.agg #[])) .sparse
  | kind (k) : TermIs S w (.iface 53 (.string (str k))) (.kind k)
  | field (a h) (n : Nat) (hn : n ≤ 999999999) : TermIs S w (.iface 55 (.agg #[.string (str a), .string (str h), .int .i64 (n : Nat)])) (.field a h n)
  | pattern (a x pA pn pc) : TermIs S w (.iface 58 (.agg #[.string (str a), .string (str x), .slice pA pn pc])) (.pattern a x)
  | under (x) : TermIs S w (.iface 61 (.string (str x))) (.under x)
  | same (x) : TermIs S w (.iface 62 (.string (str x))) (.same x)
  | content (a x) : TermIs S w (.iface 64 (.agg #[.string (str a), .string (str x)])) (.content a x)
  | not {v t} (h : TermIs S w v t) : TermIs S w (.iface 47 (.agg #[v])) (.not t)
  | has {v t} (h : TermIs S w v t) : TermIs S w (.iface 48 (.agg #[v])) (.has t)
  | both {A c} (vs : List Value) (l : List Term) (hn : vs.length = l.length) (hc : Cells S w A vs) (hl : ∀ (i : Nat) (v : Value) (t : Term), vs[i]? = some v → l[i]? = some t → TermIs S w v t) : TermIs S w (.iface 45 (.slice A l.length c)) (.both l)
  | either {A c} (vs : List Value) (l : List Term) (hn : vs.length = l.length) (hc : Cells S w A vs) (hl : ∀ (i : Nat) (v : Value) (t : Term), vs[i]? = some v → l[i]? = some t → TermIs S w v t) : TermIs S w (.iface 43 (.slice A l.length c)) (.either l)
theorem TermIs.chg {S C : Nat → Prop} {w w' : World} {v : Value} {t : Term} (h : TermIs S w v t) (hb : Chg C w w') (hS : ∀ k, S k → ¬ C k) : TermIs S w' v t := by
  induction h with
  | all => exact .all
  | empty => exact .empty
  | sparse => exact .sparse
  | kind k => exact .kind k
  | field a h n hn => exact .field a h n hn
  | pattern a x pA pn pc => exact .pattern a x pA pn pc
  | under x => exact .under x
  | same x => exact .same x
  | content a x => exact .content a x
  | not h ih => exact .not ih
  | has h ih => exact .has ih
  | both vs l hn hc hl ih => exact .both vs l hn (hc.chg hb hS) ih
  | either vs l hn hc hl ih => exact .either vs l hn (hc.chg hb hS) ih
theorem TermIs.later {S : Nat → Prop} {w w' : World} {v : Value} {t : Term} (h : TermIs S w v t) (hb : Below w.heap.size w w') : TermIs S w' v t := h.chg (Chg.of_below (S := fun _ => False) hb) (fun _ _ h => h)
theorem TermIs.mono {S T : Nat → Prop} {w : World} {v : Value} {t : Term} (h : TermIs S w v t) (hST : ∀ k, k < w.heap.size → S k → T k) : TermIs T w v t := by
  have hcell : ∀ {A vs}, Cells S w A vs → Cells T w A vs := fun hc i hi => by
    obtain ⟨ad, e, hs, hc⟩ := hc i hi
    exact ⟨ad, e, hST _ (by have := World.block_lt_of_cell? w _ hc; rw [add_at] at this; exact this) hs, hc⟩
  induction h with
  | all => exact .all
  | empty => exact .empty
  | sparse => exact .sparse
  | kind k => exact .kind k
  | field a h n hn => exact .field a h n hn
  | pattern a x pA pn pc => exact .pattern a x pA pn pc
  | under x => exact .under x
  | same x => exact .same x
  | content a x => exact .content a x
  | not h ih => exact .not ih
  | has h ih => exact .has ih
  | both vs l hn hc hl ih => exact .both vs l hn (hcell hc) ih
  | either vs l hn hc hl ih => exact .either vs l hn (hcell hc) ih
open Classical in
/-- the error of a pattern -/
noncomputable def patErr (x : List UInt8) : Int := if 255 < x.length then 7 else if Run (str x) 0 [] none then 190 else 0
theorem patErr_long {x : List UInt8} (h : 255 < (str x).size) : patErr x = 7 := if_pos (by rw [str_size] at h; exact h)
theorem patErr_no {x : List UInt8} (h : (str x).size ≤ 255) (hr : Run (str x) 0 [] none) : patErr x = 190 := by
  unfold patErr
  rw [if_neg (by rw [str_size] at h; omega), if_pos hr]
theorem patErr_yes {x : List UInt8} {l : List Pc} (h : (str x).size ≤ 255) (hr : Run (str x) 0 [] (some l)) : patErr x = 0 := by
  unfold patErr
  rw [if_neg (by rw [str_size] at h; omega), if_neg (fun h2 => by cases hr.same h2)]
theorem comp_any (x : List UInt8) (w : World) : Calls Tryz.prog 83 #[.string (str x)] w fun e w' =>
    (patErr x = 0 ∧ ∃ A n c, e = .returned (.slice A n c) ∧ Hid (Below w.heap.size w w')) ∨ (patErr x ≠ 0 ∧ Threw (patErr x) e ∧ Hid (Below w.heap.size w w')) := by
  refine (PatCompile.compile_any (str x) w).mono ?_
  rintro e w' (⟨l, v, h1, h2, _, rfl, hb, ho⟩ | ⟨h1, h2, he, hb⟩ | ⟨h1, he, hb⟩)
  · obtain ⟨A, c, rfl, _⟩ := owns_slice ho.out
    exact .inl ⟨patErr_yes h1 h2, A, _, c, rfl, hb⟩
  · exact .inr ⟨by rw [patErr_no h1 h2]; decide, by rw [patErr_no h1 h2]; exact he, hb⟩
  · exact .inr ⟨by rw [patErr_long h1]; decide, by rw [patErr_long h1]; exact he, hb⟩
theorem formR_any (x : List UInt8) (w : World) : Calls Tryz.prog 59 #[.string (str x)] w fun e w' => ∃ v, e = .returned (.tuple #[v, .int .i64 (patErr x)]) ∧ Hid (Below w.heap.size w w') := by
  refine (PatPieces.form_any (str x) w).mono ?_
  rintro e w' (⟨h1, rfl, hb⟩ | ⟨h1, ⟨l, v, h2, _, rfl, hb, _⟩ | ⟨h2, rfl, hb⟩⟩)
  · exact ⟨_, by rw [patErr_long h1], hb⟩
  · exact ⟨_, by rw [patErr_yes h1 h2], hb⟩
  · exact ⟨_, by rw [patErr_no h1 h2], hb⟩
/-- a term that begins with the word x, the words behind it given: its error; or the term and how many of these it takes -/
noncomputable def leaf (x : List UInt8) (r : List (List UInt8)) : Except Int (Term × Nat) :=
  if TokE.isField x = true then
    match r with
    | a :: b :: _ => if a ∈ TokB.cmps then (if TokC.isNum b = true then .ok (.field x a (TokC.numV b), 2) else .error 191) else .error 191
    | _ => .error 191
  else if x = [97, 108, 108] then .ok (.all, 0)
  else if x = [101, 109, 112, 116, 121] then .ok (.empty, 0)
  else if x = [115, 112, 97, 114, 115, 101] then .ok (.sparse, 0)
  else match r with
    | [] => .error 191
    | a :: _ =>
      if x = [107, 105, 110, 100] then (if TokB.kindW a = 0 then .error 191 else .ok (.kind a, 1))
      else if x = [110, 97, 109, 101] ∨ x = [112, 97, 116, 104] ∨ x = [116, 97, 114, 103, 101, 116] then (if patErr a = 0 then .ok (.pattern x a, 1) else .error (patErr a))
      else if x = [117, 110, 100, 101, 114] then (if PathB.splitErr a = 0 then .ok (.under (PathF.pathText (Path.partsOf a)), 1) else .error (PathB.splitErr a))
      else if x = [115, 97, 109, 101] then (if PathB.splitErr a = 0 then .ok (.same (PathF.pathText (Path.partsOf a)), 1) else .error (PathB.splitErr a))
      else if x = [104, 111, 108, 100, 115] ∨ x = [98, 101, 103, 105, 110, 115] then (if 255 < a.length then .error 7 else .ok (.content x a, 1))
      else .error 191
end Go.Proofs.YtcdhkeahcliefaaGreatDoor.Term
/- The program's parser.term: a leaf. -/
namespace Go.Proofs.YtcdhkeahcliefaaGreatDoor.TermB
open Go.ChangeShapes Go.WideShapes Go.ChangeAt Go.RowKit
open Go.Proofs.YtcdhkeahcliefaaGreatDoor.Kit Go.Proofs.YtcdhkeahcliefaaGreatDoor.Base Go.Proofs.YtcdhkeahcliefaaGreatDoor.Pat Go.Proofs.YtcdhkeahcliefaaGreatDoor.PatA Go.Proofs.YtcdhkeahcliefaaGreatDoor.Tok Go.Proofs.YtcdhkeahcliefaaGreatDoor.TokB Go.Proofs.YtcdhkeahcliefaaGreatDoor.TokC Go.Proofs.YtcdhkeahcliefaaGreatDoor.TokD Go.Proofs.YtcdhkeahcliefaaGreatDoor.TokE Go.Proofs.YtcdhkeahcliefaaGreatDoor.Term
set_option linter.unusedVariables false

/-- what a parse of one thing answers: an error thrown, or a term and j words taken -/
def TermPost (p : Pw) (i o : Nat) (r : Except Int (Term × Nat)) (e : Ending) (w' : World) : Prop :=
  (∃ x, r = .error x ∧ Threw x e ∧ Hid (Since p.P p.w0 w')) ∨ (∃ t j v, r = .ok (t, j) ∧ e = .returned v ∧ Hid (TermIs (fun k => p.w1.heap.size ≤ k) w' v t) ∧ Hid (Pr p w' (i + j) o))
theorem lit {a : List UInt8} {x : List UInt8} (h : x = a) : str x = str a := by rw [h]
set_option maxRecDepth 100000 in
set_option maxHeartbeats 1600000 in
/-- the words that are terms by themselves -/
theorem leaf_0 (p : Pw) (i o : Nat) (x : List UInt8) (w : World) (h : Hid (Pr p w i o)) (hx : x = [97, 108, 108] ∨ x = [101, 109, 112, 116, 121] ∨ x = [115, 112, 97, 114, 115, 101]) :
    Calls Tryz.prog 70 #[.pointer (some ⟨p.P, 0, none⟩), .string (str x)] w (TermPost p i o (leaf x (p.ws.drop i))) := by
  rcases hx with rfl | rfl | rfl
  · have HF := field_any [97, 108, 108] w
    have HR : Hid (leaf [97, 108, 108] (p.ws.drop i) = .ok (.all, 0)) := rfl
    rw [show isField [97, 108, 108] = false from rfl, show str [97, 108, 108] = ⟨#[97, 108, 108]⟩ from rfl] at HF
    rw [HR.out, show str [97, 108, 108] = ⟨#[97, 108, 108]⟩ from rfl]
    go_enter Tryz.func70, Tryz.ntmps70
    go_wp2_with fail
    refine HF.mono ?_
    rintro e w2 ⟨rfl, hb⟩
    go_wp2_with fail
    go_ret
    exact .inr ⟨_, _, _, rfl, rfl, .all, h.out.next hb.out⟩
  · have HF := field_any [101, 109, 112, 116, 121] w
    have HR : Hid (leaf [101, 109, 112, 116, 121] (p.ws.drop i) = .ok (.empty, 0)) := rfl
    rw [show isField [101, 109, 112, 116, 121] = false from rfl, show str [101, 109, 112, 116, 121] = ⟨#[101, 109, 112, 116, 121]⟩ from rfl] at HF
    rw [HR.out, show str [101, 109, 112, 116, 121] = ⟨#[101, 109, 112, 116, 121]⟩ from rfl]
    go_enter Tryz.func70, Tryz.ntmps70
    go_wp2_with fail
    refine HF.mono ?_
    rintro e w2 ⟨rfl, hb⟩
    go_wp2_with fail
    go_ret
    exact .inr ⟨_, _, _, rfl, rfl, .empty, h.out.next hb.out⟩
  · have HF := field_any [115, 112, 97, 114, 115, 101] w
    have HR : Hid (leaf [115, 112, 97, 114, 115, 101] (p.ws.drop i) = .ok (.sparse, 0)) := rfl
    rw [show isField [115, 112, 97, 114, 115, 101] = false from rfl, show str [115, 112, 97, 114, 115, 101] = ⟨#[115, 112, 97, 114, 115, 101]⟩ from rfl] at HF
    rw [HR.out, show str [115, 112, 97, 114, 115, 101] = ⟨#[115, 112, 97, 114, 115, 101]⟩ from rfl]
    go_enter Tryz.func70, Tryz.ntmps70
    go_wp2_with fail
    refine HF.mono ?_
    rintro e w2 ⟨rfl, hb⟩
    go_wp2_with fail
    go_ret
    exact .inr ⟨_, _, _, rfl, rfl, .sparse, h.out.next hb.out⟩
end Go.Proofs.YtcdhkeahcliefaaGreatDoor.TermB
/- The program's parser: within, at both closures. -/
namespace Go.Proofs.YtcdhkeahcliefaaGreatDoor.Within
open Go.ChangeShapes Go.WideShapes Go.ChangeAt Go.RowKit
open Go.Proofs.YtcdhkeahcliefaaGreatDoor.Kit Go.Proofs.YtcdhkeahcliefaaGreatDoor.Base Go.Proofs.YtcdhkeahcliefaaGreatDoor.PatA Go.Proofs.YtcdhkeahcliefaaGreatDoor.Tok Go.Proofs.YtcdhkeahcliefaaGreatDoor.Term Go.Proofs.YtcdhkeahcliefaaGreatDoor.TermB
set_option linter.unusedVariables false
def deeper (o : Nat) (r : Except Int (Term × Nat)) : Except Int (Term × Nat) := if o = 16 then .error 192 else r
set_option maxRecDepth 100000 in
set_option maxHeartbeats 1600000 in
theorem within_53 (p : Pw) (i o : Nat) (w : World) (R : World → Prop) (hR : Hid (R w)) (hRs : Hid (∀ w u, R w → R (w.setCell ⟨p.P, 2, none⟩ u))) (h : Hid (Pr p w i o)) (r : Except Int (Term × Nat))
    (H : Hid (o < 16 → ∀ w, Hid (Pr p w i (o + 1)) → Hid (R w) → Calls Tryz.prog 53 #[.pointer (some ⟨p.P, 0, none⟩)] w (TermPost p i (o + 1) r))) :
    Calls Tryz.prog 68 #[.pointer (some ⟨p.P, 0, none⟩), .func (.func 53) #[.pointer (some ⟨p.P, 0, none⟩)] #[]] w (TermPost p i o (deeper o r)) := by
  have hpn := panics 192
  have hb := h.out.2.1
  have c2 : w.cell? ⟨p.P, 2, none⟩ = some (.int .i64 o) := (hb.cell 2).trans rfl
  have g2 := hb.frozen 2
  have ho := h.out.2.2.2.1
  clear hb
  by_cases he : o = 16
  · have HR : Hid (deeper o r = .error 192) := if_pos he
    have e1 : ((o : Int) == 16) = true := beq_iff_eq.2 (by omega)
    rw [HR.out]
    clear he ho
    go_enter Tryz.func68, Tryz.ntmps68
    go_wp2_with fail
    exact ⟨rfl, .inl ⟨_, rfl, rfl, h.out.1⟩⟩
  · have HR : Hid (deeper o r = r) := if_neg he
    have e1 : ((o : Int) == 16) = false := beq_eq_false_iff_ne.2 (by omega)
    have HO : Hid (o < 16) := by show _ < _; omega
    have o9 : (o : Int) ≤ 16 := by omega
    have o0 : (0 : Int) ≤ (o : Int) := by omega
    rw [HR.out]
    clear he ho
    go_enter Tryz.func68, Tryz.ntmps68
    go_upto_region 4 with (fail)
    refine gen_world (fun w' => Hid (Pr p w' i (o + 1)) ∧ Hid (R w')) ?_ ?_
    · exact ⟨h.out.setOpen (o + 1) HO.out, hRs.out _ _ hR.out⟩
    rintro w1 ⟨h1, r1⟩
    clear c2 g2 e1
    go_wp2_with fail
    refine (H.out HO.out w1 h1 r1).mono ?_
    rintro e w2 (⟨x, rfl, he, h2⟩ | ⟨t, j, v, rfl, rfl, ht, h2⟩)
    · unfold Threw at he
      subst he
      go_wp2_with fail
      exact ⟨rfl, .inl ⟨_, rfl, rfl, h2⟩⟩
    · have hb2 := h2.out.2.1
      have d2 : w2.cell? ⟨p.P, 2, none⟩ = some (.int .i64 ((o : Int) + 1)) := (hb2.cell 2).trans (by simp)
      have f2 := hb2.frozen 2
      have W2 : (o : Int) + 1 - 1 = (o : Int) := by omega
      have W : IntKind.i64.wrap (o : Int) = (o : Int) := IntWalk.i64_in _ (by omega)
      clear hb2
      go_wp2_with fail
      go_ret
      have hlt : p.P < w2.heap.size := h2.out.2.1.lt
      exact .inr ⟨_, _, _, rfl, rfl, ht.out.chg ((Chg.refl _ w2).trans (Chg.of_only ((Only.refl p.P w2).setCell ⟨p.P, 2, none⟩ rfl _) rfl)) (fun k (hk : p.w1.heap.size ≤ k) (e : p.P = k) => by have := h2.out.2.2.2.2.2; omega), h2.out.setOpen o (Nat.le_of_lt HO.out)⟩
set_option maxRecDepth 100000 in
set_option maxHeartbeats 1600000 in
theorem within_69 (p : Pw) (i o : Nat) (B : Nat) (w : World) (R : World → Prop) (hR : Hid (R w)) (hRs : Hid (∀ w u, R w → R (w.setCell ⟨p.P, 2, none⟩ u))) (h : Hid (Pr p w i o)) (r : Except Int (Term × Nat))
    (H : Hid (o < 16 → ∀ w, Hid (Pr p w i (o + 1)) → Hid (R w) → Calls Tryz.prog 69 #[.pointer (some ⟨B, 0, none⟩)] w (TermPost p i (o + 1) r))) :
    Calls Tryz.prog 68 #[.pointer (some ⟨p.P, 0, none⟩), .func (.func 69) #[] #[.pointer (some ⟨B, 0, none⟩)]] w (TermPost p i o (deeper o r)) := by
  have hpn := panics 192
  have hb := h.out.2.1
  have c2 : w.cell? ⟨p.P, 2, none⟩ = some (.int .i64 o) := (hb.cell 2).trans rfl
  have g2 := hb.frozen 2
  have ho := h.out.2.2.2.1
  clear hb
  by_cases he : o = 16
  · have HR : Hid (deeper o r = .error 192) := if_pos he
    have e1 : ((o : Int) == 16) = true := beq_iff_eq.2 (by omega)
    rw [HR.out]
    clear he ho
    go_enter Tryz.func68, Tryz.ntmps68
    go_wp2_with fail
    exact ⟨rfl, .inl ⟨_, rfl, rfl, h.out.1⟩⟩
  · have HR : Hid (deeper o r = r) := if_neg he
    have e1 : ((o : Int) == 16) = false := beq_eq_false_iff_ne.2 (by omega)
    have HO : Hid (o < 16) := by show _ < _; omega
    have o9 : (o : Int) ≤ 16 := by omega
    have o0 : (0 : Int) ≤ (o : Int) := by omega
    rw [HR.out]
    clear he ho
    go_enter Tryz.func68, Tryz.ntmps68
    go_upto_region 4 with (fail)
    refine gen_world (fun w' => Hid (Pr p w' i (o + 1)) ∧ Hid (R w')) ?_ ?_
    · exact ⟨h.out.setOpen (o + 1) HO.out, hRs.out _ _ hR.out⟩
    rintro w1 ⟨h1, r1⟩
    clear c2 g2 e1
    go_wp2_with fail
    refine (H.out HO.out w1 h1 r1).mono ?_
    rintro e w2 (⟨x, rfl, he, h2⟩ | ⟨t, j, v, rfl, rfl, ht, h2⟩)
    · unfold Threw at he
      subst he
      go_wp2_with fail
      exact ⟨rfl, .inl ⟨_, rfl, rfl, h2⟩⟩
    · have hb2 := h2.out.2.1
      have d2 : w2.cell? ⟨p.P, 2, none⟩ = some (.int .i64 ((o : Int) + 1)) := (hb2.cell 2).trans (by simp)
      have f2 := hb2.frozen 2
      have W2 : (o : Int) + 1 - 1 = (o : Int) := by omega
      have W : IntKind.i64.wrap (o : Int) = (o : Int) := IntWalk.i64_in _ (by omega)
      clear hb2
      go_wp2_with fail
      go_ret
      have hlt : p.P < w2.heap.size := h2.out.2.1.lt
      exact .inr ⟨_, _, _, rfl, rfl, ht.out.chg ((Chg.refl _ w2).trans (Chg.of_only ((Only.refl p.P w2).setCell ⟨p.P, 2, none⟩ rfl _) rfl)) (fun k (hk : p.w1.heap.size ≤ k) (e : p.P = k) => by have := h2.out.2.2.2.2.2; omega), h2.out.setOpen o (Nat.le_of_lt HO.out)⟩
end Go.Proofs.YtcdhkeahcliefaaGreatDoor.Within
