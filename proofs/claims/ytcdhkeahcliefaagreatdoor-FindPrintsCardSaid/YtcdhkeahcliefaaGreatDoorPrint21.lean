/- Rows of terms that grow: for and, or. The program's parser: and. -/
import Derived.Test.YtcdhkeahcliefaaGreatDoorPrint20
import Derived.Deep.AppendLies
/- Rows of terms that grow: for and, or. -/
namespace Go.Proofs.YtcdhkeahcliefaaGreatDoor.ParseR
open Go.ChangeShapes Go.WideShapes Go.ChangeAt Go.RowKit
open Go.Proofs.YtcdhkeahcliefaaGreatDoor.Kit Go.Proofs.YtcdhkeahcliefaaGreatDoor.Base Go.Proofs.YtcdhkeahcliefaaGreatDoor.PatA Go.Proofs.YtcdhkeahcliefaaGreatDoor.Tok Go.Proofs.YtcdhkeahcliefaaGreatDoor.TokB Go.Proofs.YtcdhkeahcliefaaGreatDoor.TokD Go.Proofs.YtcdhkeahcliefaaGreatDoor.Term Go.Proofs.YtcdhkeahcliefaaGreatDoor.TermB Go.Proofs.YtcdhkeahcliefaaGreatDoor.Syn Go.Proofs.YtcdhkeahcliefaaGreatDoor.ParseU
set_option linter.unusedVariables false

theorem info32 : (Tryz.prog.info? 32).map (fun i => (i.zero, i.size, i.bytes)) = some (some .nilIface, 1, 16) := by kernel_rfl
theorem el45 : El 45 32 1 16 := el_of Tryz.underlying45 info32 rfl (by decide) (by decide)
theorem el43 : El 43 32 1 16 := el_of Tryz.underlying43 info32 rfl (by decide) (by decide)
/-- the blocks in which the members of a list lie -/
def Off (Z : Nat) (v : Value) (k : Nat) : Prop := Z ≤ k ∧ v.ownBlock ≠ some k
def Rows (Z : Nat) (w : World) (v : Value) (acc : List Term) : Prop := ∃ vs : List Value, vs.length = acc.length ∧ w.ownsRow Z 32 1 v acc.length vs ∧ ∀ (i : Nat) u t, vs[i]? = some u → acc[i]? = some t → TermIs (Off Z v) w u t
theorem Rows.chg {Z : Nat} {C : Nat → Prop} {w w' : World} {v : Value} {acc : List Term} (h : Rows Z w v acc) (hc : Chg C w w') (hC : ∀ k, Z ≤ k → ¬ C k) : Rows Z w' v acc := by
  obtain ⟨vs, h1, h2, h3⟩ := h
  exact ⟨vs, h1, owns_chg h2 hc hC, fun i u t hu ht => (h3 i u t hu ht).chg hc (fun k hk => hC k hk.1)⟩
theorem chg_grown {w w' : World} {row : Option Nat} (h : w.grownBy w' row) : Chg (fun k => row = some k) w w' := ⟨h.os, h.tape, h.output, h.size, fun k hk hn => h.block k hk (fun e => hn e.symm)⟩
theorem term_grown {Z g : Nat} {w w' : World} {v u : Value} {t : Term} {A : Option Addr} {n c H : Nat} (h : TermIs (Off Z v) w u t) (hg : w.grownBy w' v.ownBlock) (hl : v.ownBlock = some g ∨ g = H) (hH : w.heap.size ≤ H) : TermIs (Off Z (.slice (some ⟨g, 0, none⟩) n c)) w' u t := by
  have h1 : TermIs (fun k => k < w.heap.size ∧ Off Z v k) w u t := h.mono (fun k hk hs => ⟨hk, hs⟩)
  have h2 := h1.chg (chg_grown hg) (fun k hk e => hk.2.2 e)
  refine h2.mono (fun k _ hk => ⟨hk.2.1, fun e => ?_⟩)
  have e2 : g = k := by simpa [Value.ownBlock] using e
  subst e2
  rcases hl with hl | hl
  · exact hk.2.2 hl
  · omega
/-- a list of terms under way in a parser -/
def St (p : Pw) (Z : Nat) (w : World) (v : Value) (acc : List Term) (i o : Nat) : Prop := Pr p w i o ∧ Rows Z w v acc ∧ p.w1.heap.size ≤ Z ∧ Z ≤ w.heap.size
theorem St.off {p : Pw} {Z : Nat} {w : World} {v : Value} {acc : List Term} {i o : Nat} (h : St p Z w v acc i o) : ∀ k, Z ≤ k → ¬ k = p.P := fun k hk e => by
  have := h.1.2.2.2.2.2
  have := h.2.2.1
  omega
theorem St.alloc {p : Pw} {Z : Nat} {w : World} {v : Value} {acc : List Term} {i o : Nat} (h : St p Z w v acc i o) (ob : Obj) : St p Z (w.alloc ob) v acc i o := by
  have hb : Below w.heap.size w (w.alloc ob) := (Below.refl _ _).alloc (Nat.le_refl _) _
  exact ⟨h.1.next hb, h.2.1.chg (Chg.of_below (S := fun _ => False) hb) (fun _ _ h => h), h.2.2.1, Nat.le_trans h.2.2.2 hb.size⟩
/-- behind a call that answered a term -/
theorem St.call {p : Pw} {Z : Nat} {w w' : World} {v : Value} {acc : List Term} {i o j : Nat} (h : St p Z w v acc i o) (h2 : Pr { p with w1 := w } w' j o) : St p Z w' v acc j o :=
  ⟨h.1.back h2, h.2.1.chg h2.2.2.2.2.1 h.off, h.2.2.1, Nat.le_trans h.2.2.2 h2.2.2.2.2.1.size⟩
theorem St.fresh {p : Pw} {Z : Nat} {w : World} {v u : Value} {acc : List Term} {i o : Nat} (h : St p Z w v acc i o) {w' : World} {t : Term} (ht : TermIs (fun k => w.heap.size ≤ k) w' u t) : TermIs (Off Z v) w' u t := by
  refine ht.mono (fun k _ hk => ⟨Nat.le_trans h.2.2.2 hk, fun e => ?_⟩)
  obtain ⟨vs, _, h2, _⟩ := h.2.1
  have := (h2.lt k e).2
  omega
theorem St.next {p : Pw} {Z : Nat} {w w' : World} {v : Value} {acc : List Term} {i o : Nat} (h : St p Z w v acc i o) (hb : Below w.heap.size w w') : St p Z w' v acc i o :=
  ⟨h.1.next hb, h.2.1.chg (Chg.of_below (S := fun _ => False) hb) (fun _ _ h => h), h.2.2.1, Nat.le_trans h.2.2.2 hb.size⟩
/-- members appended -/
theorem app_rows {ops : Array Oper} {rest : List Oper} {op : Oper} {a : Act} {Q : Exit → Act → World → Prop} (t : TypeId) (E : El t 32 1 16) (hgd : op.guard = none) (s x : Operand)
    (ho : op.op = .call { callee := .builtin .append, args := #[s, x], argTypes := #[t, t] }) {p : Pw} {Z : Nat} {w : World} {A : Option Addr} {c i o : Nat} {acc ts : List Term} {us : List Value} (hs : a.eval s = .slice A acc.length c) (H : Hid (St p Z w (.slice A acc.length c) acc i o))
    (ad : Addr) (m c' : Nat) (hx : a.eval x = .slice (some ad) m c') (hm : 0 < m) (hus : us.length = m) (hts : ts.length = m) (hnews : Hid (∀ j u, us[j]? = some u → w.cell? (ad.add j) = some u)) (hone : Hid (∀ u ∈ us, u.oneCell' = true))
    (hterm : Hid (∀ (i : Nat) u t, us[i]? = some u → ts[i]? = some t → TermIs (Off Z (.slice A acc.length c)) w u t)) (n' : Nat) (hn : acc.length + m = n') (hb : Hid (n' ≤ 1024))
    (K : ∀ g cap w', Hid (St p Z w' (.slice (some ⟨g, 0, none⟩) (acc ++ ts).length cap) (acc ++ ts) i o) → wpList Tryz.prog ops Q rest (a.put op.dst (.slice (some ⟨g, 0, none⟩) n' cap)) w') : wpList Tryz.prog ops Q (op :: rest) a w := by
  subst hn
  obtain ⟨inf, z, h1, h2, h3, h4, h5, h6, h7, h8⟩ := E
  obtain ⟨hp, ⟨vs, q1, q2, q3⟩, hZ1, hZ2⟩ := H.out
  have hb2 := hb.out
  refine wpList_append_lies _ hgd s x t ho Z 32 inf z 1 16 h1 h2 h3 h4 h5 h6 h7 (.slice A acc.length c) acc.length vs hs q2 ad m c' us hx (by rw [hus]; omega) hnews.out hone.out hm (by unfold maxLen; omega) (by omega) hZ2 _ rfl ?_
  intro g cap w' hown hgrow hlies hlt
  have hlen : (acc ++ ts).length = acc.length + m := by rw [List.length_append, hts]
  have hbel : Below Z w w' := ⟨hgrow.os, hgrow.tape, hgrow.output, hgrow.size, fun k hk => hgrow.block k (Nat.lt_of_lt_of_le hk hZ2) (fun e => by have := (q2.lt k e.symm).1; omega)⟩
  have hPZ : p.P < Z := Nat.lt_of_lt_of_le hp.2.2.2.2.2 hZ1
  refine K g cap w' ⟨⟨hp.1.on (hbel.mono (Nat.le_of_lt hPZ)), hp.2.1.below hbel hPZ, hp.2.2.1, hp.2.2.2.1, ⟨?_, hp.2.2.2.2.2⟩⟩, ⟨vs ++ us, by rw [List.length_append, hlen, q1, hus], by rw [hlen]; exact hown, ?_⟩, hZ1, Nat.le_trans hZ2 hgrow.size⟩
  · have hc := hp.2.2.2.2.1
    exact ⟨hgrow.os.trans hc.os, hgrow.tape.trans hc.tape, hgrow.output.trans hc.output, Nat.le_trans hc.size hgrow.size, fun k hk hn => (hbel.block k (Nat.lt_of_lt_of_le hk hZ1)).trans (hc.block k hk hn)⟩
  · intro i u t hu ht
    rw [hlen]
    by_cases hi : i < vs.length
    · rw [List.getElem?_append_left hi] at hu
      rw [List.getElem?_append_left (by rw [← q1]; exact hi)] at ht
      exact term_grown (A := A) (q3 i u t hu ht) hgrow hlies (Nat.le_refl _)
    · rw [List.getElem?_append_right (by omega)] at hu ht
      rw [← q1] at ht
      exact term_grown (A := A) (hterm.out _ u t hu ht) hgrow hlies (Nat.le_refl _)
theorem term_one {S : Nat → Prop} {w : World} {v : Value} {t : Term} (h : TermIs S w v t) : v.oneCell' = true := by
  cases h <;> rfl
theorem flatB_self {t : Term} (h : ∀ l, t ≠ .both l) : flatB t = [t] := by
  unfold flatB
  split
  · exact absurd rfl (h _)
  · rfl
theorem flatE_self {t : Term} (h : ∀ l, t ≠ .either l) : flatE t = [t] := by
  unfold flatE
  split
  · exact absurd rfl (h _)
  · rfl
/-- a both, or something else -/
theorem term_both {S : Nat → Prop} {w : World} {v : Value} {t : Term} (h : TermIs S w v t) : (∃ A c vs l, v = .iface 45 (.slice A l.length c) ∧ t = .both l ∧ vs.length = l.length ∧ Cells S w A vs ∧ ∀ (i : Nat) (v : Value) (t : Term), vs[i]? = some v → l[i]? = some t → TermIs S w v t) ∨ (∃ T x, v = .iface T x ∧ T ≠ 45 ∧ ∀ l, t ≠ .both l) := by
  cases h with
  | both vs l hn hc hl => exact .inl ⟨_, _, vs, l, rfl, rfl, hn, hc, hl⟩
  | _ => exact .inr ⟨_, _, rfl, by decide, fun l e => by cases e⟩
theorem term_either {S : Nat → Prop} {w : World} {v : Value} {t : Term} (h : TermIs S w v t) : (∃ A c vs l, v = .iface 43 (.slice A l.length c) ∧ t = .either l ∧ vs.length = l.length ∧ Cells S w A vs ∧ ∀ (i : Nat) (v : Value) (t : Term), vs[i]? = some v → l[i]? = some t → TermIs S w v t) ∨ (∃ T x, v = .iface T x ∧ T ≠ 43 ∧ ∀ l, t ≠ .either l) := by
  cases h with
  | either vs l hn hc hl => exact .inl ⟨_, _, vs, l, rfl, rfl, hn, hc, hl⟩
  | _ => exact .inr ⟨_, _, rfl, by decide, fun l e => by cases e⟩
theorem assert45_yes (W : World) (v : Value) : (Instr.typeAssert (.iface 45 v) 32 45 true).run Tryz.prog W = .ok (.tuple #[v, .bool true]) W := by kernel_rfl
theorem assert43_yes (W : World) (v : Value) : (Instr.typeAssert (.iface 43 v) 32 43 true).run Tryz.prog W = .ok (.tuple #[v, .bool true]) W := by kernel_rfl
theorem assert45_no (W : World) (u : TypeId) (v : Value) (h : u ≠ 45) : (Instr.typeAssert (.iface u v) 32 45 true).run Tryz.prog W = .ok (.tuple #[.slice none 0 0, .bool false]) W := by
  have e : (Instr.typeAssert (.iface u v) 32 45 true).run Tryz.prog W = (if u = 45 then (pure (Value.tuple #[v, .bool true]) : Sem Value) else (do pure (Value.tuple #[← zeroValue 45, .bool false]))).run Tryz.prog W := by kernel_rfl
  rw [e, if_neg h]
  have e2 : (do pure (Value.tuple #[← zeroValue 45, .bool false]) : Sem Value).run Tryz.prog W = .ok (.tuple #[.slice none 0 0, .bool false]) W := by kernel_rfl
  exact e2
theorem assert43_no (W : World) (u : TypeId) (v : Value) (h : u ≠ 43) : (Instr.typeAssert (.iface u v) 32 43 true).run Tryz.prog W = .ok (.tuple #[.slice none 0 0, .bool false]) W := by
  have e : (Instr.typeAssert (.iface u v) 32 43 true).run Tryz.prog W = (if u = 43 then (pure (Value.tuple #[v, .bool true]) : Sem Value) else (do pure (Value.tuple #[← zeroValue 43, .bool false]))).run Tryz.prog W := by kernel_rfl
  rw [e, if_neg h]
  have e2 : (do pure (Value.tuple #[← zeroValue 43, .bool false]) : Sem Value).run Tryz.prog W = .ok (.tuple #[.slice none 0 0, .bool false]) W := by kernel_rfl
  exact e2
/-- the head behind j words -/
theorem is_next (p : Pw) (i j : Nat) (kw : W) : isNext p (i + j) kw = true ↔ ((p.ws.drop i).drop j).head? = some kw := by
  unfold isNext
  rw [List.drop_drop, List.head?_drop]
  simp
/-- the list as a term -/
theorem rows_cells {Z : Nat} {w : World} {A : Option Addr} {n c : Nat} {vs : List Value} (h : w.ownsRow Z 32 1 (.slice A n c) n vs) : Cells (fun k => Z ≤ k) w A vs := by
  intro i hi
  obtain ⟨A', c', e, hc⟩ := owns_slice h
  cases e
  obtain ⟨ad, rfl, hcell⟩ := hc i _ (List.getElem?_eq_getElem hi)
  exact ⟨ad, rfl, (h.lt ad.block rfl).1, hcell⟩
theorem rows_both {Z : Nat} {w : World} {A : Option Addr} {c : Nat} {acc : List Term} (h : Rows Z w (.slice A acc.length c) acc) : TermIs (fun k => Z ≤ k) w (.iface 45 (.slice A acc.length c)) (.both acc) := by
  obtain ⟨vs, h1, h2, h3⟩ := h
  exact .both vs acc h1 (rows_cells h2) (fun i v t hv ht => (h3 i v t hv ht).mono (fun k _ hk => hk.1))
theorem rows_either {Z : Nat} {w : World} {A : Option Addr} {c : Nat} {acc : List Term} (h : Rows Z w (.slice A acc.length c) acc) : TermIs (fun k => Z ≤ k) w (.iface 43 (.slice A acc.length c)) (.either acc) := by
  obtain ⟨vs, h1, h2, h3⟩ := h
  exact .either vs acc h1 (rows_cells h2) (fun i v t hv ht => (h3 i v t hv ht).mono (fun k _ hk => hk.1))
theorem rows_one {Z : Nat} {w : World} {A : Option Addr} {n c : Nat} {t : Term} (h : Rows Z w (.slice A n c) [t]) : ∃ ad v, A = some ad ∧ w.cell? (ad.add 0) = some v ∧ TermIs (fun k => Z ≤ k) w v t := by
  obtain ⟨vs, h1, h2, h3⟩ := h
  match vs, h1 with
  | [v], _ =>
    obtain ⟨A', c', e, hc⟩ := owns_slice h2
    cases e
    obtain ⟨ad, rfl, hcell⟩ := hc 0 v rfl
    exact ⟨ad, v, rfl, hcell, (h3 0 v t rfl rfl).mono (fun k _ hk => hk.1)⟩
end Go.Proofs.YtcdhkeahcliefaaGreatDoor.ParseR
/- The program's parser: and. -/
namespace Go.Proofs.YtcdhkeahcliefaaGreatDoor.ParseA
open Go.ChangeShapes Go.WideShapes Go.ChangeAt Go.RowKit
open Go.Proofs.YtcdhkeahcliefaaGreatDoor.Kit Go.Proofs.YtcdhkeahcliefaaGreatDoor.Base Go.Proofs.YtcdhkeahcliefaaGreatDoor.PatA Go.Proofs.YtcdhkeahcliefaaGreatDoor.Tok Go.Proofs.YtcdhkeahcliefaaGreatDoor.TokB Go.Proofs.YtcdhkeahcliefaaGreatDoor.TokD Go.Proofs.YtcdhkeahcliefaaGreatDoor.Term Go.Proofs.YtcdhkeahcliefaaGreatDoor.TermB Go.Proofs.YtcdhkeahcliefaaGreatDoor.Syn Go.Proofs.YtcdhkeahcliefaaGreatDoor.ParseU Go.Proofs.YtcdhkeahcliefaaGreatDoor.ParseR
set_option linter.unusedVariables false
set_option maxRecDepth 100000 in
set_option maxHeartbeats 6400000 in
theorem and_any (o : Nat) (one : List W → Res) (hfine : Hid (Fine one)) (hone : Hid (∀ (p : Pw) (i : Nat) (w : World), Hid p.Ok → Hid (Words p) → Hid (Pr p w i o) → Calls Tryz.prog 53 #[.pointer (some ⟨p.P, 0, none⟩)] w (TermPost p i o (one (p.ws.drop i)))))
    (p : Pw) (i : Nat) (w : World) (hp : Hid p.Ok) (hw : Hid (Words p)) (h0 : Hid (Pr p w i o)) : Calls Tryz.prog 36 #[.pointer (some ⟨p.P, 0, none⟩)] w (TermPost p i o (andF one (p.ws.drop i))) := by
  have HW9 : Hid (p.ws.length ≤ 1024) := hp.out.2.2
  obtain ⟨R0, hR0⟩ : ∃ R0, seqF one wAnd flatB ((p.ws.drop i).length + 1) (p.ws.drop i) = R0 := ⟨_, rfl⟩
  have HR0 := Lib.hid hR0
  have HRES : Hid (andF one (p.ws.drop i) = pk packB R0) := by show _ = _; rw [← hR0]; rfl
  rw [HRES.out]
  obtain ⟨Z, hZ⟩ : ∃ Z, w.heap.size = Z := ⟨_, rfl⟩
  have HS0 : Hid (St p Z (w.alloc (.cells #[] 32)) (.slice (some ⟨Z, 0, none⟩) 0 0) [] i o) := by
    subst hZ
    exact ⟨h0.out.next ((Below.refl _ _).alloc (Nat.le_refl _) _), ⟨[], rfl, World.ownsRow_made w #[] 0 (Nat.le_refl _) (by decide) rfl, fun i u t hu => by cases hu⟩, h0.out.2.2.2.2.1.size, by simp⟩
  clear hR0 HRES
  go_enter Tryz.func36, Tryz.ntmps36
  go_wp2_with fail
  refine gen_world (fun w' => Hid (St p Z w' (.slice (some ⟨Z, 0, none⟩) 0 0) [] i o)) HS0 ?_
  clear HS0 hZ h0 w
  rintro w h0
  go_loopg [3] ((p.ws.drop i).length + 1) (fun g s wr => ∃ (g0 k : Nat) (acc : List Term) (A : Option Addr) (c : Nat), g = g0 + 1 ∧ s = .slice A acc.length c ∧ Hid (St p Z wr (.slice A acc.length c) acc (i + k) o) ∧ Hid (acc.length ≤ k ∧ (p.ws.drop (i + k)).length < g0 + 1 ∧ R0 = ext acc k (seqF one wAnd flatB (g0 + 1) (p.ws.drop (i + k)))))
  case atStart => exact ⟨(p.ws.drop i).length, 0, [], _, _, rfl, rfl, h0, Nat.zero_le _, Nat.lt_succ_self _, by rw [ext_nil]; exact HR0.out.symm⟩
  case round =>
    obtain ⟨g0, k, acc, A, c, rfl, rfl, hs, hrel2⟩ := hrel
    have HC := Lib.hid (hone.out { p with w1 := wr } (i + k) wr hp hw hs.out.1.fresh)
    obtain ⟨r, hr⟩ : ∃ r, one (p.ws.drop (i + k)) = r := ⟨_, rfl⟩
    have HR := Lib.hid hr
    have HC : Hid (Calls Tryz.prog 53 #[.pointer (some ⟨p.P, 0, none⟩)] wr (TermPost { p with w1 := wr } (i + k) o r)) := by rw [← HR.out]; exact HC.out
    clear hr
    go_wp2_with fail
    refine HC.out.mono ?_
    clear HC
    rintro e w2 (⟨x, rfl, he, h2⟩ | ⟨t, j, v, rfl, rfl, ht, h2⟩)
    · have HE : Hid (R0 = .error x) := hrel2.out.2.2.trans (ext_err HR.out)
      unfold Threw at he
      subst he
      go_wp2_with fail
      exact ⟨rfl, .inl ⟨x, by rw [HE.out]; rfl, rfl, h2⟩⟩
    have HPB := Lib.hid (hfine.out _ _ _ HR.out)
    have hs2 : Hid (St p Z w2 (.slice A acc.length c) acc (i + k + j) o) := hs.out.call h2.out
    have ht2 : Hid (TermIs (Off Z (.slice A acc.length c)) w2 v t) := hs.out.fresh ht.out
    have HLE : Hid (k + j ≤ 1024) := by
      have h1 := HPB.out.2
      rw [List.length_drop] at h1
      have h2 := HW9.out
      have h3 := hs.out.1.2.2.1
      have h4 := HPB.out.1.1
      show _ ≤ _
      omega
    have HNX : Hid (∀ kk, kk = wAnd → (isNext p (i + k + j) kk = true ↔ ((p.ws.drop (i + k)).drop j).head? = some wAnd)) := fun kk hk => by rw [hk]; exact is_next p (i + k) j wAnd
    clear hs ht h2
    rcases term_both ht2.out with ⟨A2, c2, vs, l, rfl, rfl, hvn, hvc, hvt⟩ | ⟨T, x, rfl, hT, hTl⟩
    · have hl2 := HPB.out.1.2.2.2.1 l rfl
      have HL0 : Hid (0 < l.length) := by show _ < _; omega
      have HVS := Lib.hid hvn
      have HFL : Hid (flatB (.both l) = l) := rfl
      have HLL : Hid (l.length ≤ j) := HPB.out.1.2.1
      have HTWO : Hid (2 ≤ acc.length + l.length) := by show _ ≤ _; omega
      have HB : Hid (acc.length + l.length ≤ 1024) := by have h1 := HLE.out; have h2 := HLL.out; have h3 := hrel2.out.1; show _ ≤ _; omega
      obtain ⟨ad, hA2, hS2, hc2⟩ := hvc 0 (by omega)
      subst hA2
      have HNW : Hid (∀ (j : Nat) u, vs[j]? = some u → w2.cell? (ad.add j) = some u) := fun j u hu => by
        obtain ⟨hj, e⟩ := List.getElem?_eq_some_iff.1 hu
        obtain ⟨ad', e2, _, hc⟩ := hvc j hj
        cases e2
        rw [← e]
        exact hc
      have HONE : Hid (∀ u ∈ vs, u.oneCell' = true) := fun u hu => by
        obtain ⟨j, hj, e⟩ := List.getElem_of_mem hu
        exact term_one (hvt j u l[j] (by rw [List.getElem?_eq_getElem hj, e]) (List.getElem?_eq_getElem (by omega)))
      have HT2 := Lib.hid hvt
      have a1 := assert45_yes
      clear hl2 hvn hvc hvt hc2 hS2 ht2 HPB
      go_upto_region 8 with (first | (at_builtin; go_loud (refine app_rows 45 el45 rfl (.tmp 16) (.tmp 17) rfl (p := p) (Z := Z) (acc := acc) (ts := l) (us := vs) rfl hs2 ad l.length c2 rfl HL0.out HVS.out rfl HNW HONE HT2 (acc.length + l.length) rfl HB ?_); intro g7 c7 w7 h7))
      clear hs2
      have HTK := Lib.hid (take_any { p with w1 := w7 } (i + k + j) o wAnd w7 hp h7.out.1.fresh)
      have HTK : Hid (Calls Tryz.prog 37 #[.pointer (some ⟨p.P, 0, none⟩), .string ⟨#[97, 110, 100]⟩] w7 (TakePost { p with w1 := w7 } (i + k + j) o wAnd)) := HTK
      go_wp2_with fail
      refine HTK.out.mono ?_
      clear HTK
      rintro e w8 (⟨hn, rfl, h8⟩ | ⟨hn, rfl, h8⟩)
      · have hhd := (HNX.out _ rfl).1 hn
        have h9 : Hid (St p Z w8 (.slice (some ⟨g7, 0, none⟩) (acc ++ l).length c7) (acc ++ l) (i + k + j + 1) o) := h7.out.call h8.out
        have HMORE : Hid (R0 = ext (acc ++ l) (k + (j + 1)) (seqF one wAnd flatB g0 (p.ws.drop (i + (k + (j + 1)))))) := by
          show _ = _
          rw [hrel2.out.2.2, ext_more HR.out hhd, HFL.out, List.drop_drop]
          rw [show i + k + (j + 1) = i + (k + (j + 1)) from by omega]
        have HLN : Hid ((p.ws.drop (i + (k + (j + 1)))).length < g0) := by
          have h1 := hrel2.out.2.1
          have h2 := head_len hhd
          rw [List.length_drop] at h1 h2
          show _ < _
          rw [List.length_drop]
          omega
        clear hn hhd h8 h7
        go_wp2_with fail
        obtain ⟨g1, rfl⟩ : ∃ g1, g0 = g1 + 1 := ⟨g0 - 1, by have := HLN.out; omega⟩
        go_roundg (g1 + 1)
        case measure => omega
        case rel => exact ⟨g1, k + (j + 1), acc ++ l, _, c7, rfl, by first | (rw [List.length_append]; rfl) | rw [List.length_append], by rw [show i + (k + (j + 1)) = i + k + j + 1 from by omega]; exact h9, by have h1 := HLL.out; have h2 := hrel2.out.1; show _ ≤ _; rw [List.length_append]; omega, HLN.out, HMORE.out⟩
      · have hhd : ¬ ((p.ws.drop (i + k)).drop j).head? = some wAnd := fun h => by have e : isNext p (i + k + j) wAnd = false := hn; rw [(HNX.out _ rfl).2 h] at e; cases e
        have h9 : Hid (St p Z w8 (.slice (some ⟨g7, 0, none⟩) (acc ++ l).length c7) (acc ++ l) (i + k + j) o) := h7.out.call h8.out
        have HEND : Hid (R0 = .ok (acc ++ l, k + j)) := by
          show _ = _
          rw [hrel2.out.2.2, ext_end HR.out hhd, HFL.out]
        clear hn hhd h8 h7
        have HT8 := Lib.hid (rows_both h9.out.2.1)
        have HMANY : Hid (2 ≤ (acc ++ l).length) := by show _ ≤ _; rw [List.length_append]; exact HTWO.out
        have e8 : (((acc.length + l.length : Nat) : Int) == 1) = false := beq_eq_false_iff_ne.2 (by have h : 2 ≤ acc.length + l.length := HTWO.out; omega)
        have HN8 : Hid ((acc ++ l).length = acc.length + l.length) := List.length_append
        generalize acc.length + l.length = n8 at *
        go_wp2_with fail
        go_ret
        exact .inr ⟨_, _, _, by rw [HEND.out]; show Except.ok (packB _, _) = _; rw [packB_many HMANY.out], rfl, by rw [← HN8.out]; exact HT8.out.mono (fun k _ hk => Nat.le_trans h9.out.2.2.1 hk), by rw [show i + (k + j) = i + k + j from by omega]; exact h9.out.1⟩
    · have a1 : ∀ W, (Instr.typeAssert (.iface T x) 32 45 true).run Tryz.prog W = .ok (.tuple #[.slice none 0 0, .bool false]) W := fun W => assert45_no W T x hT
      have HFL : Hid (flatB t = [t]) := flatB_self hTl
      have HLL : Hid ([t].length ≤ j) := HPB.out.1.1
      have HB : Hid (acc.length + 1 ≤ 1024) := by have h1 := HLE.out; have h2 := HPB.out.1.1; have h3 := hrel2.out.1; show _ ≤ _; omega
      have HT1 : Hid (∀ (n : Nat) u t', [Value.iface T x][n]? = some u → [t][n]? = some t' → TermIs (Off Z (.slice A acc.length c)) (w2.alloc (.cells #[.iface T x] 32)) u t') := fun n u t' hu ht => by
        cases n with
        | zero => cases hu; cases ht; exact ht2.out.later ((Below.refl _ _).alloc (Nat.le_refl _) _)
        | succ n => cases hu
      have HNW := Lib.hid (news_one w2 (.iface T x) 32)
      have HONE := Lib.hid (one_cell (.iface T x) rfl)
      clear ht2 hT hTl HPB
      by_cases ha : acc = []
      · subst ha
        go_upto_region 8 with (first | (at_builtin; go_loud (refine app_rows 45 el45 rfl (.tmp 9) (.tmp 11) rfl (p := p) (Z := Z) (acc := []) (ts := [t]) (us := [.iface T x]) rfl (hs2.out.alloc (.cells #[.iface T x] 32)) ⟨w2.heap.size, 0, none⟩ 1 1 rfl (by decide) rfl rfl HNW HONE HT1 1 rfl HB ?_); intro g7 c7 w7 h7))
        clear hs2
        have HTK := Lib.hid (take_any { p with w1 := w7 } (i + k + j) o wAnd w7 hp h7.out.1.fresh)
        have HTK : Hid (Calls Tryz.prog 37 #[.pointer (some ⟨p.P, 0, none⟩), .string ⟨#[97, 110, 100]⟩] w7 (TakePost { p with w1 := w7 } (i + k + j) o wAnd)) := HTK
        go_wp2_with fail
        refine HTK.out.mono ?_
        clear HTK
        rintro e w8 (⟨hn, rfl, h8⟩ | ⟨hn, rfl, h8⟩)
        · have hhd := (HNX.out _ rfl).1 hn
          have h9 : Hid (St p Z w8 (.slice (some ⟨g7, 0, none⟩) ([] ++ [t]).length c7) ([] ++ [t]) (i + k + j + 1) o) := h7.out.call h8.out
          have HMORE : Hid (R0 = ext ([] ++ [t]) (k + (j + 1)) (seqF one wAnd flatB g0 (p.ws.drop (i + (k + (j + 1)))))) := by
            show _ = _
            rw [hrel2.out.2.2, ext_more HR.out hhd, HFL.out, List.drop_drop]
            rw [show i + k + (j + 1) = i + (k + (j + 1)) from by omega]
          have HLN : Hid ((p.ws.drop (i + (k + (j + 1)))).length < g0) := by
            have h1 := hrel2.out.2.1
            have h2 := head_len hhd
            rw [List.length_drop] at h1 h2
            show _ < _
            rw [List.length_drop]
            omega
          clear hn hhd h8 h7
          go_wp2_with fail
          obtain ⟨g1, rfl⟩ : ∃ g1, g0 = g1 + 1 := ⟨g0 - 1, by have := HLN.out; omega⟩
          go_roundg (g1 + 1)
          case measure => omega
          case rel => exact ⟨g1, k + (j + 1), [] ++ [t], _, c7, rfl, by first | (rw [List.length_append]; rfl) | rw [List.length_append], by rw [show i + (k + (j + 1)) = i + k + j + 1 from by omega]; exact h9, by have h1 := HLL.out; have h2 := hrel2.out.1; show _ ≤ _; rw [List.length_append]; omega, HLN.out, HMORE.out⟩
        · have hhd : ¬ ((p.ws.drop (i + k)).drop j).head? = some wAnd := fun h => by have e : isNext p (i + k + j) wAnd = false := hn; rw [(HNX.out _ rfl).2 h] at e; cases e
          have h9 : Hid (St p Z w8 (.slice (some ⟨g7, 0, none⟩) ([] ++ [t]).length c7) ([] ++ [t]) (i + k + j) o) := h7.out.call h8.out
          have HEND : Hid (R0 = .ok ([] ++ [t], k + j)) := by
            show _ = _
            rw [hrel2.out.2.2, ext_end HR.out hhd, HFL.out]
          clear hn hhd h8 h7
          obtain ⟨ad8, v8, hA8, hc8, ht8⟩ := rows_one h9.out.2.1
          have HT8 := Lib.hid ht8
          cases hA8
          have hc8 : w8.cell? ⟨g7, 0, none⟩ = some v8 := hc8
          clear ht8
          go_wp2_with fail
          go_ret
          exact .inr ⟨_, _, _, by rw [HEND.out]; rfl, rfl, HT8.out.mono (fun k _ hk => Nat.le_trans h9.out.2.2.1 hk), by rw [show i + (k + j) = i + k + j from by omega]; exact h9.out.1⟩
      · have HTWO : Hid (2 ≤ acc.length + [t].length) := by
          cases acc with
          | nil => exact absurd rfl ha
          | cons a acc => show 2 ≤ acc.length + 1 + 1; omega
        clear ha
        go_upto_region 8 with (first | (at_builtin; go_loud (refine app_rows 45 el45 rfl (.tmp 9) (.tmp 11) rfl (p := p) (Z := Z) (acc := acc) (ts := [t]) (us := [.iface T x]) rfl (hs2.out.alloc (.cells #[.iface T x] 32)) ⟨w2.heap.size, 0, none⟩ 1 1 rfl (by decide) rfl rfl HNW HONE HT1 (acc.length + 1) rfl HB ?_); intro g7 c7 w7 h7))
        clear hs2
        have HTK := Lib.hid (take_any { p with w1 := w7 } (i + k + j) o wAnd w7 hp h7.out.1.fresh)
        have HTK : Hid (Calls Tryz.prog 37 #[.pointer (some ⟨p.P, 0, none⟩), .string ⟨#[97, 110, 100]⟩] w7 (TakePost { p with w1 := w7 } (i + k + j) o wAnd)) := HTK
        go_wp2_with fail
        refine HTK.out.mono ?_
        clear HTK
        rintro e w8 (⟨hn, rfl, h8⟩ | ⟨hn, rfl, h8⟩)
        · have hhd := (HNX.out _ rfl).1 hn
          have h9 : Hid (St p Z w8 (.slice (some ⟨g7, 0, none⟩) (acc ++ [t]).length c7) (acc ++ [t]) (i + k + j + 1) o) := h7.out.call h8.out
          have HMORE : Hid (R0 = ext (acc ++ [t]) (k + (j + 1)) (seqF one wAnd flatB g0 (p.ws.drop (i + (k + (j + 1)))))) := by
            show _ = _
            rw [hrel2.out.2.2, ext_more HR.out hhd, HFL.out, List.drop_drop]
            rw [show i + k + (j + 1) = i + (k + (j + 1)) from by omega]
          have HLN : Hid ((p.ws.drop (i + (k + (j + 1)))).length < g0) := by
            have h1 := hrel2.out.2.1
            have h2 := head_len hhd
            rw [List.length_drop] at h1 h2
            show _ < _
            rw [List.length_drop]
            omega
          clear hn hhd h8 h7
          go_wp2_with fail
          obtain ⟨g1, rfl⟩ : ∃ g1, g0 = g1 + 1 := ⟨g0 - 1, by have := HLN.out; omega⟩
          go_roundg (g1 + 1)
          case measure => omega
          case rel => exact ⟨g1, k + (j + 1), acc ++ [t], _, c7, rfl, by first | (rw [List.length_append]; rfl) | rw [List.length_append], by rw [show i + (k + (j + 1)) = i + k + j + 1 from by omega]; exact h9, by have h1 := HLL.out; have h2 := hrel2.out.1; show _ ≤ _; rw [List.length_append]; omega, HLN.out, HMORE.out⟩
        · have hhd : ¬ ((p.ws.drop (i + k)).drop j).head? = some wAnd := fun h => by have e : isNext p (i + k + j) wAnd = false := hn; rw [(HNX.out _ rfl).2 h] at e; cases e
          have h9 : Hid (St p Z w8 (.slice (some ⟨g7, 0, none⟩) (acc ++ [t]).length c7) (acc ++ [t]) (i + k + j) o) := h7.out.call h8.out
          have HEND : Hid (R0 = .ok (acc ++ [t], k + j)) := by
            show _ = _
            rw [hrel2.out.2.2, ext_end HR.out hhd, HFL.out]
          clear hn hhd h8 h7
          have HT8 := Lib.hid (rows_both h9.out.2.1)
          have HMANY : Hid (2 ≤ (acc ++ [t]).length) := by show _ ≤ _; rw [List.length_append]; exact HTWO.out
          have e8 : (((acc.length + 1 : Nat) : Int) == 1) = false := beq_eq_false_iff_ne.2 (by have h : 2 ≤ acc.length + 1 := HTWO.out; omega)
          have HN8 : Hid ((acc ++ [t]).length = acc.length + 1) := List.length_append
          generalize acc.length + 1 = n8 at *
          go_wp2_with fail
          go_ret
          exact .inr ⟨_, _, _, by rw [HEND.out]; show Except.ok (packB _, _) = _; rw [packB_many HMANY.out], rfl, by rw [← HN8.out]; exact HT8.out.mono (fun k _ hk => Nat.le_trans h9.out.2.2.1 hk), by rw [show i + (k + j) = i + k + j from by omega]; exact h9.out.1⟩
end Go.Proofs.YtcdhkeahcliefaaGreatDoor.ParseA
