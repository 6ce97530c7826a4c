/- The program's words of a line: blank, barred, meant, end, inQuotes. -/
import Derived.Test.YtcdhkeahcliefaaGreatDoorPrint07
namespace Go.Proofs.YtcdhkeahcliefaaGreatDoor.LexF
open Go.ChangeShapes Go.WideShapes Go.ChangeAt Go.RowKit
open Go.Proofs.YtcdhkeahcliefaaGreatDoor.Kit Go.Proofs.YtcdhkeahcliefaaGreatDoor.Base Go.Proofs.YtcdhkeahcliefaaGreatDoor.Bld Go.Proofs.YtcdhkeahcliefaaGreatDoor.Lex Go.Proofs.YtcdhkeahcliefaaGreatDoor.LexB Go.Proofs.YtcdhkeahcliefaaGreatDoor.LexC
set_option linter.unusedVariables false

/-- where the call's own memory begins; its iterator over a text -/
structure En where
  (z k : Nat) (S : ByteArray) (i : Nat)
def SinceI (Z : En) (w0 w : World) : Prop := Since Z.z w0 w ∧ w.heap[Z.k]? = some (.stringIter Z.S Z.i)
theorem SinceI.drew {Z : En} {w0 w : World} (h : SinceI Z w0 w) : SinceI Z w0 w.drew := ⟨h.1.drew, h.2⟩
theorem SinceI.next {Z : En} {w0 w w' : World} (h : SinceI Z w0 w) (hb : Below w.heap.size w w') : SinceI Z w0 w' := ⟨h.1.next hb, (hb.block _ (Array.getElem?_eq_some_iff.1 h.2).1).trans h.2⟩
theorem SinceI.alloc {Z : En} {w0 w : World} (h : SinceI Z w0 w) (o : Obj) : SinceI Z w0 (w.alloc o) := h.next ((Below.refl _ _).alloc (Nat.le_refl _) _)
theorem SinceI.set {Z : En} {w0 w : World} {P j : Nat} {u : Value} {cs : Array Value} {T : TypeId} (h : SinceI Z w0 w) (hP : Z.z ≤ P) (hk : Blk w P cs T) : SinceI Z w0 (w.setCell ⟨P, j, none⟩ u) := by
  refine ⟨h.1.set hP, (Below.heap_setCell w ⟨P, j, none⟩ u Z.k ?_).trans h.2⟩
  intro e
  have e : Z.k = P := e
  have h2 := h.2
  rw [e] at h2
  have hk2 : w.heap[P]? = some (.cells cs T (0, 0)) := hk
  rw [h2] at hk2
  cases hk2
theorem SinceI.kept {Z : En} {w0 w w' : World} {e : TypeId} (h : SinceI Z w0 w) (hs : Since Z.z w0 w') (hk : Keeps e w w') : SinceI Z w0 w' := ⟨hs, hk _ _ (fun cs fr h => by cases h) h.2⟩
/-- the program's reader at block P -/
def RmV (Z : En) (P : Nat) (w0 w : World) (s : Lx) (vw vs : Value) : Prop := SinceI Z w0 w ∧ Z.z ≤ P ∧ Blk w P #[.int .i64 s.pos, vw, vs, .int .i64 s.dig] 95 ∧ w.ownsRow Z.z 5 1 vw s.word.length (Lib.byteCells s.word) ∧ w.ownsRow Z.z 9 1 vs s.words.length (strs s.words)
def Rm (Z : En) (P : Nat) (w0 w : World) (s : Lx) : Prop := ∃ vw vs, RmV Z P w0 w s vw vs
section
variable {Z : En} {P : Nat} {w0 w w' : World} {s : Lx} {vw vs : Value}
theorem RmV.setPos (h : RmV Z P w0 w s vw vs) (q : Nat) : RmV Z P w0 (w.setCell ⟨P, 0, none⟩ (.int .i64 q)) { s with pos := q } vw vs :=
  ⟨h.1.set h.2.1 h.2.2.1, h.2.1, h.2.2.1.put 0 _, owns_set h.2.2.2.1 h.2.2.1 (by decide), owns_set h.2.2.2.2 h.2.2.1 (by decide)⟩
theorem RmV.setDig (h : RmV Z P w0 w s vw vs) (q : Int) : RmV Z P w0 (w.setCell ⟨P, 3, none⟩ (.int .i64 q)) { s with dig := q } vw vs :=
  ⟨h.1.set h.2.1 h.2.2.1, h.2.1, h.2.2.1.put 3 _, owns_set h.2.2.2.1 h.2.2.1 (by decide), owns_set h.2.2.2.2 h.2.2.1 (by decide)⟩
theorem RmV.clear (h : RmV Z P w0 w s vw vs) : RmV Z P w0 (w.setCell ⟨P, 1, none⟩ (.slice none 0 0)) { s with word := [] } (.slice none 0 0) vs :=
  ⟨h.1.set h.2.1 h.2.2.1, h.2.1, h.2.2.1.put 1 _, ⟨rfl, .inl ⟨rfl, rfl⟩⟩, owns_set h.2.2.2.2 h.2.2.1 (by decide)⟩
theorem RmV.drew (h : RmV Z P w0 w s vw vs) : RmV Z P w0 w.drew s vw vs := ⟨h.1.drew, h.2⟩
theorem RmV.next (h : RmV Z P w0 w s vw vs) (hb : Below w.heap.size w w') : RmV Z P w0 w' s vw vs := ⟨h.1.next hb, h.2.1, h.2.2.1.below hb h.2.2.1.lt, owns_below h.2.2.2.1 hb, owns_below h.2.2.2.2 hb⟩
theorem Rm.next (h : Rm Z P w0 w s) (hb : Below w.heap.size w w') : Rm Z P w0 w' s := by
  obtain ⟨vw, vs, h⟩ := h
  exact ⟨vw, vs, h.next hb⟩
theorem RmV.raw (h : Hid (RmV Z P w0 w s vw vs)) : Hid (Since Z.z w0 w ∧ w.ownsRow Z.z 5 1 vw s.word.length (Lib.byteCells s.word)) := ⟨h.out.1.1, h.out.2.2.2.1⟩
theorem RmV.raws (h : Hid (RmV Z P w0 w s vw vs)) : Hid (Since Z.z w0 w ∧ w.ownsRow Z.z 9 1 vs s.words.length (strs s.words)) := ⟨h.out.1.1, h.out.2.2.2.2⟩
theorem RmV.push (h : RmV Z P w0 w s vw vs) (r : List UInt8) {v' : Value} {xs : List Value} {m : Nat} (hm : m = s.word.length + r.length) (hx : xs = Lib.byteCells r) (h7 : Since Z.z w0 w' ∧ w'.ownsRow Z.z 5 1 v' m (Lib.byteCells s.word ++ xs)) (hk : Keeps 5 w w') :
    RmV Z P w0 (w'.setCell ⟨P, 1, none⟩ v') { s with word := s.word ++ r } v' vs := by
  have hb := hk.blk h.2.2.1 (by decide)
  refine ⟨(h.1.kept h7.1 hk).set h.2.1 hb, h.2.1, hb.put 1 _, ?_, owns_set (hk.owns h.2.2.2.2 (by decide)) hb (by decide)⟩
  show World.ownsRow _ Z.z 5 1 v' (s.word ++ r).length (Lib.byteCells (s.word ++ r))
  rw [List.length_append, byteCells_append]
  subst hx hm
  exact owns_set h7.2 hb (by decide)
theorem RmV.word (h : RmV Z P w0 w s vw vs) {v' : Value} {xs : List Value} (hx : xs = [.string (str s.word)]) (h7 : Since Z.z w0 w' ∧ w'.ownsRow Z.z 9 1 v' (s.words.length + 1) (strs s.words ++ xs)) (hk : Keeps 9 w w') :
    RmV Z P w0 (w'.setCell ⟨P, 2, none⟩ v') { s with words := s.words ++ [s.word] } vw v' := by
  have hb := hk.blk h.2.2.1 (by decide)
  refine ⟨(h.1.kept h7.1 hk).set h.2.1 hb, h.2.1, hb.put 2 _, owns_set (hk.owns h.2.2.2.1 (by decide)) hb (by decide), ?_⟩
  show World.ownsRow _ Z.z 9 1 v' (s.words ++ [s.word]).length (LexB.strs (s.words ++ [s.word]))
  rw [List.length_append, show LexB.strs (s.words ++ [s.word]) = LexB.strs s.words ++ [.string (str s.word)] from by simp [LexB.strs]]
  subst hx
  exact owns_set h7.2 hb (by decide)
end
theorem eqf {c k : Nat} (h : c ≠ k) : ((c : Int) == (k : Int)) = false := beq_eq_false_iff_ne.2 (by omega)
theorem eqt {c k : Nat} (h : c = k) : ((c : Int) == (k : Int)) = true := beq_iff_eq.2 (by omega)
set_option maxRecDepth 100000 in
theorem blank_any (c : Nat) (w : World) : Calls Tryz.prog 32 #[.int .i32 (c : Int)] w fun e w' => e = .returned (.bool (isBlank c)) ∧ w = w' := by
  by_cases h1 : c = 32
  · subst h1
    go_enter Tryz.func32, Tryz.ntmps32
    go_wp2_with fail
    go_ret
    exact ⟨rfl, rfl⟩
  by_cases h2 : c = 9
  · subst h2
    go_enter Tryz.func32, Tryz.ntmps32
    go_wp2_with fail
    go_ret
    exact ⟨rfl, rfl⟩
  have e1 : ((c : Int) == 32) = false := beq_eq_false_iff_ne.2 (by omega)
  have e2 : ((c : Int) == 9) = false := beq_eq_false_iff_ne.2 (by omega)
  have HB : Hid (isBlank c = false) := by show _ = _; unfold isBlank; simp [h1, h2]
  clear h1 h2
  rw [HB.out]
  go_enter Tryz.func32, Tryz.ntmps32
  go_wp2_with fail
  go_ret
  exact ⟨rfl, rfl⟩
set_option maxRecDepth 100000 in
theorem barred_any (c : Nat) (w : World) : Calls Tryz.prog 34 #[.int .i32 (c : Int)] w fun e w' => e = .returned (.bool (isBarred c)) ∧ w = w' := by
  by_cases h1 : c < 32
  · have e1 : (c : Int) < 32 := by omega
    have HB : Hid (isBarred c = true) := by show _ = _; unfold isBarred; simp [h1]
    clear h1
    rw [HB.out]
    go_enter Tryz.func34, Tryz.ntmps34
    go_wp2_with fail
    go_ret
    exact ⟨rfl, rfl⟩
  have e1 : ¬ ((c : Int) < 32) := by omega
  by_cases h2 : c = 127
  · have e2 : ((c : Int) == 127) = true := beq_iff_eq.2 (by omega)
    have HB : Hid (isBarred c = true) := by show _ = _; unfold isBarred; simp [h2]
    clear h1 h2
    rw [HB.out]
    go_enter Tryz.func34, Tryz.ntmps34
    go_wp2_with fail
    go_ret
    exact ⟨rfl, rfl⟩
  have e2 : ((c : Int) == 127) = false := beq_eq_false_iff_ne.2 (by omega)
  have HB : Hid (isBarred c = false) := by show _ = _; unfold isBarred; simp [h1, h2]
  clear h1 h2
  rw [HB.out]
  go_enter Tryz.func34, Tryz.ntmps34
  go_wp2_with fail
  go_ret
  exact ⟨rfl, rfl⟩
def mean (c : Nat) : Nat := if c = 92 ∨ c = 34 then c else if c = 110 then 10 else if c = 116 then 9 else 0
set_option maxRecDepth 100000 in
theorem meant_any (c : Nat) (w : World) : Calls Tryz.prog 51 #[.int .i32 (c : Int)] w fun e w' => e = .returned (.int .u8 (mean c)) ∧ w = w' := by
  by_cases h1 : c = 92
  · subst h1
    go_enter Tryz.func51, Tryz.ntmps51
    go_wp2_with fail
    go_ret
    exact ⟨rfl, rfl⟩
  by_cases h2 : c = 34
  · subst h2
    go_enter Tryz.func51, Tryz.ntmps51
    go_wp2_with fail
    go_ret
    exact ⟨rfl, rfl⟩
  by_cases h3 : c = 110
  · subst h3
    go_enter Tryz.func51, Tryz.ntmps51
    go_wp2_with fail
    go_ret
    exact ⟨rfl, rfl⟩
  by_cases h4 : c = 116
  · subst h4
    go_enter Tryz.func51, Tryz.ntmps51
    go_wp2_with fail
    go_ret
    exact ⟨rfl, rfl⟩
  have e1 : ((c : Int) == 92) = false := beq_eq_false_iff_ne.2 (by omega)
  have e2 : ((c : Int) == 34) = false := beq_eq_false_iff_ne.2 (by omega)
  have e3 : ((c : Int) == 110) = false := beq_eq_false_iff_ne.2 (by omega)
  have e4 : ((c : Int) == 116) = false := beq_eq_false_iff_ne.2 (by omega)
  have HB : Hid (mean c = 0) := by show _ = _; unfold mean; simp [h1, h2, h3, h4]
  clear h1 h2 h3 h4
  rw [HB.out]
  go_enter Tryz.func51, Tryz.ntmps51
  go_wp2_with fail
  go_ret
  exact ⟨rfl, rfl⟩
set_option maxRecDepth 100000 in
set_option maxHeartbeats 1600000 in
theorem end_any (Z : En) (P q : Nat) (w0 w : World) (s : Lx) (h : Hid (Rm Z P w0 w s)) (hs : Hid (Sm s)) :
    Calls Tryz.prog 33 #[.pointer (some ⟨P, 0, none⟩), .int .i64 (q : Int)] w fun e w' => e = .returned (.tuple #[]) ∧ Hid (Rm Z P w0 w' { endsS s with pos := q }) := by
  obtain ⟨vw, vs, hv⟩ := h.out
  have HV := Lib.hid hv
  have c1 : w.cell? ⟨P, 1, none⟩ = some vw := (hv.2.2.1.cell 1).trans rfl
  have c2 : w.cell? ⟨P, 2, none⟩ = some vs := (hv.2.2.1.cell 2).trans rfl
  have hcv : (convert 60 9 vw).run Tryz.prog w.drew = .ok (.string (str s.word)) w.drew := str_own hv.drew.2.2.2.1
  have c2a : (w.alloc (.cells #[.string (str s.word)] 9)).cell? ⟨P, 2, none⟩ = some vs := ((hv.2.2.1.alloc _).cell 2).trans rfl
  have HVA : Hid (RmV Z P w0 (w.alloc (.cells #[.string (str s.word)] 9)).drew s vw vs) := ⟨(HV.out.1.alloc _).drew, HV.out.2.1, HV.out.2.2.1.alloc _, alloc_owns HV.out.2.2.2.1 _, alloc_owns HV.out.2.2.2.2 _⟩
  have HNW : Hid (∀ j u, [Value.string (str s.word)][j]? = some u → (w.alloc (.cells #[.string (str s.word)] 9)).drew.cell? ((⟨w.heap.size, 0, none⟩ : Addr).add j) = some u) := news_one w _ 9
  clear hv h
  go_enter Tryz.func33, Tryz.ntmps33
  go_upto_region 0 with (fail)
  go_region_law (first | (refine step_at (v := vs) el22 rfl (.tmp 8) (.tmp 14) rfl rfl (RmV.raws HVA) ⟨w.heap.size, 0, none⟩ 1 1 [.string (str s.word)] rfl (by decide) rfl HNW (one_cell _ rfl) (by have := hs.out; unfold Sm at this; omega) ?_; intro A7 c7 w7 h7 hk7; have d2 : w7.cell? ⟨P, 2, none⟩ = some vs := ((hk7.out.blk HVA.out.2.2.1 (by decide)).cell 2).trans rfl; have f2 := (hk7.out.blk HVA.out.2.2.1 (by decide)).frozen 2))
  all_goals (
    have h8 : Hid (RmV Z P w0 (w7.setCell ⟨P, 2, none⟩ (.slice A7 (s.words.length + 1) c7)) { s with words := s.words ++ [s.word] } vw (.slice A7 (s.words.length + 1) c7)) := HVA.out.word rfl h7.out hk7.out
    clear d2 f2 c1 c2 hcv c2a
    generalize w7.setCell ⟨P, 2, none⟩ (.slice A7 (s.words.length + 1) c7) = w8 at *
    have e1 : w8.cell? ⟨P, 1, none⟩ = some vw := (h8.out.2.2.1.cell 1).trans rfl
    have g1 := h8.out.2.2.1.frozen 1
    have h9 : Hid (RmV Z P w0 (w8.setCell ⟨P, 1, none⟩ (.slice none 0 0)) (endsS s) (.slice none 0 0) (.slice A7 (s.words.length + 1) c7)) := h8.out.clear
    have e0 : (w8.setCell ⟨P, 1, none⟩ (.slice none 0 0)).cell? ⟨P, 0, none⟩ = some (.int .i64 s.pos) := (h9.out.2.2.1.cell 0).trans rfl
    have g0 := h9.out.2.2.1.frozen 0
    go_wp2_with fail
    go_end0
    exact ⟨rfl, _, _, h9.out.setPos q⟩)
/-- a rune within quotes, with its bytes -/
def iq (s : Lx) (c : Nat) (own : List UInt8) : Option Lx :=
  if s.pos = 2 then (if c = 34 then some { endsS s with pos := 6 } else if c = 92 then some { s with pos := 3 } else if isBarred c then none else some { s with word := s.word ++ own })
  else if s.pos = 3 then (if c = 120 then some { s with pos := 4 } else if mean c = 0 then none else some { s with pos := 2, word := s.word ++ [UInt8.ofNat (mean c)] })
  else if hexv c < 0 then none
  else if s.pos = 4 then some { s with dig := hexv c, pos := 5 }
  else some { s with pos := 2, word := s.word ++ [UInt8.ofNat (16 * s.dig + hexv c).toNat] }
/-- what inQuotes answers -/
def IqPost (Z : En) (P : Nat) (w0 : World) (r : Option Lx) (e : Ending) (w' : World) : Prop :=
  (r = none ∧ e = .returned (.bool false) ∧ Hid (SinceI Z w0 w')) ∨ (∃ t, r = some t ∧ e = .returned (.bool true) ∧ Hid (Rm Z P w0 w' t))
theorem Rm.since {Z : En} {P : Nat} {w0 w : World} {s : Lx} (h : Rm Z P w0 w s) : SinceI Z w0 w := by
  obtain ⟨vw, vs, h⟩ := h
  exact h.1
theorem mean_lt {c : Nat} (h : mean c ≠ 0) : mean c < 256 ∧ c < 128 := by
  unfold mean at h ⊢
  by_cases h1 : c = 92 ∨ c = 34
  · rw [if_pos h1]
    omega
  · rw [if_neg h1] at h ⊢
    by_cases h2 : c = 110
    · rw [if_pos h2]; omega
    · rw [if_neg h2] at h ⊢
      by_cases h3 : c = 116
      · rw [if_pos h3]; omega
      · rw [if_neg h3] at h
        exact absurd rfl h
set_option maxRecDepth 100000 in
set_option maxHeartbeats 1600000 in
theorem iq_2 (Z : En) (P c : Nat) (own : List UInt8) (w0 w : World) (s : Lx) (hp : s.pos = 2) (hc9 : c ≤ 1114111) (ho : own.length ≤ 4) (h : Hid (Rm Z P w0 w s)) (hs : Hid (Sm s)) :
    Calls Tryz.prog 35 #[.pointer (some ⟨P, 0, none⟩), .int .i32 (c : Int), .string (str own)] w (IqPost Z P w0 (iq s c own)) := by
  obtain ⟨vw, vs, hv⟩ := h.out
  have HV := Lib.hid hv
  have HC9 := Lib.hid hc9
  have HO := Lib.hid ho
  have c0 : w.cell? ⟨P, 0, none⟩ = some (.int .i64 2) := by rw [hv.2.2.1.cell 0, hp]; rfl
  have g0 := hv.2.2.1.frozen 0
  have c1 : w.cell? ⟨P, 1, none⟩ = some vw := (hv.2.2.1.cell 1).trans rfl
  have g1 := hv.2.2.1.frozen 1
  have c3 : w.cell? ⟨P, 3, none⟩ = some (.int .i64 s.dig) := (hv.2.2.1.cell 3).trans rfl
  have g3 := hv.2.2.1.frozen 3
  have HP := Lib.hid hp
  clear hv hp hc9 ho
  by_cases h34 : c = 34
  · have HR : Hid (iq s c own = some { endsS s with pos := 6 }) := by show _ = _; unfold iq; rw [if_pos HP.out, if_pos h34]
    have e34 : ((c : Int) == 34) = true := beq_iff_eq.2 (by omega)
    clear h34
    go_enter Tryz.func35, Tryz.ntmps35
    go_wp2_with fail
    refine (end_any Z P 6 w0 _ s h hs).mono ?_
    rintro e w2 ⟨rfl, h2⟩
    clear c0 c1 c3 g0 g1 g3
    go_wp2_with fail
    go_ret
    exact .inr ⟨_, HR.out, rfl, h2⟩
  have e34 : ((c : Int) == 34) = false := beq_eq_false_iff_ne.2 (by omega)
  by_cases h92 : c = 92
  · have HR : Hid (iq s c own = some { s with pos := 3 }) := by show _ = _; unfold iq; rw [if_pos HP.out, if_neg h34, if_pos h92]
    have e92 : ((c : Int) == 92) = true := beq_iff_eq.2 (by omega)
    clear h34 h92
    go_enter Tryz.func35, Tryz.ntmps35
    go_wp2_with fail
    go_ret
    exact .inr ⟨_, HR.out, rfl, _, _, HV.out.setPos 3⟩
  have e92 : ((c : Int) == 92) = false := beq_eq_false_iff_ne.2 (by omega)
  cases hb : isBarred c
  · have HR : Hid (iq s c own = some { s with word := s.word ++ own }) := by show _ = _; unfold iq; rw [if_pos HP.out, if_neg h34, if_neg h92, hb]; rfl
    have HB := Lib.hid hb
    have HSZ : Hid ((str own).size = own.length) := str_size own
    clear h34 h92 hb
    go_enter Tryz.func35, Tryz.ntmps35
    go_wp2_with fail
    refine (barred_any c _).mono ?_
    rintro e w2 ⟨rfl, rfl⟩
    rw [HB.out]
    go_wp2_with (first | (at_builtin; go_loud (refine app_str (v := vw) rfl (.tmp 19) (.tmp 20) rfl rfl (RmV.raw HV) (str own) rfl (by have := hs.out; unfold Sm at this; have := HSZ.out; have := HO.out; omega) ?_); intro A7 c7 w7 h7 hk7; have d1 : w7.cell? ⟨P, 1, none⟩ = some vw := ((hk7.out.blk HV.out.2.2.1 (by decide)).cell 1).trans rfl; have f1 := (hk7.out.blk HV.out.2.2.1 (by decide)).frozen 1))
    go_ret
    exact .inr ⟨_, HR.out, rfl, _, _, HV.out.push own (by rw [HSZ.out]) (by unfold Lib.strCells; rw [str_list]; rfl) h7.out hk7.out⟩
  · have HR : Hid (iq s c own = none) := by show _ = _; unfold iq; rw [if_pos HP.out, if_neg h34, if_neg h92, hb]; rfl
    have HB := Lib.hid hb
    clear h34 h92 hb
    go_enter Tryz.func35, Tryz.ntmps35
    go_wp2_with fail
    refine (barred_any c _).mono ?_
    rintro e w2 ⟨rfl, rfl⟩
    rw [HB.out]
    go_wp2_with fail
    go_ret
    exact .inl ⟨HR.out, rfl, HV.out.1⟩
set_option maxRecDepth 100000 in
set_option maxHeartbeats 1600000 in
theorem iq_3 (Z : En) (P c : Nat) (own : List UInt8) (w0 w : World) (s : Lx) (hp : s.pos = 3) (hc9 : c ≤ 1114111) (ho : own.length ≤ 4) (h : Hid (Rm Z P w0 w s)) (hs : Hid (Sm s)) :
    Calls Tryz.prog 35 #[.pointer (some ⟨P, 0, none⟩), .int .i32 (c : Int), .string (str own)] w (IqPost Z P w0 (iq s c own)) := by
  obtain ⟨vw, vs, hv⟩ := h.out
  have HV := Lib.hid hv
  have HC9 := Lib.hid hc9
  have HO := Lib.hid ho
  have c0 : w.cell? ⟨P, 0, none⟩ = some (.int .i64 3) := by rw [hv.2.2.1.cell 0, hp]; rfl
  have g0 := hv.2.2.1.frozen 0
  have c1 : w.cell? ⟨P, 1, none⟩ = some vw := (hv.2.2.1.cell 1).trans rfl
  have g1 := hv.2.2.1.frozen 1
  have c3 : w.cell? ⟨P, 3, none⟩ = some (.int .i64 s.dig) := (hv.2.2.1.cell 3).trans rfl
  have g3 := hv.2.2.1.frozen 3
  have HP := Lib.hid hp
  clear hv hp hc9 ho
  by_cases h120 : c = 120
  · have HR : Hid (iq s c own = some { s with pos := 4 }) := by show _ = _; unfold iq; rw [if_neg (by have := HP.out; omega), if_pos HP.out, if_pos h120]
    have e120 : ((c : Int) == 120) = true := beq_iff_eq.2 (by omega)
    clear h120
    go_enter Tryz.func35, Tryz.ntmps35
    go_wp2_with fail
    go_ret
    exact .inr ⟨_, HR.out, rfl, _, _, HV.out.setPos 4⟩
  have e120 : ((c : Int) == 120) = false := beq_eq_false_iff_ne.2 (by omega)
  obtain ⟨d, hd⟩ : ∃ d, mean c = d := ⟨_, rfl⟩
  have HD := Lib.hid hd
  by_cases hd0 : d = 0
  · have HR : Hid (iq s c own = none) := by show _ = _; unfold iq; rw [if_neg (by have := HP.out; omega), if_pos HP.out, if_neg h120, if_pos (hd.trans hd0)]
    have t0 : ((d : Int) != 0) = false := by rw [hd0]; rfl
    clear h120 hd hd0
    go_enter Tryz.func35, Tryz.ntmps35
    go_wp2_with fail
    refine (meant_any c _).mono ?_
    rintro e w2 ⟨rfl, rfl⟩
    rw [HD.out]
    go_wp2_with fail
    go_ret
    exact .inl ⟨HR.out, rfl, HV.out.1⟩
  · have HR : Hid (iq s c own = some { s with pos := 2, word := s.word ++ [UInt8.ofNat d] }) := by show _ = _; unfold iq; rw [if_neg (by have := HP.out; omega), if_pos HP.out, if_neg h120, if_neg (by rw [hd]; exact hd0), hd]
    have t0 : ((d : Int) != 0) = true := by rw [bne_iff_ne]; omega
    have HD9 : Hid (d < 256) := by rw [← hd]; exact (mean_lt (by rw [hd]; exact hd0)).1
    have HDB : Hid ([Value.int .u8 (d : Int)] = Lib.byteCells [UInt8.ofNat d]) := by
      show _ = _
      unfold Lib.byteCells
      have := HD9.out
      simp
      omega
    clear h120 hd hd0
    go_enter Tryz.func35, Tryz.ntmps35
    go_wp2_with fail
    refine (meant_any c _).mono ?_
    rintro e w2 ⟨rfl, rfl⟩
    rw [HD.out]
    go_upto_region 18 with (first | (at_builtin; go_loud (refine app_keep (v := vw) el60 rfl (.tmp 54) (.tmp 56) rfl rfl (RmV.raw HV) #[.int .u8 (d : Int)] 1 1 rfl rfl (one_cell _ rfl) (Sm.byte hs) ?_); intro A7 c7 w7 h7 hk7; have d1 : w7.cell? ⟨P, 1, none⟩ = some vw := ((hk7.out.blk HV.out.2.2.1 (by decide)).cell 1).trans rfl; have f1 := (hk7.out.blk HV.out.2.2.1 (by decide)).frozen 1; have h8 := Lib.hid (HV.out.push [UInt8.ofNat d] rfl HDB.out h7.out hk7.out); have e0 : (w7.setCell ⟨P, 1, none⟩ (.slice A7 (s.word.length + 1) c7)).cell? ⟨P, 0, none⟩ = some (.int .i64 s.pos) := (h8.out.2.2.1.cell 0).trans rfl; have f0 := h8.out.2.2.1.frozen 0))
    go_wp2_with fail
    go_ret
    exact .inr ⟨_, HR.out, rfl, _, _, h8.out.setPos 2⟩
set_option maxRecDepth 100000 in
set_option maxHeartbeats 1600000 in
theorem iq_4 (Z : En) (P c : Nat) (own : List UInt8) (w0 w : World) (s : Lx) (hp : s.pos = 4) (hc9 : c ≤ 1114111) (ho : own.length ≤ 4) (h : Hid (Rm Z P w0 w s)) (hs : Hid (Sm s)) :
    Calls Tryz.prog 35 #[.pointer (some ⟨P, 0, none⟩), .int .i32 (c : Int), .string (str own)] w (IqPost Z P w0 (iq s c own)) := by
  obtain ⟨vw, vs, hv⟩ := h.out
  have HV := Lib.hid hv
  have HC9 := Lib.hid hc9
  have HO := Lib.hid ho
  have c0 : w.cell? ⟨P, 0, none⟩ = some (.int .i64 4) := by rw [hv.2.2.1.cell 0, hp]; rfl
  have g0 := hv.2.2.1.frozen 0
  have c1 : w.cell? ⟨P, 1, none⟩ = some vw := (hv.2.2.1.cell 1).trans rfl
  have g1 := hv.2.2.1.frozen 1
  have c3 : w.cell? ⟨P, 3, none⟩ = some (.int .i64 s.dig) := (hv.2.2.1.cell 3).trans rfl
  have g3 := hv.2.2.1.frozen 3
  have HP := Lib.hid hp
  clear hv hp hc9 ho
  obtain ⟨d, hd⟩ : ∃ d, hexv c = d := ⟨_, rfl⟩
  have HD := Lib.hid hd
  by_cases hneg : d < 0
  · have HR : Hid (iq s c own = none) := by show _ = _; unfold iq; rw [if_neg (by have := HP.out; omega), if_neg (by have := HP.out; omega), if_pos (by rw [hd]; exact hneg)]
    clear hd
    go_enter Tryz.func35, Tryz.ntmps35
    go_wp2_with fail
    refine (digit_any c _ HC9.out).mono ?_
    rintro e w2 ⟨rfl, rfl⟩
    rw [HD.out]
    go_wp2_with fail
    go_ret
    exact .inl ⟨HR.out, rfl, HV.out.1⟩
  · have HR : Hid (iq s c own = some { s with dig := d, pos := 5 }) := by show _ = _; unfold iq; rw [if_neg (by have := HP.out; omega), if_neg (by have := HP.out; omega), if_neg (by rw [hd]; exact hneg), if_pos HP.out, hd]
    have h8 := Lib.hid (HV.out.setDig d)
    have e0 : (w.setCell ⟨P, 3, none⟩ (.int .i64 d)).cell? ⟨P, 0, none⟩ = some (.int .i64 s.pos) := (h8.out.2.2.1.cell 0).trans rfl
    have f0 := h8.out.2.2.1.frozen 0
    clear hd
    go_enter Tryz.func35, Tryz.ntmps35
    go_wp2_with fail
    refine (digit_any c _ HC9.out).mono ?_
    rintro e w2 ⟨rfl, rfl⟩
    rw [HD.out]
    go_wp2_with fail
    go_ret
    exact .inr ⟨_, HR.out, rfl, _, _, h8.out.setPos 5⟩
set_option maxRecDepth 100000 in
set_option maxHeartbeats 1600000 in
theorem iq_5 (Z : En) (P c : Nat) (own : List UInt8) (w0 w : World) (s : Lx) (hp : s.pos = 5) (hc9 : c ≤ 1114111) (ho : own.length ≤ 4) (h : Hid (Rm Z P w0 w s)) (hs : Hid (Sm s)) (hg : Hid (0 ≤ s.dig ∧ s.dig ≤ 15)) :
    Calls Tryz.prog 35 #[.pointer (some ⟨P, 0, none⟩), .int .i32 (c : Int), .string (str own)] w (IqPost Z P w0 (iq s c own)) := by
  obtain ⟨vw, vs, hv⟩ := h.out
  have HV := Lib.hid hv
  have HC9 := Lib.hid hc9
  have HO := Lib.hid ho
  have c0 : w.cell? ⟨P, 0, none⟩ = some (.int .i64 5) := by rw [hv.2.2.1.cell 0, hp]; rfl
  have g0 := hv.2.2.1.frozen 0
  have c1 : w.cell? ⟨P, 1, none⟩ = some vw := (hv.2.2.1.cell 1).trans rfl
  have g1 := hv.2.2.1.frozen 1
  have c3 : w.cell? ⟨P, 3, none⟩ = some (.int .i64 s.dig) := (hv.2.2.1.cell 3).trans rfl
  have g3 := hv.2.2.1.frozen 3
  have HP := Lib.hid hp
  clear hv hp hc9 ho
  obtain ⟨d, hd⟩ : ∃ d, hexv c = d := ⟨_, rfl⟩
  have HD := Lib.hid hd
  have HD9 : Hid (d ≤ 15 ∧ -1 ≤ d) := by rw [← hd]; exact hexv_le _
  by_cases hneg : d < 0
  · have HR : Hid (iq s c own = none) := by show _ = _; unfold iq; rw [if_neg (by have := HP.out; omega), if_neg (by have := HP.out; omega), if_pos (by rw [hd]; exact hneg)]
    clear hd
    go_enter Tryz.func35, Tryz.ntmps35
    go_wp2_with fail
    refine (digit_any c _ HC9.out).mono ?_
    rintro e w2 ⟨rfl, rfl⟩
    rw [HD.out]
    go_wp2_with fail
    go_ret
    exact .inl ⟨HR.out, rfl, HV.out.1⟩
  · have q0 : 0 ≤ d := by omega
    have q1 : d ≤ 15 := HD9.out.1
    have q2 := hg.out.1
    have q3 := hg.out.2
    have HR : Hid (iq s c own = some { s with pos := 2, word := s.word ++ [UInt8.ofNat (16 * s.dig + d).toNat] }) := by show _ = _; unfold iq; rw [if_neg (by have := HP.out; omega), if_neg (by have := HP.out; omega), if_neg (by rw [hd]; exact hneg), if_neg (by have := HP.out; omega), hd]
    have W1 : IntKind.u8.wrap (16 * s.dig + d) = 16 * s.dig + d := by show (16 * s.dig + d) % 256 = _; omega
    have W2 : IntKind.i64.wrap (16 * s.dig) = 16 * s.dig := IntWalk.i64_in _ (by omega)
    have W3 : IntKind.i64.wrap (16 * s.dig + d) = 16 * s.dig + d := IntWalk.i64_in _ (by omega)
    have HDB : Hid ([Value.int .u8 (16 * s.dig + d)] = Lib.byteCells [UInt8.ofNat (16 * s.dig + d).toNat]) := by
      show _ = _
      unfold Lib.byteCells
      simp
      omega
    clear hd
    go_enter Tryz.func35, Tryz.ntmps35
    go_upto_region 19 with (fail)
    go_wp2_with fail
    refine (digit_any c _ HC9.out).mono ?_
    rintro e w2 ⟨rfl, rfl⟩
    rw [HD.out]
    go_upto_region 25 with (fail)
    have c1a : (w.alloc (.cells #[.int .u8 (16 * s.dig + d)] 5)).cell? ⟨P, 1, none⟩ = some vw := ((HV.out.2.2.1.alloc _).cell 1).trans rfl
    have HVA : Hid (RmV Z P w0 (w.alloc (.cells #[.int .u8 (16 * s.dig + d)] 5)).drew s vw vs) := ⟨(HV.out.1.alloc _).drew, HV.out.2.1, HV.out.2.2.1.alloc _, alloc_owns HV.out.2.2.2.1 _, alloc_owns HV.out.2.2.2.2 _⟩
    have HNW : Hid (∀ j u, [Value.int .u8 (16 * s.dig + d)][j]? = some u → (w.alloc (.cells #[.int .u8 (16 * s.dig + d)] 5)).drew.cell? ((⟨w.heap.size, 0, none⟩ : Addr).add j) = some u) := news_one w _ 5
    go_region_law (first | (refine step_at (v := vw) el60 rfl (.tmp 85) (.tmp 94) rfl rfl (RmV.raw HVA) ⟨w.heap.size, 0, none⟩ 1 1 [.int .u8 (16 * s.dig + d)] rfl (by decide) rfl HNW (one_cell _ rfl) (Sm.byte hs) ?_; intro A7 c7 w7 h7 hk7; have d1 : w7.cell? ⟨P, 1, none⟩ = some vw := ((hk7.out.blk HVA.out.2.2.1 (by decide)).cell 1).trans rfl; have f1 := (hk7.out.blk HVA.out.2.2.1 (by decide)).frozen 1; have d0 : w7.cell? ⟨P, 0, none⟩ = some (.int .i64 s.pos) := ((hk7.out.blk HVA.out.2.2.1 (by decide)).cell 0).trans rfl; have f0 := (hk7.out.blk HVA.out.2.2.1 (by decide)).frozen 0; have h8 := Lib.hid (HVA.out.push [UInt8.ofNat (16 * s.dig + d).toNat] rfl HDB.out h7.out hk7.out); have e0 : (w7.setCell ⟨P, 1, none⟩ (.slice A7 (s.word.length + 1) c7)).cell? ⟨P, 0, none⟩ = some (.int .i64 s.pos) := (h8.out.2.2.1.cell 0).trans rfl; have j0 := h8.out.2.2.1.frozen 0))
    all_goals (
      go_wp2_with fail
      go_ret
      exact .inr ⟨_, HR.out, rfl, _, _, h8.out.setPos 2⟩)
end Go.Proofs.YtcdhkeahcliefaaGreatDoor.LexF
