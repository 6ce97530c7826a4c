/- The document's whole: what its walk needs. The document's whole: a bracket. The document's whole: not, has. -/
import Derived.Test.YtcdhkeahcliefaaGreatDoorPrint36
import Derived.Deep.RegionLaw
/- The document's whole: what its walk needs. -/
namespace Go.Proofs.YtcdhkeahcliefaaGreatDoor.RefI
open Go.ChangeShapes Go.WideShapes Go.ChangeAt Go.RowKit
open Go.Proofs.YtcdhkeahcliefaaGreatDoor.Kit Go.Proofs.YtcdhkeahcliefaaGreatDoor.Base Go.Proofs.YtcdhkeahcliefaaGreatDoor.Term Go.Proofs.YtcdhkeahcliefaaGreatDoor.Syn Go.Proofs.YtcdhkeahcliefaaGreatDoor.Gram Go.Proofs.YtcdhkeahcliefaaGreatDoor.GramB Go.Proofs.YtcdhkeahcliefaaGreatDoor.TokB Go.Proofs.YtcdhkeahcliefaaGreatDoor.RefD Go.Proofs.YtcdhkeahcliefaaGreatDoor.RefF Go.Proofs.YtcdhkeahcliefaaGreatDoor.RefG Go.Proofs.YtcdhkeahcliefaaGreatDoor.RefH
set_option linter.unusedVariables false

theorem sum_join {kw : W} : ∀ (l : List (List Wd × Term)) (fl : Term → List Term), (∀ x ∈ l, (fl x.2).length ≤ x.1.length) → ((l.map (·.2)).flatMap fl).length ≤ (joinW kw (l.map (·.1))).length := by
  intro l fl
  induction l with
  | nil => intro _; exact Nat.zero_le _
  | cons a l ih =>
    intro h
    have h1 := h a (by simp)
    have h2 := ih (fun x hx => h x (by simp [hx]))
    cases l with
    | nil =>
      simp only [List.map_cons, List.map_nil, List.flatMap_cons, List.flatMap_nil, List.append_nil]
      exact h1
    | cons b l =>
      show (fl a.2 ++ ((b :: l).map (·.2)).flatMap fl).length ≤ (a.1 ++ ⟨kw, 1⟩ :: joinW kw ((b :: l).map (·.1))).length
      rw [List.length_append, List.length_append, List.length_cons]
      omega
theorem d_len {lv : Nat} {l : List Wd} {t : Term} (h : D lv l t) : (flatB t).length ≤ l.length ∧ (flatE t).length ≤ l.length := by
  induction h with
  | leaf h =>
    obtain ⟨_, h1, h2⟩ := leaf_fine h
    have hp := pb_leaf (t := _) (j := 1) (Nat.le_refl _) h1 h2
    have h3 := hp.2.1
    have h4 := hp.2.2.1
    simp only [wordsOf, List.length_cons]
    omega
  | not h ih => exact ⟨Nat.succ_le_succ (Nat.zero_le _), Nat.succ_le_succ (Nat.zero_le _)⟩
  | has h ih => exact ⟨Nat.succ_le_succ (Nat.zero_le _), Nat.succ_le_succ (Nat.zero_le _)⟩
  | par h ih => simp only [List.length_cons, List.length_append]; omega
  | and ps hne hps ih =>
    have hd := D.and ps hne hps
    have hpos := d_pos hd
    have hnes := fun x hx => d_ne (hps x hx)
    clear hd hps
    match ps, hne, ih, hpos, hnes with
    | [a], _, ih, _, hnes =>
      have e : packB (([a].map (·.2)).flatMap flatB) = a.2 := by
        simp only [List.map_cons, List.map_nil, List.flatMap_cons, List.flatMap_nil, List.append_nil]
        exact (hnes a (by simp)).packB
      rw [e]
      exact ih a (by simp)
    | a :: b :: l, _, ih, hpos, hnes =>
      have h1 := flat_two (fl := flatB) ((a :: b :: l).map (·.2)) (fun t ht => by obtain ⟨x, hx, rfl⟩ := List.mem_map.1 ht; exact (hnes x hx).b1)
      rw [packB_many (Nat.le_trans (by simp) h1)]
      exact ⟨sum_join (a :: b :: l) flatB (fun x hx => (ih x hx).1), hpos⟩
  | or ps hne hps ih =>
    have hd := D.or ps hne hps
    have hpos := d_pos hd
    have hnes := fun x hx => d_ne (hps x hx)
    clear hd hps
    match ps, hne, ih, hpos, hnes with
    | [a], _, ih, _, hnes =>
      have e : packE (([a].map (·.2)).flatMap flatE) = a.2 := by
        simp only [List.map_cons, List.map_nil, List.flatMap_cons, List.flatMap_nil, List.append_nil]
        exact (hnes a (by simp)).packE
      rw [e]
      exact ih a (by simp)
    | a :: b :: l, _, ih, hpos, hnes =>
      have h1 := flat_two (fl := flatE) ((a :: b :: l).map (·.2)) (fun t ht => by obtain ⟨x, hx, rfl⟩ := List.mem_map.1 ht; exact (hnes x hx).e1)
      rw [packE_many (Nat.le_trans (by simp) h1)]
      exact ⟨hpos, sum_join (a :: b :: l) flatE (fun x hx => (ih x hx).2)⟩
/-- the state of whole: its result's cells still empty -/
def Ws (Z : Nat) (w wr : World) : Prop := Below Z w wr ∧ Blk wr Z #[.string ⟨#[]⟩, .slice none 0 0, .slice none 0 0] 39
theorem Ws.next {Z : Nat} {w wr w' : World} (h : Ws Z w wr) (hb : Below wr.heap.size wr w') (hZ : Z ≤ wr.heap.size) : Ws Z w w' := ⟨h.1.trans (hb.mono hZ), h.2.below hb h.2.lt⟩
theorem ws_new (w : World) : Ws w.heap.size w (w.alloc zform) := ⟨(Below.refl _ _).alloc (Nat.le_refl _) _, Blk.new w _ 39⟩
theorem Ws.on {Z : Nat} {w wr w' : World} (h : Ws Z w wr) (hs : Since wr.heap.size wr w') : Ws Z w w' := ⟨h.1.trans (hs.1.mono (Nat.le_of_lt h.2.lt)), h.2.below hs.1 h.2.lt⟩
abbrev NoS : Nat → Prop := fun _ => False
end Go.Proofs.YtcdhkeahcliefaaGreatDoor.RefI
/- The document's whole: a bracket. -/
namespace Go.Proofs.YtcdhkeahcliefaaGreatDoor.RefJ
open Go.ChangeShapes Go.WideShapes Go.ChangeAt Go.RowKit
open Go.Proofs.YtcdhkeahcliefaaGreatDoor.Kit Go.Proofs.YtcdhkeahcliefaaGreatDoor.Base Go.Proofs.YtcdhkeahcliefaaGreatDoor.Term Go.Proofs.YtcdhkeahcliefaaGreatDoor.Syn Go.Proofs.YtcdhkeahcliefaaGreatDoor.Gram Go.Proofs.YtcdhkeahcliefaaGreatDoor.GramB Go.Proofs.YtcdhkeahcliefaaGreatDoor.TokB Go.Proofs.YtcdhkeahcliefaaGreatDoor.RefD Go.Proofs.YtcdhkeahcliefaaGreatDoor.RefF Go.Proofs.YtcdhkeahcliefaaGreatDoor.RefG Go.Proofs.YtcdhkeahcliefaaGreatDoor.RefH Go.Proofs.YtcdhkeahcliefaaGreatDoor.RefI
set_option linter.unusedVariables false

set_option maxRecDepth 100000 in
set_option maxHeartbeats 6400000 in
theorem whole_par (A : Option Addr) (c : Nat) (l : List Wd) (t : Term) (w : World) (hs : Hid (WordsAt w A c l)) (hpos : 1 ≤ l.length) (hn9 : l.length ≤ 2048) (hc0 : cutP wOr 0 [] l = [l]) (hc1 : cutP wAnd 0 [] l = [l]) (l' : List Wd) (hl : l = ⟨wOpen, 3⟩ :: (l' ++ [⟨wShut, 4⟩])) (IH : ∀ A c w, Hid (WordsAt w A c l') → Calls Tryz.prog 11 #[.slice A l'.length c] w (FormPost NoS t w)) : Calls Tryz.prog 11 #[.slice A l.length c] w (FormPost NoS t w) := by
  obtain ⟨b, o, hA⟩ := words_some hs.out hpos
  subst hA
  obtain ⟨n, hn1⟩ : ∃ n, l.length = n := ⟨_, rfl⟩
  have HN := Lib.hid hn1
  have HPOS := Lib.hid hpos
  have HN9 := Lib.hid hn9
  have HNC : Hid (n ≤ c) := by rw [← hn1]; exact hs.out.1
  rw [hn1]
  clear hn1 hpos hn9
  have HC0 := Lib.hid hc0
  have HC1 := Lib.hid hc1
  have HL := Lib.hid hl
  have HIH := Lib.hid IH
  have HLL : Hid (l'.length = n - 2) := by show _ = _; rw [← HN.out, hl]; simp
  have HN2 : Hid (2 ≤ n) := by rw [← HN.out, hl]; show 2 ≤ _; simp
  have HSUB : Hid ((l.take (n - 1)).drop 1 = l') := by
    show _ = _
    have e : n - 1 = l'.length + 1 := by have := HLL.out; have := HN2.out; omega
    rw [e, hl]
    simp
  clear hc0 hc1 hl IH
  go_enter Tryz.func11, Tryz.ntmps11
  go_wp2_with fail
  refine gen_world (fun w' => Hid (Ws w.heap.size w w')) (ws_new w) ?_
  obtain ⟨Z, hZ⟩ : ∃ Z, w.heap.size = Z := ⟨_, rfl⟩
  have HZ := Lib.hid hZ
  rw [hZ]
  clear hZ
  rintro w1 hw1
  go_loopg [3] 2 (fun g i wr => ∃ (k : Nat), g = 2 - k ∧ k ≤ 2 ∧ i = .int .i64 k ∧ Hid (Ws Z w wr))
  case atStart => exact ⟨0, rfl, Nat.zero_le _, rfl, hw1⟩
  case round =>
    obtain ⟨k, rfl, hk, rfl, hw⟩ := hrel
    have hk3 : k = 0 ∨ k = 1 ∨ k = 2 := by omega
    clear hk
    rcases hk3 with rfl | rfl | rfl
    · have HC := Lib.hid (cut_any wOr (some ⟨b, o, none⟩) c l wr (hs.out.below (by rw [HZ.out]; exact hw.out.1)) HPOS.out HN9.out)
      rw [HN.out, HC0.out] at HC
      have HC : Hid (Calls Tryz.prog 22 #[.slice (some ⟨b, o, none⟩) n c, .string ⟨#[111, 114]⟩] wr (CutPost [l] wr)) := HC
      go_wp2_with fail
      refine HC.out.mono ?_
      rintro e w3 ⟨Ac, cc, rfl, hcs⟩
      rw [show [l].length = 1 from rfl]
      go_wp2_with fail
      go_roundg 1
      case measure => omega
      case rel => exact ⟨1, rfl, by omega, rfl, hw.out.on hcs.out.1⟩
    · have HC := Lib.hid (cut_any wAnd (some ⟨b, o, none⟩) c l wr (hs.out.below (by rw [HZ.out]; exact hw.out.1)) HPOS.out HN9.out)
      rw [HN.out, HC1.out] at HC
      have HC : Hid (Calls Tryz.prog 22 #[.slice (some ⟨b, o, none⟩) n c, .string ⟨#[97, 110, 100]⟩] wr (CutPost [l] wr)) := HC
      go_wp2_with fail
      refine HC.out.mono ?_
      rintro e w3 ⟨Ac, cc, rfl, hcs⟩
      rw [show [l].length = 1 from rfl]
      go_wp2_with fail
      go_roundg 0
      case measure => omega
      case rel => exact ⟨2, rfl, by omega, rfl, hw.out.on hcs.out.1⟩
    · have hwd : Hid (WordsAt wr (some ⟨b, o, none⟩) c l) := hs.out.below (by rw [HZ.out]; exact hw.out.1)
      obtain ⟨b', o', e, c0, c1⟩ := hwd.out.2 0 (by have := HPOS.out; omega)
      cases e
      have hg : l[0]'(by have := HPOS.out; omega) = ⟨wOpen, 3⟩ := by
        have h := HL.out
        subst h
        rfl
      rw [hg] at c0 c1
      have c1 : wr.cell? ⟨b, o + 1, none⟩ = some (.int .i64 3) := by rw [show o + 0 * 2 + 1 = o + 1 from by omega] at c1; exact c1
      have HSW := Lib.hid (words_sub hwd.out 1 (n - 1) (by have := HN2.out; omega) (by rw [HN.out]; omega))
      rw [HSUB.out] at HSW
      have hA3 : subA b o c 1 = some ⟨b, o + 2, none⟩ := if_neg (by have := HN2.out; have := HNC.out; omega)
      rw [hA3] at HSW
      have HCALL := Lib.hid (HIH.out (some ⟨b, o + 2, none⟩) (c - 1) wr HSW)
      have hll : n - 1 - 1 = l'.length := by rw [HLL.out]; omega
      have n9 : (n : Int) ≤ 2048 := by have := HN9.out; rw [HN.out] at this; omega
      have n2 : (2 : Int) ≤ (n : Int) := by have := HN2.out; omega
      have nc : (n : Int) ≤ (c : Int) := by have := HNC.out; omega
      have n0 : (0 : Int) < (n : Int) := by omega
      have n1 : (1 : Int) ≤ (n : Int) - 1 := by omega
      have nm : (n : Int) - 1 ≤ (c : Int) := by omega
      have W1 : IntKind.i64.wrap ((n : Int) - 1) = (n : Int) - 1 := IntWalk.i64_in _ (by omega)
      clear c0 hg hA3 hwd
      go_wp2_with fail
      refine HCALL.out.mono ?_
      rintro e w4 ⟨⟨fo, fu, fw⟩, rfl, hf, hb4⟩
      obtain ⟨⟨Au, nu, cu, hu⟩, ⟨Aw, nw, cw, hw2⟩⟩ := form_slices hf.out
      have hu : fu = .slice Au nu cu := hu
      have hw2 : fw = .slice Aw nw cw := hw2
      subst hu hw2
      rw [show fval (fo, .slice Au nu cu, .slice Aw nw cw) = .agg #[.string (str fo), .slice Au nu cu, .slice Aw nw cw] from rfl]
      have hk4 : Blk w4 Z #[.string ⟨#[]⟩, .slice none 0 0, .slice none 0 0] 39 := hw.out.2.below hb4.out hw.out.2.lt
      have HZW : Hid (Z < wr.heap.size) := hw.out.2.lt
      have c40 : w4.cell? ⟨Z, 0, none⟩ = some (.string ⟨#[]⟩) := (hk4.cell 0).trans rfl
      have c41 : w4.cell? ⟨Z, 1, none⟩ = some (.slice none 0 0) := (hk4.cell 1).trans rfl
      have c42 : w4.cell? ⟨Z, 2, none⟩ = some (.slice none 0 0) := (hk4.cell 2).trans rfl
      have g40 := hk4.frozen 0
      have g41 := hk4.frozen 1
      have g42 := hk4.frozen 2
      have HK4 := Lib.hid hk4
      clear hk4
      go_wp2_with fail
      have h9 := store3 HK4.out (.string (str fo)) (.slice Au nu cu) (.slice Aw nw cw)
      have hc9 := chg3 w4 Z (.string (str fo)) (.slice Au nu cu) (.slice Aw nw cw)
      refine bodyPost_ret (v := .agg #[.string (str fo), .slice Au nu cu, .slice Aw nw cw]) (results_cell_row (P := Tryz.prog) (fn := Tryz.f11) (p := 2) (ty := 39) Tryz.results11 _ _ Z 39 #[.string (str fo), .slice Au nu cu, .slice Aw nw cw] (0, 0) _ rfl h9 Tryz.underlying39 rfl size39) rfl ?_
      generalize ((w4.setCell ⟨Z, 0, none⟩ (.string (str fo))).setCell ⟨Z, 1, none⟩ (.slice Au nu cu)).setCell ⟨Z, 2, none⟩ (.slice Aw nw cw) = w9 at *
      refine ⟨(fo, .slice Au nu cu, .slice Aw nw cw), rfl, ?_, ?_⟩
      · exact (FormIs.chg hf.out hc9 (fun k hk e => by rcases hk with hk | hk; exact hk; have := HZW.out; omega)).mono (fun k _ hk => by rcases hk with hk | hk; exact .inl hk; exact .inr (by have := HZW.out; have := HZ.out; omega))
      · have hB4 : Below Z w w4 := hw.out.1.trans (hb4.out.mono (Nat.le_of_lt HZW.out))
        rw [HZ.out]
        exact hB4.trans (hc9.below (by have := HZW.out; have := hb4.out.size; omega) (fun k e => by omega))
end Go.Proofs.YtcdhkeahcliefaaGreatDoor.RefJ
/- The document's whole: not, has. -/
namespace Go.Proofs.YtcdhkeahcliefaaGreatDoor.RefK
open Go.ChangeShapes Go.WideShapes Go.ChangeAt Go.RowKit
open Go.Proofs.YtcdhkeahcliefaaGreatDoor.Kit Go.Proofs.YtcdhkeahcliefaaGreatDoor.Base Go.Proofs.YtcdhkeahcliefaaGreatDoor.Term Go.Proofs.YtcdhkeahcliefaaGreatDoor.Syn Go.Proofs.YtcdhkeahcliefaaGreatDoor.Gram Go.Proofs.YtcdhkeahcliefaaGreatDoor.GramB Go.Proofs.YtcdhkeahcliefaaGreatDoor.TokB Go.Proofs.YtcdhkeahcliefaaGreatDoor.RefD Go.Proofs.YtcdhkeahcliefaaGreatDoor.RefF Go.Proofs.YtcdhkeahcliefaaGreatDoor.RefG Go.Proofs.YtcdhkeahcliefaaGreatDoor.RefH Go.Proofs.YtcdhkeahcliefaaGreatDoor.RefI
set_option linter.unusedVariables false

theorem pre_form {Z : Nat} {w w5 : World} (hw : Ws Z w w5) {f : Fm} {t : Term} (hf : FormIs (fun k => Z < k) w5 f.1 f.2.1 f.2.2 t) (x : Value) :
    FormIs (fun k => NoS k ∨ Z ≤ k) ((((w5.alloc (.cells #[.string (str f.1), f.2.1, f.2.2] 39)).setCell ⟨Z, 0, none⟩ x).setCell ⟨Z, 1, none⟩ (.slice (some ⟨w5.heap.size, 0, none⟩) 1 1)).setCell ⟨Z, 2, none⟩ (.slice none 0 0)).drew f.1 f.2.1 f.2.2 t ∧
    FormsIn (fun k => NoS k ∨ Z ≤ k) ((((w5.alloc (.cells #[.string (str f.1), f.2.1, f.2.2] 39)).setCell ⟨Z, 0, none⟩ x).setCell ⟨Z, 1, none⟩ (.slice (some ⟨w5.heap.size, 0, none⟩) 1 1)).setCell ⟨Z, 2, none⟩ (.slice none 0 0)).drew (some ⟨w5.heap.size, 0, none⟩) [f] ∧
    Below Z w ((((w5.alloc (.cells #[.string (str f.1), f.2.1, f.2.2] 39)).setCell ⟨Z, 0, none⟩ x).setCell ⟨Z, 1, none⟩ (.slice (some ⟨w5.heap.size, 0, none⟩) 1 1)).setCell ⟨Z, 2, none⟩ (.slice none 0 0)).drew ∧
    Blk ((((w5.alloc (.cells #[.string (str f.1), f.2.1, f.2.2] 39)).setCell ⟨Z, 0, none⟩ x).setCell ⟨Z, 1, none⟩ (.slice (some ⟨w5.heap.size, 0, none⟩) 1 1)).setCell ⟨Z, 2, none⟩ (.slice none 0 0)).drew Z #[x, .slice (some ⟨w5.heap.size, 0, none⟩) 1 1, .slice none 0 0] 39 := by
  have hlt := hw.2.lt
  have hal : Below w5.heap.size w5 (w5.alloc (.cells #[.string (str f.1), f.2.1, f.2.2] 39)) := (Below.refl _ _).alloc (Nat.le_refl _) _
  have hnew := Blk.new w5 #[.string (str f.1), f.2.1, f.2.2] 39
  have hz := hw.2.alloc (.cells #[.string (str f.1), f.2.1, f.2.2] 39)
  have hf6 := hf.chg (Chg.of_below (S := fun _ => False) hal) (fun _ _ h => h)
  have hB6 : Below Z w (w5.alloc (.cells #[.string (str f.1), f.2.1, f.2.2] 39)) := hw.1.trans (hal.mono (Nat.le_of_lt hlt))
  have hin : FormsIn (fun k => Z < k) (w5.alloc (.cells #[.string (str f.1), f.2.1, f.2.2] 39)) (some ⟨w5.heap.size, 0, none⟩) [f] := fun i hi => by
    have h0 : i = 0 := by simp at hi; omega
    subst h0
    exact ⟨w5.heap.size, 0, rfl, hlt, (hnew.cell 0).trans rfl, (hnew.cell 1).trans rfl, (hnew.cell 2).trans rfl⟩
  have hsz : Z ≤ (w5.alloc (.cells #[.string (str f.1), f.2.1, f.2.2] 39)).heap.size := by simp; omega
  generalize w5.alloc (.cells #[.string (str f.1), f.2.1, f.2.2] 39) = w6 at *
  have hc := (chg3 w6 Z x (.slice (some ⟨w5.heap.size, 0, none⟩) 1 1) (.slice none 0 0)).drew
  refine ⟨(hf6.chg hc (fun k hk e => by have hk : Z < k := hk; omega)).mono (fun k _ hk => .inr (Nat.le_of_lt hk)), (hin.chg hc (fun k hk e => by have hk : Z < k := hk; omega)).mono (fun k _ hk => .inr (Nat.le_of_lt hk)), ?_, (store3 hz x _ _).drew⟩
  exact hB6.trans (hc.below hsz (fun k e => by omega))
set_option maxRecDepth 100000 in
set_option maxHeartbeats 6400000 in
theorem whole_not (A : Option Addr) (c : Nat) (l : List Wd) (t : Term) (w : World) (hs : Hid (WordsAt w A c l)) (hpos : 1 ≤ l.length) (hn9 : l.length ≤ 2048) (hc0 : cutP wOr 0 [] l = [l]) (hc1 : cutP wAnd 0 [] l = [l]) (l' : List Wd) (t' : Term) (hl : l = ⟨wNot, 2⟩ :: l') (hpos' : 1 ≤ l'.length) (ht : t = .not t') (IH : ∀ A c w, Hid (WordsAt w A c l') → Calls Tryz.prog 11 #[.slice A l'.length c] w (FormPost NoS t' w)) : Calls Tryz.prog 11 #[.slice A l.length c] w (FormPost NoS t w) := by
  obtain ⟨b, o, hA⟩ := words_some hs.out hpos
  subst hA
  obtain ⟨n, hn1⟩ : ∃ n, l.length = n := ⟨_, rfl⟩
  have HN := Lib.hid hn1
  have HPOS := Lib.hid hpos
  have HN9 := Lib.hid hn9
  have HNC : Hid (n ≤ c) := by rw [← hn1]; exact hs.out.1
  rw [hn1]
  clear hn1 hpos hn9
  have HC0 := Lib.hid hc0
  have HC1 := Lib.hid hc1
  have HL := Lib.hid hl
  have HT := Lib.hid ht
  have HIH := Lib.hid IH
  have HLL : Hid (l'.length = n - 1) := by show _ = _; rw [← HN.out, hl]; simp
  have HN2 : Hid (2 ≤ n) := by rw [← HN.out, hl]; show 2 ≤ _; simp; omega
  have HSUB : Hid ((l.take n).drop 1 = l') := by
    show _ = _
    rw [List.take_of_length_le (by rw [HN.out]; exact Nat.le_refl _), hl]
    rfl
  clear hc0 hc1 hl IH ht hpos'
  go_enter Tryz.func11, Tryz.ntmps11
  go_wp2_with fail
  refine gen_world (fun w' => Hid (Ws w.heap.size w w')) (ws_new w) ?_
  obtain ⟨Z, hZ⟩ : ∃ Z, w.heap.size = Z := ⟨_, rfl⟩
  have HZ := Lib.hid hZ
  rw [hZ]
  clear hZ
  rintro w1 hw1
  go_loopg [3] 2 (fun g i wr => ∃ (k : Nat), g = 2 - k ∧ k ≤ 2 ∧ i = .int .i64 k ∧ Hid (Ws Z w wr))
  case atStart => exact ⟨0, rfl, Nat.zero_le _, rfl, hw1⟩
  case round =>
    obtain ⟨k, rfl, hk, rfl, hw⟩ := hrel
    have hk3 : k = 0 ∨ k = 1 ∨ k = 2 := by omega
    clear hk
    rcases hk3 with rfl | rfl | rfl
    · have HC := Lib.hid (cut_any wOr (some ⟨b, o, none⟩) c l wr (hs.out.below (by rw [HZ.out]; exact hw.out.1)) HPOS.out HN9.out)
      rw [HN.out, HC0.out] at HC
      have HC : Hid (Calls Tryz.prog 22 #[.slice (some ⟨b, o, none⟩) n c, .string ⟨#[111, 114]⟩] wr (CutPost [l] wr)) := HC
      go_wp2_with fail
      refine HC.out.mono ?_
      rintro e w3 ⟨Ac, cc, rfl, hcs⟩
      rw [show [l].length = 1 from rfl]
      go_wp2_with fail
      go_roundg 1
      case measure => omega
      case rel => exact ⟨1, rfl, by omega, rfl, hw.out.on hcs.out.1⟩
    · have HC := Lib.hid (cut_any wAnd (some ⟨b, o, none⟩) c l wr (hs.out.below (by rw [HZ.out]; exact hw.out.1)) HPOS.out HN9.out)
      rw [HN.out, HC1.out] at HC
      have HC : Hid (Calls Tryz.prog 22 #[.slice (some ⟨b, o, none⟩) n c, .string ⟨#[97, 110, 100]⟩] wr (CutPost [l] wr)) := HC
      go_wp2_with fail
      refine HC.out.mono ?_
      rintro e w3 ⟨Ac, cc, rfl, hcs⟩
      rw [show [l].length = 1 from rfl]
      go_wp2_with fail
      go_roundg 0
      case measure => omega
      case rel => exact ⟨2, rfl, by omega, rfl, hw.out.on hcs.out.1⟩
    · have hwd : Hid (WordsAt wr (some ⟨b, o, none⟩) c l) := hs.out.below (by rw [HZ.out]; exact hw.out.1)
      obtain ⟨b', o', e, c0, c1⟩ := hwd.out.2 0 (by have := HPOS.out; omega)
      cases e
      have hg : l[0]'(by have := HPOS.out; omega) = ⟨wNot, 2⟩ := by
        have h := HL.out
        subst h
        rfl
      rw [hg] at c0 c1
      have c0 : wr.cell? ⟨b, o, none⟩ = some (.string (str wNot)) := by rw [show o + 0 * 2 = o from by omega] at c0; exact c0
      have c1 : wr.cell? ⟨b, o + 1, none⟩ = some (.int .i64 2) := by rw [show o + 0 * 2 + 1 = o + 1 from by omega] at c1; exact c1
      have C0 := Lib.hid c0
      have HSW := Lib.hid (words_sub hwd.out 1 n (by have := HN2.out; omega) (by rw [HN.out]; exact Nat.le_refl _))
      rw [HSUB.out] at HSW
      have hA3 : subA b o c 1 = some ⟨b, o + 2, none⟩ := if_neg (by have := HN2.out; have := HNC.out; omega)
      rw [hA3] at HSW
      have HCALL := Lib.hid (HIH.out (some ⟨b, o + 2, none⟩) (c - 1) wr HSW)
      have hll : n - 1 = l'.length := HLL.out.symm
      have n9 : (n : Int) ≤ 2048 := by have := HN9.out; rw [HN.out] at this; omega
      have n2 : (2 : Int) ≤ (n : Int) := by have := HN2.out; omega
      have nc : (n : Int) ≤ (c : Int) := by have := HNC.out; omega
      have n0 : (0 : Int) < (n : Int) := by omega
      have n1 : (1 : Int) ≤ (n : Int) := by omega
      have HZW : Hid (Z < wr.heap.size) := hw.out.2.lt
      clear c0 hg hA3 hwd
      go_wp2_with fail
      refine HCALL.out.mono ?_
      rintro e w4 ⟨⟨fo, fu, fw⟩, rfl, hf, hb4⟩
      obtain ⟨⟨Au, nu, cu, hu⟩, ⟨Aw, nw, cw, hw2⟩⟩ := form_slices hf.out
      have hu : fu = .slice Au nu cu := hu
      have hw2 : fw = .slice Aw nw cw := hw2
      subst hu hw2
      rw [show fval (fo, .slice Au nu cu, .slice Aw nw cw) = .agg #[.string (str fo), .slice Au nu cu, .slice Aw nw cw] from rfl]
      have hWS : Hid (Ws Z w w4) := hw.out.next hb4.out (Nat.le_of_lt HZW.out)
      have c04 : Hid (w4.cell? ⟨b, o, none⟩ = some (.string (str wNot))) := (hb4.out.cell (World.block_lt_of_cell? wr _ C0.out)).trans C0.out
      clear c1 hll
      go_upto_region 18 with (fail)
      refine gen_world (fun w' => Hid (Ws Z w w') ∧ Hid (Below w4.heap.size w4 w') ∧ Hid (Blk w' w4.heap.size #[.string (str fo), .slice Au nu cu, .slice Aw nw cw] 39)) ⟨hWS.out.next ((Below.refl _ _).alloc (Nat.le_refl _) _) (by have := HZW.out; have := hb4.out.size; omega), (Below.refl _ _).alloc (Nat.le_refl _) _, Blk.new w4 _ 39⟩ ?_
      obtain ⟨G, hG⟩ : ∃ G, w4.heap.size = G := ⟨_, rfl⟩
      have HG := Lib.hid hG
      rw [hG]
      clear hG
      rintro w5 ⟨hw5, hb5, hk5⟩
      have c50 : w5.cell? ⟨G, 0, none⟩ = some (.string (str fo)) := (hk5.out.cell 0).trans rfl
      have c51 : w5.cell? ⟨G, 1, none⟩ = some (.slice Au nu cu) := (hk5.out.cell 1).trans rfl
      have c52 : w5.cell? ⟨G, 2, none⟩ = some (.slice Aw nw cw) := (hk5.out.cell 2).trans rfl
      have c05 : w5.cell? ⟨b, o, none⟩ = some (.string (str wNot)) := (hb5.out.cell (by rw [← HG.out]; exact World.block_lt_of_cell? w4 _ c04.out)).trans c04.out
      have n0' : 0 < n := by omega
      have HLT := Lib.hid hk5.out.lt
      obtain ⟨lit, hlit⟩ : ∃ lit, Obj.cells #[.string (str fo), .slice Au nu cu, .slice Aw nw cw] 39 = lit := ⟨_, rfl⟩
      have hka : Blk (w5.alloc (.cells #[.string (str fo), .slice Au nu cu, .slice Aw nw cw] 39)) Z #[.string ⟨#[]⟩, .slice none 0 0, .slice none 0 0] 39 := hw5.out.2.alloc _
      have hkz := hw5.out.2
      have ca0 : (w5.alloc (.cells #[.string (str fo), .slice Au nu cu, .slice Aw nw cw] 39)).cell? ⟨Z, 0, none⟩ = some (.string ⟨#[]⟩) := (hka.cell 0).trans rfl
      have ca1 : (w5.alloc (.cells #[.string (str fo), .slice Au nu cu, .slice Aw nw cw] 39)).cell? ⟨Z, 1, none⟩ = some (.slice none 0 0) := (hka.cell 1).trans rfl
      have ca2 : (w5.alloc (.cells #[.string (str fo), .slice Au nu cu, .slice Aw nw cw] 39)).cell? ⟨Z, 2, none⟩ = some (.slice none 0 0) := (hka.cell 2).trans rfl
      have ga0 := hka.frozen 0
      have ga1 := hka.frozen 1
      have ga2 := hka.frozen 2
      have cb5 : (w5.alloc (.cells #[.string (str fo), .slice Au nu cu, .slice Aw nw cw] 39)).cell? ⟨b, o, none⟩ = some (.string (str wNot)) := (((Below.refl _ _).alloc (Nat.le_refl _) _ : Below w5.heap.size w5 _).cell (World.block_lt_of_cell? w5 _ c05)).trans c05
      clear hka hkz hlit
      go_region_law (fail)
      all_goals (
        go_wp2_with fail
        obtain ⟨p1, p2, p3, p4⟩ := pre_form hw5.out (f := (fo, .slice Au nu cu, .slice Aw nw cw)) ((hf.out.chg (Chg.of_below (S := fun _ => False) (by rw [← HG.out] at hb5; exact hb5.out)) (fun _ _ h => h)).mono (fun k _ hk => by rcases hk with hk | hk; exact absurd hk id; have := HZW.out; omega)) (str wNot |> Value.string)
        refine bodyPost_ret (v := .agg #[.string (str wNot), .slice (some ⟨w5.heap.size, 0, none⟩) 1 1, .slice none 0 0]) (results_cell_row (P := Tryz.prog) (fn := Tryz.f11) (p := 2) (ty := 39) Tryz.results11 _ _ Z 39 #[.string (str wNot), .slice (some ⟨w5.heap.size, 0, none⟩) 1 1, .slice none 0 0] (0, 0) _ rfl p4 Tryz.underlying39 rfl size39) rfl ?_
        refine ⟨(wNot, .slice (some ⟨w5.heap.size, 0, none⟩) 1 1, .slice none 0 0), rfl, ?_, by rw [HZ.out]; exact p3⟩
        rw [HT.out, HZ.out]
        exact .not _ 1 (fo, .slice Au nu cu, .slice Aw nw cw) p1 p2)
set_option maxRecDepth 100000 in
set_option maxHeartbeats 6400000 in
theorem whole_has (A : Option Addr) (c : Nat) (l : List Wd) (t : Term) (w : World) (hs : Hid (WordsAt w A c l)) (hpos : 1 ≤ l.length) (hn9 : l.length ≤ 2048) (hc0 : cutP wOr 0 [] l = [l]) (hc1 : cutP wAnd 0 [] l = [l]) (l' : List Wd) (t' : Term) (hl : l = ⟨wHas, 2⟩ :: l') (hpos' : 1 ≤ l'.length) (ht : t = .has t') (IH : ∀ A c w, Hid (WordsAt w A c l') → Calls Tryz.prog 11 #[.slice A l'.length c] w (FormPost NoS t' w)) : Calls Tryz.prog 11 #[.slice A l.length c] w (FormPost NoS t w) := by
  obtain ⟨b, o, hA⟩ := words_some hs.out hpos
  subst hA
  obtain ⟨n, hn1⟩ : ∃ n, l.length = n := ⟨_, rfl⟩
  have HN := Lib.hid hn1
  have HPOS := Lib.hid hpos
  have HN9 := Lib.hid hn9
  have HNC : Hid (n ≤ c) := by rw [← hn1]; exact hs.out.1
  rw [hn1]
  clear hn1 hpos hn9
  have HC0 := Lib.hid hc0
  have HC1 := Lib.hid hc1
  have HL := Lib.hid hl
  have HT := Lib.hid ht
  have HIH := Lib.hid IH
  have HLL : Hid (l'.length = n - 1) := by show _ = _; rw [← HN.out, hl]; simp
  have HN2 : Hid (2 ≤ n) := by rw [← HN.out, hl]; show 2 ≤ _; simp; omega
  have HSUB : Hid ((l.take n).drop 1 = l') := by
    show _ = _
    rw [List.take_of_length_le (by rw [HN.out]; exact Nat.le_refl _), hl]
    rfl
  clear hc0 hc1 hl IH ht hpos'
  go_enter Tryz.func11, Tryz.ntmps11
  go_wp2_with fail
  refine gen_world (fun w' => Hid (Ws w.heap.size w w')) (ws_new w) ?_
  obtain ⟨Z, hZ⟩ : ∃ Z, w.heap.size = Z := ⟨_, rfl⟩
  have HZ := Lib.hid hZ
  rw [hZ]
  clear hZ
  rintro w1 hw1
  go_loopg [3] 2 (fun g i wr => ∃ (k : Nat), g = 2 - k ∧ k ≤ 2 ∧ i = .int .i64 k ∧ Hid (Ws Z w wr))
  case atStart => exact ⟨0, rfl, Nat.zero_le _, rfl, hw1⟩
  case round =>
    obtain ⟨k, rfl, hk, rfl, hw⟩ := hrel
    have hk3 : k = 0 ∨ k = 1 ∨ k = 2 := by omega
    clear hk
    rcases hk3 with rfl | rfl | rfl
    · have HC := Lib.hid (cut_any wOr (some ⟨b, o, none⟩) c l wr (hs.out.below (by rw [HZ.out]; exact hw.out.1)) HPOS.out HN9.out)
      rw [HN.out, HC0.out] at HC
      have HC : Hid (Calls Tryz.prog 22 #[.slice (some ⟨b, o, none⟩) n c, .string ⟨#[111, 114]⟩] wr (CutPost [l] wr)) := HC
      go_wp2_with fail
      refine HC.out.mono ?_
      rintro e w3 ⟨Ac, cc, rfl, hcs⟩
      rw [show [l].length = 1 from rfl]
      go_wp2_with fail
      go_roundg 1
      case measure => omega
      case rel => exact ⟨1, rfl, by omega, rfl, hw.out.on hcs.out.1⟩
    · have HC := Lib.hid (cut_any wAnd (some ⟨b, o, none⟩) c l wr (hs.out.below (by rw [HZ.out]; exact hw.out.1)) HPOS.out HN9.out)
      rw [HN.out, HC1.out] at HC
      have HC : Hid (Calls Tryz.prog 22 #[.slice (some ⟨b, o, none⟩) n c, .string ⟨#[97, 110, 100]⟩] wr (CutPost [l] wr)) := HC
      go_wp2_with fail
      refine HC.out.mono ?_
      rintro e w3 ⟨Ac, cc, rfl, hcs⟩
      rw [show [l].length = 1 from rfl]
      go_wp2_with fail
      go_roundg 0
      case measure => omega
      case rel => exact ⟨2, rfl, by omega, rfl, hw.out.on hcs.out.1⟩
    · have hwd : Hid (WordsAt wr (some ⟨b, o, none⟩) c l) := hs.out.below (by rw [HZ.out]; exact hw.out.1)
      obtain ⟨b', o', e, c0, c1⟩ := hwd.out.2 0 (by have := HPOS.out; omega)
      cases e
      have hg : l[0]'(by have := HPOS.out; omega) = ⟨wHas, 2⟩ := by
        have h := HL.out
        subst h
        rfl
      rw [hg] at c0 c1
      have c0 : wr.cell? ⟨b, o, none⟩ = some (.string (str wHas)) := by rw [show o + 0 * 2 = o from by omega] at c0; exact c0
      have c1 : wr.cell? ⟨b, o + 1, none⟩ = some (.int .i64 2) := by rw [show o + 0 * 2 + 1 = o + 1 from by omega] at c1; exact c1
      have C0 := Lib.hid c0
      have HSW := Lib.hid (words_sub hwd.out 1 n (by have := HN2.out; omega) (by rw [HN.out]; exact Nat.le_refl _))
      rw [HSUB.out] at HSW
      have hA3 : subA b o c 1 = some ⟨b, o + 2, none⟩ := if_neg (by have := HN2.out; have := HNC.out; omega)
      rw [hA3] at HSW
      have HCALL := Lib.hid (HIH.out (some ⟨b, o + 2, none⟩) (c - 1) wr HSW)
      have hll : n - 1 = l'.length := HLL.out.symm
      have n9 : (n : Int) ≤ 2048 := by have := HN9.out; rw [HN.out] at this; omega
      have n2 : (2 : Int) ≤ (n : Int) := by have := HN2.out; omega
      have nc : (n : Int) ≤ (c : Int) := by have := HNC.out; omega
      have n0 : (0 : Int) < (n : Int) := by omega
      have n1 : (1 : Int) ≤ (n : Int) := by omega
      have HZW : Hid (Z < wr.heap.size) := hw.out.2.lt
      clear c0 hg hA3 hwd
      go_wp2_with fail
      refine HCALL.out.mono ?_
      rintro e w4 ⟨⟨fo, fu, fw⟩, rfl, hf, hb4⟩
      obtain ⟨⟨Au, nu, cu, hu⟩, ⟨Aw, nw, cw, hw2⟩⟩ := form_slices hf.out
      have hu : fu = .slice Au nu cu := hu
      have hw2 : fw = .slice Aw nw cw := hw2
      subst hu hw2
      rw [show fval (fo, .slice Au nu cu, .slice Aw nw cw) = .agg #[.string (str fo), .slice Au nu cu, .slice Aw nw cw] from rfl]
      have hWS : Hid (Ws Z w w4) := hw.out.next hb4.out (Nat.le_of_lt HZW.out)
      have c04 : Hid (w4.cell? ⟨b, o, none⟩ = some (.string (str wHas))) := (hb4.out.cell (World.block_lt_of_cell? wr _ C0.out)).trans C0.out
      clear c1 hll
      go_upto_region 18 with (fail)
      refine gen_world (fun w' => Hid (Ws Z w w') ∧ Hid (Below w4.heap.size w4 w') ∧ Hid (Blk w' w4.heap.size #[.string (str fo), .slice Au nu cu, .slice Aw nw cw] 39)) ⟨hWS.out.next ((Below.refl _ _).alloc (Nat.le_refl _) _) (by have := HZW.out; have := hb4.out.size; omega), (Below.refl _ _).alloc (Nat.le_refl _) _, Blk.new w4 _ 39⟩ ?_
      obtain ⟨G, hG⟩ : ∃ G, w4.heap.size = G := ⟨_, rfl⟩
      have HG := Lib.hid hG
      rw [hG]
      clear hG
      rintro w5 ⟨hw5, hb5, hk5⟩
      have c50 : w5.cell? ⟨G, 0, none⟩ = some (.string (str fo)) := (hk5.out.cell 0).trans rfl
      have c51 : w5.cell? ⟨G, 1, none⟩ = some (.slice Au nu cu) := (hk5.out.cell 1).trans rfl
      have c52 : w5.cell? ⟨G, 2, none⟩ = some (.slice Aw nw cw) := (hk5.out.cell 2).trans rfl
      have c05 : w5.cell? ⟨b, o, none⟩ = some (.string (str wHas)) := (hb5.out.cell (by rw [← HG.out]; exact World.block_lt_of_cell? w4 _ c04.out)).trans c04.out
      have n0' : 0 < n := by omega
      have HLT := Lib.hid hk5.out.lt
      obtain ⟨lit, hlit⟩ : ∃ lit, Obj.cells #[.string (str fo), .slice Au nu cu, .slice Aw nw cw] 39 = lit := ⟨_, rfl⟩
      have hka : Blk (w5.alloc (.cells #[.string (str fo), .slice Au nu cu, .slice Aw nw cw] 39)) Z #[.string ⟨#[]⟩, .slice none 0 0, .slice none 0 0] 39 := hw5.out.2.alloc _
      have hkz := hw5.out.2
      have ca0 : (w5.alloc (.cells #[.string (str fo), .slice Au nu cu, .slice Aw nw cw] 39)).cell? ⟨Z, 0, none⟩ = some (.string ⟨#[]⟩) := (hka.cell 0).trans rfl
      have ca1 : (w5.alloc (.cells #[.string (str fo), .slice Au nu cu, .slice Aw nw cw] 39)).cell? ⟨Z, 1, none⟩ = some (.slice none 0 0) := (hka.cell 1).trans rfl
      have ca2 : (w5.alloc (.cells #[.string (str fo), .slice Au nu cu, .slice Aw nw cw] 39)).cell? ⟨Z, 2, none⟩ = some (.slice none 0 0) := (hka.cell 2).trans rfl
      have ga0 := hka.frozen 0
      have ga1 := hka.frozen 1
      have ga2 := hka.frozen 2
      have cb5 : (w5.alloc (.cells #[.string (str fo), .slice Au nu cu, .slice Aw nw cw] 39)).cell? ⟨b, o, none⟩ = some (.string (str wHas)) := (((Below.refl _ _).alloc (Nat.le_refl _) _ : Below w5.heap.size w5 _).cell (World.block_lt_of_cell? w5 _ c05)).trans c05
      clear hka hkz hlit
      go_region_law (fail)
      all_goals (
        go_wp2_with fail
        obtain ⟨p1, p2, p3, p4⟩ := pre_form hw5.out (f := (fo, .slice Au nu cu, .slice Aw nw cw)) ((hf.out.chg (Chg.of_below (S := fun _ => False) (by rw [← HG.out] at hb5; exact hb5.out)) (fun _ _ h => h)).mono (fun k _ hk => by rcases hk with hk | hk; exact absurd hk id; have := HZW.out; omega)) (str wHas |> Value.string)
        refine bodyPost_ret (v := .agg #[.string (str wHas), .slice (some ⟨w5.heap.size, 0, none⟩) 1 1, .slice none 0 0]) (results_cell_row (P := Tryz.prog) (fn := Tryz.f11) (p := 2) (ty := 39) Tryz.results11 _ _ Z 39 #[.string (str wHas), .slice (some ⟨w5.heap.size, 0, none⟩) 1 1, .slice none 0 0] (0, 0) _ rfl p4 Tryz.underlying39 rfl size39) rfl ?_
        refine ⟨(wHas, .slice (some ⟨w5.heap.size, 0, none⟩) 1 1, .slice none 0 0), rfl, ?_, by rw [HZ.out]; exact p3⟩
        rw [HT.out, HZ.out]
        exact .has _ 1 (fo, .slice Au nu cu, .slice Aw nw cw) p1 p2)
end Go.Proofs.YtcdhkeahcliefaaGreatDoor.RefK
