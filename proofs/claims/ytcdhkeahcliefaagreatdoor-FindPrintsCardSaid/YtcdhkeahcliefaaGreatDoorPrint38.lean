/- The document's whole: a term. -/
import Derived.Test.YtcdhkeahcliefaaGreatDoorPrint37
import Derived.Deep.RegionLaw
namespace Go.Proofs.YtcdhkeahcliefaaGreatDoor.RefL
open Go.ChangeShapes Go.WideShapes Go.ChangeAt Go.RowKit
open Go.Proofs.YtcdhkeahcliefaaGreatDoor.Kit Go.Proofs.YtcdhkeahcliefaaGreatDoor.Base Go.Proofs.YtcdhkeahcliefaaGreatDoor.Term Go.Proofs.YtcdhkeahcliefaaGreatDoor.Syn Go.Proofs.YtcdhkeahcliefaaGreatDoor.Gram Go.Proofs.YtcdhkeahcliefaaGreatDoor.GramB Go.Proofs.YtcdhkeahcliefaaGreatDoor.TokB Go.Proofs.YtcdhkeahcliefaaGreatDoor.RefD Go.Proofs.YtcdhkeahcliefaaGreatDoor.RefF Go.Proofs.YtcdhkeahcliefaaGreatDoor.RefG Go.Proofs.YtcdhkeahcliefaaGreatDoor.RefH Go.Proofs.YtcdhkeahcliefaaGreatDoor.RefI
set_option linter.unusedVariables false

/-- the words of a term, copied so far -/
def Lf (Z H : Nat) (w wr : World) (A : Option Addr) (c : Nat) (l : List W) : Prop :=
  Ws Z w wr ∧ Z < H ∧ H < wr.heap.size ∧ Blk wr H #[.string ⟨#[]⟩, .slice none 0 0, .slice A l.length c] 39 ∧ wr.ownsRow (H + 1) 9 1 (.slice A l.length c) l.length (l.map fun y => .string (str y))
theorem Lf.next {Z H : Nat} {w wr w' : World} {A : Option Addr} {c : Nat} {l : List W} (h : Lf Z H w wr A c l) (hb : Below wr.heap.size wr w') : Lf Z H w w' A c l :=
  ⟨h.1.next hb (Nat.le_of_lt h.1.2.lt), h.2.1, Nat.lt_of_lt_of_le h.2.2.1 hb.size, h.2.2.2.1.below hb h.2.2.2.1.lt, owns_below h.2.2.2.2 hb⟩
theorem Lf.raw {Z H : Nat} {w wr : World} {A : Option Addr} {c : Nat} {l : List W} (h : Lf Z H w wr A c l) : Hid (Since (H + 1) wr wr ∧ wr.ownsRow (H + 1) 9 1 (.slice A l.length c) l.length (l.map fun y => .string (str y))) := ⟨⟨Below.refl _ _, h.2.2.1⟩, h.2.2.2.2⟩
theorem Lf.push {Z H : Nat} {w wr w' : World} {A A7 : Option Addr} {c c7 : Nat} {l : List W} {x : W} {xs : List Value} (h : Lf Z H w wr A c l) (hx : xs = [.string (str x)]) (h7 : Since (H + 1) wr w' ∧ w'.ownsRow (H + 1) 9 1 (.slice A7 (l.length + 1) c7) (l.length + 1) ((l.map fun y => .string (str y)) ++ xs)) (hk : Keeps 9 wr w') :
    Lf Z H w (w'.setCell ⟨H, 2, none⟩ (.slice A7 (l.length + 1) c7)) A7 c7 (l ++ [x]) := by
  subst hx
  obtain ⟨h1, h2, h3, h4, h5⟩ := h
  have hb4 := hk.blk h4 (by decide)
  refine ⟨⟨?_, (hk.blk h1.2 (by decide)).far (by show Z ≠ H; omega) _⟩, h2, ?_, ?_, ?_⟩
  · exact (h1.1.trans (h7.1.1.mono (by omega))).setCell (p := ⟨H, 2, none⟩) (Nat.le_of_lt h2) _
  · rw [World.size_setCell]; exact Nat.lt_of_lt_of_le (Nat.lt_succ_self H) h7.1.2
  · rw [List.length_append]; exact hb4.put 2 _
  · rw [List.length_append, List.map_append]
    exact owns_set h7.2 hb4 (by decide)
theorem lf_new {Z : Nat} {w wr : World} (h : Ws Z w wr) : Lf Z wr.heap.size w (wr.alloc zform) none 0 [] :=
  ⟨h.next ((Below.refl _ _).alloc (Nat.le_refl _) _) (Nat.le_of_lt h.2.lt), h.2.lt, by simp, Blk.new wr _ 39, World.ownsRow_nil _ _ _ _⟩
theorem Lf.strs {Z H : Nat} {w wr : World} {A : Option Addr} {c : Nat} {l : List W} (h : Lf Z H w wr A c l) : StrsIn (fun k => H < k) wr A l := fun i hi => by
  obtain ⟨A', c', e, hc⟩ := owns_slice h.2.2.2.2
  cases e
  obtain ⟨ad, e1, hcell⟩ := hc i (.string (str l[i])) (by rw [List.getElem?_map, List.getElem?_eq_getElem hi]; rfl)
  rcases h.2.2.2.2.2 with ⟨h0, hn⟩ | ⟨g, cap, cur, hv, hb, _⟩
  · rw [e1] at h0; cases h0
  · rw [e1] at hv
    injection hv with hv _ _
    cases hv
    rw [add_block] at hcell
    exact ⟨g, 0, e1, hb, by rw [Nat.zero_add]; exact hcell⟩
set_option maxRecDepth 100000 in
set_option maxHeartbeats 6400000 in
theorem whole_leaf (A : Option Addr) (c : Nat) (l : List Wd) (t : Term) (w : World) (hs : Hid (WordsAt w A c l)) (hpos : 1 ≤ l.length) (hn9 : l.length ≤ 2048) (hc0 : cutP wOr 0 [] l = [l]) (hc1 : cutP wAnd 0 [] l = [l]) (x : W) (r : List W) (hlf : leaf x r = .ok (t, r.length)) (hl : l = wordsOf x r) (hwb : ∀ y ∈ r, y.length ≤ 1023) : Calls Tryz.prog 11 #[.slice A l.length c] w (FormPost NoS t w) := by
  obtain ⟨b, o, hA⟩ := words_some hs.out hpos
  subst hA
  obtain ⟨n, hn1⟩ : ∃ n, l.length = n := ⟨_, rfl⟩
  have HN := Lib.hid hn1
  have HPOS := Lib.hid hpos
  have HN9 := Lib.hid hn9
  have HNC : Hid (n ≤ c) := by rw [← hn1]; exact hs.out.1
  rw [hn1]
  clear hn1 hpos hn9
  have HWB := Lib.hid hwb
  clear hwb
  have HC0 := Lib.hid hc0
  have HC1 := Lib.hid hc1
  have HLF := Lib.hid hlf
  have HL := Lib.hid hl
  have HLL : Hid ((x :: r).length = n) := by show _ = _; rw [← HN.out, hl]; simp [wordsOf]
  have HST : Hid (∀ k (h : k < l.length) (h2 : k < (x :: r).length), l[k].s = (x :: r)[k]) := fun k h h2 => by
    have e := leaf_strings x r
    rw [← HL.out] at e
    have e2 := congrArg (fun q => q[k]?) e
    simp only [List.getElem?_map] at e2
    rw [List.getElem?_eq_getElem h, List.getElem?_eq_getElem h2] at e2
    simpa using e2
  clear hc0 hc1 hl hlf
  go_enter Tryz.func11, Tryz.ntmps11
  go_wp2_with fail
  refine gen_world (fun w' => Hid (Ws w.heap.size w w')) (ws_new w) ?_
  obtain ⟨Z, hZ⟩ : ∃ Z, w.heap.size = Z := ⟨_, rfl⟩
  have HZ := Lib.hid hZ
  rw [hZ]
  clear hZ
  rintro w1 hw1
  go_loopg [3] 2 (fun g i wr => ∃ (k : Nat), g = 2 - k ∧ k ≤ 2 ∧ i = .int .i64 k ∧ Hid (Ws Z w wr))
  case atStart => exact ⟨0, rfl, Nat.zero_le _, rfl, hw1⟩
  case round =>
    obtain ⟨k, rfl, hk, rfl, hw⟩ := hrel
    have hk3 : k = 0 ∨ k = 1 ∨ k = 2 := by omega
    clear hk
    rcases hk3 with rfl | rfl | rfl
    · have HC := Lib.hid (cut_any wOr (some ⟨b, o, none⟩) c l wr (hs.out.below (by rw [HZ.out]; exact hw.out.1)) HPOS.out HN9.out)
      rw [HN.out, HC0.out] at HC
      have HC : Hid (Calls Tryz.prog 22 #[.slice (some ⟨b, o, none⟩) n c, .string ⟨#[111, 114]⟩] wr (CutPost [l] wr)) := HC
      go_wp2_with fail
      refine HC.out.mono ?_
      rintro e w3 ⟨Ac, cc, rfl, hcs⟩
      rw [show [l].length = 1 from rfl]
      go_wp2_with fail
      go_roundg 1
      case measure => omega
      case rel => exact ⟨1, rfl, by omega, rfl, hw.out.on hcs.out.1⟩
    · have HC := Lib.hid (cut_any wAnd (some ⟨b, o, none⟩) c l wr (hs.out.below (by rw [HZ.out]; exact hw.out.1)) HPOS.out HN9.out)
      rw [HN.out, HC1.out] at HC
      have HC : Hid (Calls Tryz.prog 22 #[.slice (some ⟨b, o, none⟩) n c, .string ⟨#[97, 110, 100]⟩] wr (CutPost [l] wr)) := HC
      go_wp2_with fail
      refine HC.out.mono ?_
      rintro e w3 ⟨Ac, cc, rfl, hcs⟩
      rw [show [l].length = 1 from rfl]
      go_wp2_with fail
      go_roundg 0
      case measure => omega
      case rel => exact ⟨2, rfl, by omega, rfl, hw.out.on hcs.out.1⟩
    · have hwd : Hid (WordsAt wr (some ⟨b, o, none⟩) c l) := hs.out.below (by rw [HZ.out]; exact hw.out.1)
      obtain ⟨b', o', e, c0, c1⟩ := hwd.out.2 0 (by have := HPOS.out; omega)
      cases e
      have hg : (l[0]'(by have := HPOS.out; omega)).p = 5 := by
        have h := HL.out
        subst h
        rfl
      rw [hg] at c1
      have c1 : wr.cell? ⟨b, o + 1, none⟩ = some (.int .i64 5) := by rw [show o + 0 * 2 + 1 = o + 1 from by omega] at c1; exact c1
      have n9 : (n : Int) ≤ 2048 := by have := HN9.out; rw [HN.out] at this; omega
      have n0 : (0 : Int) < (n : Int) := by have := HPOS.out; rw [HN.out] at this; omega
      have HLN := lf_new hw.out
      clear c0 hg hwd
      go_wp2_with fail
      clear c1 n0
      obtain ⟨H, hH⟩ : ∃ H, wr.heap.size = H := ⟨_, rfl⟩
      rw [hH] at HLN ⊢
      refine gen_world (fun w' => Hid (Lf Z H w w' none 0 [])) HLN ?_
      clear HLN hw hH
      rintro w5 hw5
      go_loopg [11] n (fun g i wr => ∃ (k : Nat) (A2 : Option Addr) (c2 : Nat) (d : List W), g = n - k ∧ k ≤ n ∧ i = .int .i64 k ∧ Hid (d = (x :: r).take k) ∧ Hid (Lf Z H w wr A2 c2 d))
      case atStart => exact ⟨0, none, 0, [], rfl, Nat.zero_le _, rfl, rfl, hw5⟩
      case round =>
        obtain ⟨k, A2, c2, d, rfl, hk, rfl, hd, hq⟩ := hrel
        have k9 : (k : Int) ≤ 2048 := by omega
        have k0 : (0 : Int) ≤ (k : Int) := by omega
        have HKN := Lib.hid hk
        by_cases hlt : k < n
        · have hlti : (k : Int) < (n : Int) := by omega
          have HLT := Lib.hid hlt
          have hkl : k < l.length := by rw [HN.out]; exact hlt
          have hkx : k < (x :: r).length := by rw [HLL.out]; exact hlt
          have hst := HST.out k hkl hkx
          obtain ⟨y, hy⟩ : ∃ y, (x :: r)[k] = y := ⟨_, rfl⟩
          have hwd : WordsAt wr (some ⟨b, o, none⟩) c l := hs.out.below (by rw [HZ.out]; exact hq.out.1.1)
          obtain ⟨b', o', e, q0, qz⟩ := hwd.2 k hkl
          clear qz
          cases e
          rw [hst, hy] at q0
          have HTK : Hid (d ++ [y] = (x :: r).take (k + 1)) := by show _ = _; rw [List.take_succ_eq_append_getElem hkx, hy, hd.out]
          have HDL : Hid (d.length ≤ 2048) := by have h : d.length = min k (x :: r).length := (by rw [hd.out, List.length_take]); have := HKN.out; show _ ≤ _; omega
          have cw : wr.cell? ⟨H, 2, none⟩ = some (.slice A2 d.length c2) := (hq.out.2.2.2.1.cell 2).trans rfl
          have HQA : Hid (Lf Z H w (wr.alloc (.cells #[.string (str y)] 9)).drew A2 c2 d) := (hq.out.next ((Below.refl _ _).alloc (Nat.le_refl _) _)).next (Below.refl _ _).drew
          have HQB : Hid (Lf Z H w (wr.drew.alloc (.cells #[.string (str y)] 9)) A2 c2 d) := (hq.out.next (Below.refl _ _).drew).next ((Below.refl _ _).alloc (Nat.le_refl _) _)
          have HNA : Hid (∀ j u, [Value.string (str y)][j]? = some u → (wr.alloc (.cells #[.string (str y)] 9)).drew.cell? ((⟨wr.heap.size, 0, none⟩ : Addr).add j) = some u) := news_one wr _ 9
          have HNB : Hid (∀ j u, [Value.string (str y)][j]? = some u → (wr.drew.alloc (.cells #[.string (str y)] 9)).cell? ((⟨wr.heap.size, 0, none⟩ : Addr).add j) = some u) := news_one wr.drew _ 9
          have HRA := HQA.out.raw
          have HRB := HQB.out.raw
          have cwa : (wr.alloc (.cells #[.string (str y)] 9)).cell? ⟨H, 2, none⟩ = some (.slice A2 d.length c2) := ((hq.out.2.2.2.1.alloc _).cell 2).trans rfl
          have n0' : 0 < n := by omega
          have kn' : k < n := by omega
          clear hkl hkx hst hy hwd hlt hk
          go_upto_region 25 with (fail)
          go_region_law (first | (refine step_at (v := .slice A2 d.length c2) el22 rfl (.tmp 76) (.tmp 82) rfl rfl HRA ⟨wr.heap.size, 0, none⟩ 1 1 [.string (str y)] rfl (by decide) rfl HNA (one_cell _ rfl) (by have := HDL.out; omega) ?_; intro A7 c7 w7 h7 hk7; have HP := HQA; have d5 : w7.cell? ⟨H, 2, none⟩ = some (.slice A2 d.length c2) := ((hk7.out.blk HQA.out.2.2.2.1 (by decide)).cell 2).trans rfl; have f5 := (hk7.out.blk HQA.out.2.2.2.1 (by decide)).frozen 2) | (refine step_at (v := .slice A2 d.length c2) el22 rfl (.tmp 76) (.tmp 82) rfl rfl HRB ⟨wr.heap.size, 0, none⟩ 1 1 [.string (str y)] rfl (by decide) rfl HNB (one_cell _ rfl) (by have := HDL.out; omega) ?_; intro A7 c7 w7 h7 hk7; have HP := HQB; have d5 : w7.cell? ⟨H, 2, none⟩ = some (.slice A2 d.length c2) := ((hk7.out.blk HQB.out.2.2.2.1 (by decide)).cell 2).trans rfl; have f5 := (hk7.out.blk HQB.out.2.2.2.1 (by decide)).frozen 2))
          all_goals (
            have h8 : Hid (Lf Z H w (w7.setCell ⟨H, 2, none⟩ (.slice A7 (d.length + 1) c7)) A7 c7 (d ++ [y])) := HP.out.push rfl h7.out hk7.out
            clear d5 f5 cw cwa q0
            generalize w7.setCell ⟨H, 2, none⟩ (.slice A7 (d.length + 1) c7) = w8 at *
            go_wp2_with fail
            go_roundg (n - (k + 1))
            case measure => have := HLT.out; omega
            case rel => exact ⟨k + 1, A7, c7, d ++ [y], rfl, HLT.out, by go_num, HTK, h8⟩)
        · have hlti : ¬ ((k : Int) < (n : Int)) := by omega
          obtain rfl : k = n := by omega
          have HD : Hid (d = x :: r) := by show _ = _; rw [hd.out, List.take_of_length_le (by rw [HLL.out]; exact Nat.le_refl _)]
          have cw0 : wr.cell? ⟨H, 0, none⟩ = some (.string ⟨#[]⟩) := (hq.out.2.2.2.1.cell 0).trans rfl
          have cw1 : wr.cell? ⟨H, 1, none⟩ = some (.slice none 0 0) := (hq.out.2.2.2.1.cell 1).trans rfl
          have cw2 : wr.cell? ⟨H, 2, none⟩ = some (.slice A2 d.length c2) := (hq.out.2.2.2.1.cell 2).trans rfl
          have hk4 := hq.out.1.2
          have c40 : wr.cell? ⟨Z, 0, none⟩ = some (.string ⟨#[]⟩) := (hk4.cell 0).trans rfl
          have c41 : wr.cell? ⟨Z, 1, none⟩ = some (.slice none 0 0) := (hk4.cell 1).trans rfl
          have c42 : wr.cell? ⟨Z, 2, none⟩ = some (.slice none 0 0) := (hk4.cell 2).trans rfl
          have g40 := hk4.frozen 0
          have g41 := hk4.frozen 1
          have g42 := hk4.frozen 2
          have HK4 := Lib.hid hk4
          clear hk4 hlt hk
          go_wp2_with fail
          have h9 := store3 HK4.out (.string ⟨#[]⟩) (.slice none 0 0) (.slice A2 d.length c2)
          have hc9 := chg3 wr Z (.string ⟨#[]⟩) (.slice none 0 0) (.slice A2 d.length c2)
          refine bodyPost_ret (v := .agg #[.string ⟨#[]⟩, .slice none 0 0, .slice A2 d.length c2]) (results_cell_row (P := Tryz.prog) (fn := Tryz.f11) (p := 2) (ty := 39) Tryz.results11 _ _ Z 39 #[.string ⟨#[]⟩, .slice none 0 0, .slice A2 d.length c2] (0, 0) _ rfl h9 Tryz.underlying39 rfl size39) rfl ?_
          generalize ((wr.setCell ⟨Z, 0, none⟩ (.string ⟨#[]⟩)).setCell ⟨Z, 1, none⟩ (.slice none 0 0)).setCell ⟨Z, 2, none⟩ (.slice A2 d.length c2) = w9 at *
          have hZH : Z < H := hq.out.2.1
          refine ⟨([], .slice none 0 0, .slice A2 d.length c2), rfl, ?_, ?_⟩
          · have hst := (hq.out.strs.chg hc9 (fun q hq e => by have hq : H < q := hq; omega)).mono (T := fun q => NoS q ∨ w.heap.size ≤ q) (fun q _ hq => .inr (by have hq : H < q := hq; rw [HZ.out]; omega))
            rw [HD.out] at hst ⊢
            exact .leaf A2 c2 HLF.out HWB.out hst
          · rw [HZ.out]
            exact hq.out.1.1.trans (hc9.below (by have := hq.out.2.2.1; omega) (fun q e => by omega))
end Go.Proofs.YtcdhkeahcliefaaGreatDoor.RefL
