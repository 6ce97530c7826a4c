/- The document's whole: or, and. -/
import Derived.Test.YtcdhkeahcliefaaGreatDoorPrint37
namespace Go.Proofs.YtcdhkeahcliefaaGreatDoor.RefM
open Go.ChangeShapes Go.WideShapes Go.ChangeAt Go.RowKit
open Go.Proofs.YtcdhkeahcliefaaGreatDoor.Kit Go.Proofs.YtcdhkeahcliefaaGreatDoor.Base Go.Proofs.YtcdhkeahcliefaaGreatDoor.Term Go.Proofs.YtcdhkeahcliefaaGreatDoor.Syn Go.Proofs.YtcdhkeahcliefaaGreatDoor.Gram Go.Proofs.YtcdhkeahcliefaaGreatDoor.GramB Go.Proofs.YtcdhkeahcliefaaGreatDoor.TokB Go.Proofs.YtcdhkeahcliefaaGreatDoor.RefD Go.Proofs.YtcdhkeahcliefaaGreatDoor.RefF Go.Proofs.YtcdhkeahcliefaaGreatDoor.RefG Go.Proofs.YtcdhkeahcliefaaGreatDoor.RefH Go.Proofs.YtcdhkeahcliefaaGreatDoor.RefI
set_option linter.unusedVariables false

theorem list_forms2 {ops : Array Oper} {rest : List Oper} {o : Oper} {a : Act} {Q : Exit → Act → World → Prop} {w : World} (hgd : o.guard = none) (s x : Operand)
    (ho : o.op = .call { callee := .builtin .append, args := #[s, x], argTypes := #[37, 37] }) {Z n c : Nat} {A : Option Addr} {xs : List Value} (hs : a.eval s = .slice A n c) (H : Hid (w.ownsRow Z 39 3 (.slice A n c) n xs ∧ Z ≤ w.heap.size))
    (ad : Addr) (m c' : Nat) (news : List Value) (hx : a.eval x = .slice (some ad) m c') (hm : Hid (0 < m)) (hcs : news.length = m * 3) (hnews : Hid (∀ j u, news[j]? = some u → w.cell? (ad.add j) = some u)) (hone : Hid (∀ u ∈ news, u.oneCell' = true)) (hb : Hid (n + m ≤ 4096))
    (hK : ∀ g c7 w', Hid (w'.ownsRow Z 39 3 (.slice (some ⟨g, 0, none⟩) (n + m) c7) (n + m) (xs ++ news)) → Hid (Chg (fun k => (Value.slice A n c).ownBlock = some k) w w') → Hid ((Value.slice A n c).ownBlock = some g ∨ g = w.heap.size) → wpList Tryz.prog ops Q rest (a.put o.dst (.slice (some ⟨g, 0, none⟩) (n + m) c7)) w') :
    wpList Tryz.prog ops Q (o :: rest) a w := by
  obtain ⟨i, z, h1, h2, h3, h4, h5, h6, h7, h8⟩ := el37
  have hb2 := hb.out
  refine wpList_append_lies _ hgd s x 37 ho Z 39 i z 3 64 h1 h2 h3 h4 h5 h6 h7 (.slice A n c) n xs hs H.out.1 ad m c' news hx hcs hnews.out hone.out hm.out (by unfold maxLen; omega) (by omega) H.out.2 _ rfl ?_
  intro g cap w' hown' hgrow hlies _
  exact hK g cap w' hown' ⟨hgrow.os, hgrow.tape, hgrow.output, hgrow.size, fun k hk hn => hgrow.block k hk (fun e => hn e.symm)⟩ hlies
/-- where a list's members lie -/
def OffG (G : Nat) (v : Value) (k : Nat) : Prop := G ≤ k ∧ v.ownBlock ≠ some k
/-- forms gathered one by one -/
def Gs (G : Nat) (w3 wr : World) (A : Option Addr) (c : Nat) (fs : List Fm) (ts : List Term) : Prop :=
  Since G w3 wr ∧ fs.length = ts.length ∧ wr.ownsRow G 39 3 (.slice A fs.length c) fs.length (fcells fs) ∧ ∀ (i : Nat) (f : Fm) (t : Term), fs[i]? = some f → ts[i]? = some t → FormIs (OffG G (.slice A fs.length c)) wr f.1 f.2.1 f.2.2 t
theorem Gs.next {G : Nat} {w3 wr w' : World} {A : Option Addr} {c : Nat} {fs : List Fm} {ts : List Term} (h : Gs G w3 wr A c fs ts) (hb : Below wr.heap.size wr w') : Gs G w3 w' A c fs ts :=
  ⟨h.1.next hb, h.2.1, owns_below h.2.2.1 hb, fun i f t hf ht => (h.2.2.2 i f t hf ht).chg (Chg.of_below (S := fun _ => False) hb) (fun _ _ h => h)⟩
theorem form_grown {G g : Nat} {w w' : World} {op : W} {vu vw v : Value} {t : Term} {n c : Nat} (h : FormIs (OffG G v) w op vu vw t) (hg : Chg (fun k => v.ownBlock = some k) w w') (hl : v.ownBlock = some g ∨ g = w.heap.size) : FormIs (OffG G (.slice (some ⟨g, 0, none⟩) n c)) w' op vu vw t := by
  have h1 : FormIs (fun k => k < w.heap.size ∧ OffG G v k) w op vu vw t := h.mono (fun k hk hs => ⟨hk, hs⟩)
  have h2 := h1.chg hg (fun k hk e => hk.2.2 e)
  refine h2.mono (fun k _ hk => ⟨hk.2.1, fun e => ?_⟩)
  have e2 : g = k := by simpa [Value.ownBlock] using e
  subst e2
  rcases hl with hl | hl
  · exact hk.2.2 hl
  · omega
theorem Gs.push {G g n' c7 : Nat} {w3 wr w' : World} {A : Option Addr} {c : Nat} {fs : List Fm} {ts : List Term} {f : Fm} {t : Term} (h : Gs G w3 wr A c fs ts) (hf : FormIs (OffG G (.slice A fs.length c)) wr f.1 f.2.1 f.2.2 t) (hn : fs.length + 1 = n')
    (hown : w'.ownsRow G 39 3 (.slice (some ⟨g, 0, none⟩) n' c7) n' (fcells fs ++ fcells [f])) (hc : Chg (fun k => (Value.slice A fs.length c).ownBlock = some k) wr w') (hl : (Value.slice A fs.length c).ownBlock = some g ∨ g = wr.heap.size) : Gs G w3 w' (some ⟨g, 0, none⟩) c7 (fs ++ [f]) (ts ++ [t]) := by
  subst hn
  obtain ⟨h1, h2, h3, h4⟩ := h
  refine ⟨⟨h1.1.trans (hc.below h1.2 (fun k e => (h3.lt k e).1)), Nat.le_trans h1.2 hc.size⟩, by simp [h2], by rw [List.length_append, fcells_append]; exact hown, fun i f' t' hf' ht' => ?_⟩
  rw [List.length_append]
  by_cases hi : i < fs.length
  · rw [List.getElem?_append_left hi] at hf'
    rw [List.getElem?_append_left (by rw [← h2]; exact hi)] at ht'
    exact form_grown (h4 i f' t' hf' ht') hc hl
  · rw [List.getElem?_append_right (by omega)] at hf' ht'
    rw [← h2] at ht'
    cases hq : i - fs.length with
    | zero =>
      rw [hq] at hf' ht'
      cases hf'
      cases ht'
      exact form_grown hf hc hl
    | succ q => rw [hq] at hf'; cases hf'
set_option maxRecDepth 100000 in
set_option maxHeartbeats 6400000 in
theorem whole_or (A : Option Addr) (c : Nat) (l : List Wd) (t : Term) (w : World) (hs : Hid (WordsAt w A c l)) (hpos : 1 ≤ l.length) (hn9 : l.length ≤ 2048) (ps : List (List Wd × Term)) (h2 : 2 ≤ ps.length) (hcm : cutP wOr 0 [] l = ps.map (·.1)) (ht : t = .either ((ps.map (·.2)).flatMap flatE)) (h9 : ((ps.map (·.2)).flatMap flatE).length ≤ 2048) (h8 : ps.length ≤ 2048) (hne : ∀ x ∈ ps, Ne x.2) (IH : ∀ x ∈ ps, ∀ A c w, Hid (WordsAt w A c x.1) → Calls Tryz.prog 11 #[.slice A x.1.length c] w (FormPost NoS x.2 w)) : Calls Tryz.prog 11 #[.slice A l.length c] w (FormPost NoS t w) := by
  obtain ⟨b, o, hA⟩ := words_some hs.out hpos
  subst hA
  obtain ⟨n, hn1⟩ : ∃ n, l.length = n := ⟨_, rfl⟩
  have HN := Lib.hid hn1
  have HPOS := Lib.hid hpos
  have HN9 := Lib.hid hn9
  have HNC : Hid (n ≤ c) := by rw [← hn1]; exact hs.out.1
  rw [hn1]
  clear hn1 hpos hn9
  have HCM := Lib.hid hcm
  have HIH := Lib.hid IH
  have HT := Lib.hid ht
  have H2 := Lib.hid h2
  have H9 := Lib.hid h9
  have H8 := Lib.hid h8
  have HNE := Lib.hid hne
  clear hcm IH ht h2 h9 h8 hne
  go_enter Tryz.func11, Tryz.ntmps11
  go_wp2_with fail
  refine gen_world (fun w' => Hid (Ws w.heap.size w w')) (ws_new w) ?_
  obtain ⟨Z, hZ⟩ : ∃ Z, w.heap.size = Z := ⟨_, rfl⟩
  have HZ := Lib.hid hZ
  rw [hZ]
  clear hZ
  rintro w1 hw1
  go_loopg [3] 2 (fun g i wr => ∃ (k : Nat), g = 2 - k ∧ k ≤ 0 ∧ i = .int .i64 k ∧ Hid (Ws Z w wr))
  case atStart => exact ⟨0, rfl, Nat.zero_le _, rfl, hw1⟩
  case round =>
    obtain ⟨k, rfl, hk, rfl, hw⟩ := hrel
    obtain rfl : k = 0 := by omega
    clear hk
    have HC := Lib.hid (cut_any wOr (some ⟨b, o, none⟩) c l wr (hs.out.below (by rw [HZ.out]; exact hw.out.1)) HPOS.out HN9.out)
    rw [HN.out, HCM.out] at HC
    have HC : Hid (Calls Tryz.prog 22 #[.slice (some ⟨b, o, none⟩) n c, .string ⟨#[111, 114]⟩] wr (CutPost (ps.map (·.1)) wr)) := HC
    have HWR : Hid (Below Z w wr) := hw.out.1
    have HZW : Hid (Z < wr.heap.size) := hw.out.2.lt
    go_wp2_with fail
    refine HC.out.mono ?_
    rintro e w3 ⟨Ac, cc, rfl, hcs⟩
    obtain ⟨hsc, vs, hrow, hpa⟩ := hcs.out
    obtain ⟨m, hm⟩ : ∃ m, (ps.map (·.1)).length = m := ⟨_, rfl⟩
    have HM := Lib.hid hm
    rw [hm] at hrow ⊢
    have HMP : Hid (ps.length = m) := by show _ = _; rw [← hm, List.length_map]
    have m1 : (1 : Int) < (m : Int) := by have := H2.out; have := HMP.out; omega
    have m9 : (m : Int) ≤ 2048 := by have := H8.out; have := HMP.out; omega
    obtain ⟨Ac2, cc2, eA, hrc⟩ := owns_slice hrow
    cases eA
    have HPA := Lib.hid hpa
    have HRC := Lib.hid hrc
    have HVL : Hid (vs.length = m) := by show _ = _; rw [hpa.1, hm]
    have HW3 : Hid (Ws Z w w3) := hw.out.on hsc
    have HSC := Lib.hid hsc
    obtain ⟨adr, hadr⟩ : ∃ adr, Ac = some adr := by
      cases Ac with
      | none => obtain ⟨A', c', e, h⟩ := hpa.2 0 (by rw [hm]; omega); obtain ⟨ad, e2, _⟩ := hrc 0 _ e; cases e2
      | some adr => exact ⟨adr, rfl⟩
    subst hadr
    clear hm hrow hpa hrc hsc hcs HC hw
    go_wp2_with fail
    obtain ⟨G, hG⟩ : ∃ G, w3.heap.size = G := ⟨_, rfl⟩
    have HG := Lib.hid hG
    have HGS : Hid (Gs G w3 w3 none 0 [] []) := by rw [← hG]; exact ⟨Since.refl w3, rfl, World.ownsRow_nil _ _ _ _, fun i f t h => by cases h⟩
    have HZG : Hid (Z < G) := by rw [← hG]; exact HW3.out.2.lt
    clear hG
    go_loopg [6, 7] m (fun g v i wq => ∃ (j : Nat) (A2 : Option Addr) (c2 : Nat) (fs : List Fm) (ts : List Term), g = m - j ∧ j ≤ m ∧ v = .slice A2 fs.length c2 ∧ i = .int .i64 j ∧ Hid (ts = (ps.map (·.2)).take j) ∧ Hid (Gs G w3 wq A2 c2 fs ts))
    case atStart => exact ⟨0, none, 0, [], [], rfl, Nat.zero_le _, rfl, rfl, rfl, HGS⟩
    case round =>
      obtain ⟨j, A2, c2, fs, ts, rfl, hj, rfl, rfl, hts, hgs⟩ := hrel
      have j9 : (j : Int) ≤ 2048 := by omega
      have j0 : (0 : Int) ≤ (j : Int) := by omega
      have HJM := Lib.hid hj
      have HFL : Hid (fs.length ≤ 2048) := by have h1 := hgs.out.2.1; have h2 : ts.length = min j (ps.map (·.2)).length := (by rw [hts.out, List.length_take]); have := HJM.out; have := H8.out; have := HMP.out; show _ ≤ _; omega
      by_cases hlt : j < m
      · have hji : (j : Int) < (m : Int) := by omega
        have HLT := Lib.hid hlt
        have hjp : j < ps.length := by rw [HMP.out]; exact hlt
        obtain ⟨⟨lj, tj⟩, hpj⟩ : ∃ q, ps[j] = q := ⟨_, rfl⟩
        have hmem : (lj, tj) ∈ ps := by rw [← hpj]; exact List.getElem_mem hjp
        obtain ⟨Aj, cj, ej, hwj⟩ := HPA.out.2 j (by rw [HM.out]; exact hlt)
        have elj : (ps.map (·.1))[j]'(by rw [HM.out]; exact hlt) = lj := by rw [List.getElem_map, hpj]
        rw [elj] at ej hwj
        obtain ⟨ad', e2, hcell⟩ := HRC.out j _ ej
        cases e2
        have hcj : wr.cell? (adr.add j) = some (.slice Aj lj.length cj) := (hgs.out.1.1.cell (by rw [← HG.out]; exact World.block_lt_of_cell? w3 _ hcell)).trans hcell
        have HIHJ := Lib.hid (HIH.out (lj, tj) hmem Aj cj wr ((hwj.below HSC.out.1).below (by rw [HG.out]; exact hgs.out.1.1)))
        have HTK : Hid (ts ++ [tj] = (ps.map (·.2)).take (j + 1)) := by
          show _ = _
          rw [List.take_succ_eq_append_getElem (by rw [List.length_map]; exact hjp), List.getElem_map, hpj, hts.out]
        have HIHJ : Hid (Calls Tryz.prog 11 #[.slice Aj lj.length cj] wr (FormPost NoS tj wr)) := HIHJ
        have jm' : j < m := hlt
        clear hjp hpj hmem ej hwj elj hcell hlt hj
        go_wp2_with fail
        refine HIHJ.out.mono ?_
        rintro e w4 ⟨⟨fo, fu, fw⟩, rfl, hf, hb4⟩
        obtain ⟨⟨Au, nu, cu, hu⟩, ⟨Aw, nw, cw, hw2⟩⟩ := form_slices hf.out
        have hu : fu = .slice Au nu cu := hu
        have hw2 : fw = .slice Aw nw cw := hw2
        subst hu hw2
        rw [show fval (fo, .slice Au nu cu, .slice Aw nw cw) = .agg #[.string (str fo), .slice Au nu cu, .slice Aw nw cw] from rfl]
        have hg4 : Hid (Gs G w3 w4 A2 c2 fs ts) := hgs.out.next hb4.out
        have hf4 : Hid (FormIs (OffG G (.slice A2 fs.length c2)) w4 fo (.slice Au nu cu) (.slice Aw nw cw) tj) := FormIs.mono hf.out (fun k _ hk => by
          have hk : wr.heap.size ≤ k := hk.resolve_left id
          refine ⟨Nat.le_trans hgs.out.1.2 hk, fun e => ?_⟩
          have := (hgs.out.2.2.1.lt k e).2
          omega)
        clear hcj hgs hf hb4 HIHJ jm'
        go_upto_region 14 with (fail)
        have hal4 : Below w4.heap.size w4 (w4.alloc (.cells #[.string (str fo), .slice Au nu cu, .slice Aw nw cw] 39)) := (Below.refl _ _).alloc (Nat.le_refl _) _
        refine gen_world (fun w' => Hid (Gs G w3 w' A2 c2 fs ts) ∧ Hid (FormIs (OffG G (.slice A2 fs.length c2)) w' fo (.slice Au nu cu) (.slice Aw nw cw) tj) ∧ Hid (Blk w' w4.heap.size #[.string (str fo), .slice Au nu cu, .slice Aw nw cw] 39)) ⟨hg4.out.next hal4, hf4.out.chg (Chg.of_below (S := fun _ => False) hal4) (fun _ _ h => h), Blk.new w4 _ 39⟩ ?_
        generalize w4.heap.size = Q
        clear hg4 hf4 hal4
        rintro w5 ⟨hg5, hf5, hk5⟩
        have c50 : w5.cell? ⟨Q, 0, none⟩ = some (.string (str fo)) := (hk5.out.cell 0).trans rfl
        have c51 : w5.cell? ⟨Q, 1, none⟩ = some (.slice Au nu cu) := (hk5.out.cell 1).trans rfl
        have c52 : w5.cell? ⟨Q, 2, none⟩ = some (.slice Aw nw cw) := (hk5.out.cell 2).trans rfl
        have HAL5 : Hid (Below w5.heap.size w5 (w5.alloc (.cells #[.string (str fo), .slice Au nu cu, .slice Aw nw cw] 39))) := (Below.refl _ _).alloc (Nat.le_refl _) _
        have HG6 : Hid (Gs G w3 (w5.alloc (.cells #[.string (str fo), .slice Au nu cu, .slice Aw nw cw] 39)) A2 c2 fs ts) := hg5.out.next HAL5.out
        have HF6 : Hid (FormIs (OffG G (.slice A2 fs.length c2)) (w5.alloc (.cells #[.string (str fo), .slice Au nu cu, .slice Aw nw cw] 39)) fo (.slice Au nu cu) (.slice Aw nw cw) tj) := hf5.out.chg (Chg.of_below (S := fun _ => False) HAL5.out) (fun _ _ h => h)
        have HOW : Hid ((w5.alloc (.cells #[.string (str fo), .slice Au nu cu, .slice Aw nw cw] 39)).ownsRow G 39 3 (.slice A2 fs.length c2) fs.length (fcells fs) ∧ G ≤ (w5.alloc (.cells #[.string (str fo), .slice Au nu cu, .slice Aw nw cw] 39)).heap.size) := ⟨HG6.out.2.2.1, HG6.out.1.2⟩
        have HNW : Hid (∀ j u, (fcells [(fo, Value.slice Au nu cu, Value.slice Aw nw cw)])[j]? = some u → (w5.alloc (.cells #[.string (str fo), .slice Au nu cu, .slice Aw nw cw] 39)).cell? ((⟨w5.heap.size, 0, none⟩ : Addr).add j) = some u) := World.news_of_block (Blk.new w5 #[.string (str fo), .slice Au nu cu, .slice Aw nw cw] 39)
        have HONE : Hid (∀ u ∈ fcells [(fo, Value.slice Au nu cu, Value.slice Aw nw cw)], u.oneCell' = true) := forms_one (fun f hf => by
          have : f = (fo, Value.slice Au nu cu, Value.slice Aw nw cw) := by simpa using hf
          subst this
          exact ⟨⟨_, _, _, rfl⟩, ⟨_, _, _, rfl⟩⟩)
        have HM1 : Hid (0 < 1) := Nat.zero_lt_one
        have HBD : Hid (fs.length + 1 ≤ 4096) := by have := HFL.out; show _ ≤ _; omega
        go_wp2_with (first | (at_builtin; go_loud (refine list_forms2 rfl (.tmp 35) (.tmp 37) rfl rfl HOW ⟨w5.heap.size, 0, none⟩ 1 1 (fcells [(fo, Value.slice Au nu cu, Value.slice Aw nw cw)]) rfl HM1 rfl HNW HONE HBD ?_); intro g7 c7 w7 hown7 hchg7 hl7))
        go_roundg (m - (j + 1))
        case measure => have := HLT.out; omega
        case rel => exact ⟨j + 1, _, c7, fs ++ [(fo, Value.slice Au nu cu, Value.slice Aw nw cw)], ts ++ [tj], rfl, HLT.out, by rw [List.length_append]; rfl, by go_num, HTK, HG6.out.push HF6.out rfl hown7.out hchg7.out hl7.out⟩
      · have hji : ¬ ((j : Int) < (m : Int)) := by omega
        obtain rfl : j = m := by omega
        have HTS : Hid (ts = ps.map (·.2)) := by show _ = _; rw [hts.out, List.take_of_length_le (by rw [List.length_map, HMP.out]; exact Nat.le_refl _)]
        have HJ := Lib.hid (joined_or (S := fun k => G ≤ k) A2 c2 fs ts wr hgs.out.2.1 (by rw [hgs.out.2.1, HTS.out, List.length_map]; exact H2.out) (by rw [HTS.out]; exact H9.out) (by have := HFL.out; exact this) (by rw [HTS.out]; exact fun t ht => by obtain ⟨x, hx, rfl⟩ := List.mem_map.1 ht; exact HNE.out x hx) (owns_forms hgs.out.2.2.1) (fun i f t hf ht => (hgs.out.2.2.2 i f t hf ht).mono (fun k _ hk => hk.1)))
        rw [HTS.out] at HJ
        have HJ : Hid (Calls Tryz.prog 23 #[.string ⟨#[111, 114]⟩, .slice A2 fs.length c2] wr (FormPost (fun k => G ≤ k) (.either ((ps.map (·.2)).flatMap flatE)) wr)) := HJ
        have HW4 : Hid (Ws Z w wr) := ⟨HW3.out.1.trans (hgs.out.1.1.mono (Nat.le_of_lt HZG.out)), HW3.out.2.below hgs.out.1.1 (by rw [← HG.out]; exact HW3.out.2.lt)⟩
        have HGW : Hid (G ≤ wr.heap.size) := hgs.out.1.2
        clear hlt hj hji hgs
        have hji : ¬ ((j : Int) < (j : Int)) := by omega
        go_wp2_with fail
        refine HJ.out.mono ?_
        rintro e w4 ⟨⟨fo, fu, fw⟩, rfl, hf, hb4⟩
        obtain ⟨⟨Au, nu, cu, hu⟩, ⟨Aw, nw, cw, hw2⟩⟩ := form_slices hf.out
        have hu : fu = .slice Au nu cu := hu
        have hw2 : fw = .slice Aw nw cw := hw2
        subst hu hw2
        rw [show fval (fo, .slice Au nu cu, .slice Aw nw cw) = .agg #[.string (str fo), .slice Au nu cu, .slice Aw nw cw] from rfl]
        have hk4 : Blk w4 Z #[.string ⟨#[]⟩, .slice none 0 0, .slice none 0 0] 39 := HW4.out.2.below hb4.out HW4.out.2.lt
        have c40 : w4.cell? ⟨Z, 0, none⟩ = some (.string ⟨#[]⟩) := (hk4.cell 0).trans rfl
        have c41 : w4.cell? ⟨Z, 1, none⟩ = some (.slice none 0 0) := (hk4.cell 1).trans rfl
        have c42 : w4.cell? ⟨Z, 2, none⟩ = some (.slice none 0 0) := (hk4.cell 2).trans rfl
        have g40 := hk4.frozen 0
        have g41 := hk4.frozen 1
        have g42 := hk4.frozen 2
        have HK4 := Lib.hid hk4
        clear hk4
        go_wp2_with fail
        have h9 := store3 HK4.out (.string (str fo)) (.slice Au nu cu) (.slice Aw nw cw)
        have hc9 := chg3 w4 Z (.string (str fo)) (.slice Au nu cu) (.slice Aw nw cw)
        refine bodyPost_ret (v := .agg #[.string (str fo), .slice Au nu cu, .slice Aw nw cw]) (results_cell_row (P := Tryz.prog) (fn := Tryz.f11) (p := 2) (ty := 39) Tryz.results11 _ _ Z 39 #[.string (str fo), .slice Au nu cu, .slice Aw nw cw] (0, 0) _ rfl h9 Tryz.underlying39 rfl size39) rfl ?_
        generalize ((w4.setCell ⟨Z, 0, none⟩ (.string (str fo))).setCell ⟨Z, 1, none⟩ (.slice Au nu cu)).setCell ⟨Z, 2, none⟩ (.slice Aw nw cw) = w9 at *
        rw [HT.out]
        refine ⟨(fo, .slice Au nu cu, .slice Aw nw cw), rfl, ?_, ?_⟩
        · exact (FormIs.chg hf.out hc9 (fun k hk e => by have h1 := HZG.out; have h2 := HGW.out; have hk : G ≤ k ∨ wr.heap.size ≤ k := hk; omega)).mono (fun k _ hk => by exact .inr (by have h1 := HZG.out; have h2 := HGW.out; have h3 := HZ.out; have hk : G ≤ k ∨ wr.heap.size ≤ k := hk; omega))
        · have hB4 : Below Z w w4 := HW4.out.1.trans (hb4.out.mono (by have := HZG.out; have := HGW.out; omega))
          rw [HZ.out]
          exact hB4.trans (hc9.below (by have := HZG.out; have := HGW.out; have := hb4.out.size; omega) (fun k e => by omega))
set_option maxRecDepth 100000 in
set_option maxHeartbeats 6400000 in
theorem whole_and (A : Option Addr) (c : Nat) (l : List Wd) (t : Term) (w : World) (hs : Hid (WordsAt w A c l)) (hpos : 1 ≤ l.length) (hn9 : l.length ≤ 2048) (hc0 : cutP wOr 0 [] l = [l]) (ps : List (List Wd × Term)) (h2 : 2 ≤ ps.length) (hcm : cutP wAnd 0 [] l = ps.map (·.1)) (ht : t = .both ((ps.map (·.2)).flatMap flatB)) (h9 : ((ps.map (·.2)).flatMap flatB).length ≤ 2048) (h8 : ps.length ≤ 2048) (hne : ∀ x ∈ ps, Ne x.2) (IH : ∀ x ∈ ps, ∀ A c w, Hid (WordsAt w A c x.1) → Calls Tryz.prog 11 #[.slice A x.1.length c] w (FormPost NoS x.2 w)) : Calls Tryz.prog 11 #[.slice A l.length c] w (FormPost NoS t w) := by
  obtain ⟨b, o, hA⟩ := words_some hs.out hpos
  subst hA
  obtain ⟨n, hn1⟩ : ∃ n, l.length = n := ⟨_, rfl⟩
  have HN := Lib.hid hn1
  have HPOS := Lib.hid hpos
  have HN9 := Lib.hid hn9
  have HNC : Hid (n ≤ c) := by rw [← hn1]; exact hs.out.1
  rw [hn1]
  clear hn1 hpos hn9
  have HC0 := Lib.hid hc0
  clear hc0
  have HCM := Lib.hid hcm
  have HIH := Lib.hid IH
  have HT := Lib.hid ht
  have H2 := Lib.hid h2
  have H9 := Lib.hid h9
  have H8 := Lib.hid h8
  have HNE := Lib.hid hne
  clear hcm IH ht h2 h9 h8 hne
  go_enter Tryz.func11, Tryz.ntmps11
  go_wp2_with fail
  refine gen_world (fun w' => Hid (Ws w.heap.size w w')) (ws_new w) ?_
  obtain ⟨Z, hZ⟩ : ∃ Z, w.heap.size = Z := ⟨_, rfl⟩
  have HZ := Lib.hid hZ
  rw [hZ]
  clear hZ
  rintro w1 hw1
  go_loopg [3] 2 (fun g i wr => ∃ (k : Nat), g = 2 - k ∧ k ≤ 1 ∧ i = .int .i64 k ∧ Hid (Ws Z w wr))
  case atStart => exact ⟨0, rfl, Nat.zero_le _, rfl, hw1⟩
  case round =>
    obtain ⟨k, rfl, hk, rfl, hw⟩ := hrel
    have hk3 : k = 0 ∨ k = 1 := by omega
    clear hk
    rcases hk3 with rfl | rfl
    · have HC := Lib.hid (cut_any wOr (some ⟨b, o, none⟩) c l wr (hs.out.below (by rw [HZ.out]; exact hw.out.1)) HPOS.out HN9.out)
      rw [HN.out, HC0.out] at HC
      have HC : Hid (Calls Tryz.prog 22 #[.slice (some ⟨b, o, none⟩) n c, .string ⟨#[111, 114]⟩] wr (CutPost [l] wr)) := HC
      go_wp2_with fail
      refine HC.out.mono ?_
      rintro e w3 ⟨Ac, cc, rfl, hcs⟩
      rw [show [l].length = 1 from rfl]
      go_wp2_with fail
      go_roundg 1
      case measure => omega
      case rel => exact ⟨1, rfl, by omega, rfl, hw.out.on hcs.out.1⟩
    · have HC := Lib.hid (cut_any wAnd (some ⟨b, o, none⟩) c l wr (hs.out.below (by rw [HZ.out]; exact hw.out.1)) HPOS.out HN9.out)
      rw [HN.out, HCM.out] at HC
      have HC : Hid (Calls Tryz.prog 22 #[.slice (some ⟨b, o, none⟩) n c, .string ⟨#[97, 110, 100]⟩] wr (CutPost (ps.map (·.1)) wr)) := HC
      have HWR : Hid (Below Z w wr) := hw.out.1
      have HZW : Hid (Z < wr.heap.size) := hw.out.2.lt
      go_wp2_with fail
      refine HC.out.mono ?_
      rintro e w3 ⟨Ac, cc, rfl, hcs⟩
      obtain ⟨hsc, vs, hrow, hpa⟩ := hcs.out
      obtain ⟨m, hm⟩ : ∃ m, (ps.map (·.1)).length = m := ⟨_, rfl⟩
      have HM := Lib.hid hm
      rw [hm] at hrow ⊢
      have HMP : Hid (ps.length = m) := by show _ = _; rw [← hm, List.length_map]
      have m1 : (1 : Int) < (m : Int) := by have := H2.out; have := HMP.out; omega
      have m9 : (m : Int) ≤ 2048 := by have := H8.out; have := HMP.out; omega
      obtain ⟨Ac2, cc2, eA, hrc⟩ := owns_slice hrow
      cases eA
      have HPA := Lib.hid hpa
      have HRC := Lib.hid hrc
      have HVL : Hid (vs.length = m) := by show _ = _; rw [hpa.1, hm]
      have HW3 : Hid (Ws Z w w3) := hw.out.on hsc
      have HSC := Lib.hid hsc
      obtain ⟨adr, hadr⟩ : ∃ adr, Ac = some adr := by
        cases Ac with
        | none => obtain ⟨A', c', e, h⟩ := hpa.2 0 (by rw [hm]; omega); obtain ⟨ad, e2, _⟩ := hrc 0 _ e; cases e2
        | some adr => exact ⟨adr, rfl⟩
      subst hadr
      clear hm hrow hpa hrc hsc hcs HC hw
      go_wp2_with fail
      obtain ⟨G, hG⟩ : ∃ G, w3.heap.size = G := ⟨_, rfl⟩
      have HG := Lib.hid hG
      have HGS : Hid (Gs G w3 w3 none 0 [] []) := by rw [← hG]; exact ⟨Since.refl w3, rfl, World.ownsRow_nil _ _ _ _, fun i f t h => by cases h⟩
      have HZG : Hid (Z < G) := by rw [← hG]; exact HW3.out.2.lt
      clear hG
      go_loopg [6, 7] m (fun g v i wq => ∃ (j : Nat) (A2 : Option Addr) (c2 : Nat) (fs : List Fm) (ts : List Term), g = m - j ∧ j ≤ m ∧ v = .slice A2 fs.length c2 ∧ i = .int .i64 j ∧ Hid (ts = (ps.map (·.2)).take j) ∧ Hid (Gs G w3 wq A2 c2 fs ts))
      case atStart => exact ⟨0, none, 0, [], [], rfl, Nat.zero_le _, rfl, rfl, rfl, HGS⟩
      case round =>
        obtain ⟨j, A2, c2, fs, ts, rfl, hj, rfl, rfl, hts, hgs⟩ := hrel
        have j9 : (j : Int) ≤ 2048 := by omega
        have j0 : (0 : Int) ≤ (j : Int) := by omega
        have HJM := Lib.hid hj
        have HFL : Hid (fs.length ≤ 2048) := by have h1 := hgs.out.2.1; have h2 : ts.length = min j (ps.map (·.2)).length := (by rw [hts.out, List.length_take]); have := HJM.out; have := H8.out; have := HMP.out; show _ ≤ _; omega
        by_cases hlt : j < m
        · have hji : (j : Int) < (m : Int) := by omega
          have HLT := Lib.hid hlt
          have hjp : j < ps.length := by rw [HMP.out]; exact hlt
          obtain ⟨⟨lj, tj⟩, hpj⟩ : ∃ q, ps[j] = q := ⟨_, rfl⟩
          have hmem : (lj, tj) ∈ ps := by rw [← hpj]; exact List.getElem_mem hjp
          obtain ⟨Aj, cj, ej, hwj⟩ := HPA.out.2 j (by rw [HM.out]; exact hlt)
          have elj : (ps.map (·.1))[j]'(by rw [HM.out]; exact hlt) = lj := by rw [List.getElem_map, hpj]
          rw [elj] at ej hwj
          obtain ⟨ad', e2, hcell⟩ := HRC.out j _ ej
          cases e2
          have hcj : wr.cell? (adr.add j) = some (.slice Aj lj.length cj) := (hgs.out.1.1.cell (by rw [← HG.out]; exact World.block_lt_of_cell? w3 _ hcell)).trans hcell
          have HIHJ := Lib.hid (HIH.out (lj, tj) hmem Aj cj wr ((hwj.below HSC.out.1).below (by rw [HG.out]; exact hgs.out.1.1)))
          have HTK : Hid (ts ++ [tj] = (ps.map (·.2)).take (j + 1)) := by
            show _ = _
            rw [List.take_succ_eq_append_getElem (by rw [List.length_map]; exact hjp), List.getElem_map, hpj, hts.out]
          have HIHJ : Hid (Calls Tryz.prog 11 #[.slice Aj lj.length cj] wr (FormPost NoS tj wr)) := HIHJ
          have jm' : j < m := hlt
          clear hjp hpj hmem ej hwj elj hcell hlt hj
          go_wp2_with fail
          refine HIHJ.out.mono ?_
          rintro e w4 ⟨⟨fo, fu, fw⟩, rfl, hf, hb4⟩
          obtain ⟨⟨Au, nu, cu, hu⟩, ⟨Aw, nw, cw, hw2⟩⟩ := form_slices hf.out
          have hu : fu = .slice Au nu cu := hu
          have hw2 : fw = .slice Aw nw cw := hw2
          subst hu hw2
          rw [show fval (fo, .slice Au nu cu, .slice Aw nw cw) = .agg #[.string (str fo), .slice Au nu cu, .slice Aw nw cw] from rfl]
          have hg4 : Hid (Gs G w3 w4 A2 c2 fs ts) := hgs.out.next hb4.out
          have hf4 : Hid (FormIs (OffG G (.slice A2 fs.length c2)) w4 fo (.slice Au nu cu) (.slice Aw nw cw) tj) := FormIs.mono hf.out (fun k _ hk => by
            have hk : wr.heap.size ≤ k := hk.resolve_left id
            refine ⟨Nat.le_trans hgs.out.1.2 hk, fun e => ?_⟩
            have := (hgs.out.2.2.1.lt k e).2
            omega)
          clear hcj hgs hf hb4 HIHJ jm'
          go_upto_region 14 with (fail)
          have hal4 : Below w4.heap.size w4 (w4.alloc (.cells #[.string (str fo), .slice Au nu cu, .slice Aw nw cw] 39)) := (Below.refl _ _).alloc (Nat.le_refl _) _
          refine gen_world (fun w' => Hid (Gs G w3 w' A2 c2 fs ts) ∧ Hid (FormIs (OffG G (.slice A2 fs.length c2)) w' fo (.slice Au nu cu) (.slice Aw nw cw) tj) ∧ Hid (Blk w' w4.heap.size #[.string (str fo), .slice Au nu cu, .slice Aw nw cw] 39)) ⟨hg4.out.next hal4, hf4.out.chg (Chg.of_below (S := fun _ => False) hal4) (fun _ _ h => h), Blk.new w4 _ 39⟩ ?_
          generalize w4.heap.size = Q
          clear hg4 hf4 hal4
          rintro w5 ⟨hg5, hf5, hk5⟩
          have c50 : w5.cell? ⟨Q, 0, none⟩ = some (.string (str fo)) := (hk5.out.cell 0).trans rfl
          have c51 : w5.cell? ⟨Q, 1, none⟩ = some (.slice Au nu cu) := (hk5.out.cell 1).trans rfl
          have c52 : w5.cell? ⟨Q, 2, none⟩ = some (.slice Aw nw cw) := (hk5.out.cell 2).trans rfl
          have HAL5 : Hid (Below w5.heap.size w5 (w5.alloc (.cells #[.string (str fo), .slice Au nu cu, .slice Aw nw cw] 39))) := (Below.refl _ _).alloc (Nat.le_refl _) _
          have HG6 : Hid (Gs G w3 (w5.alloc (.cells #[.string (str fo), .slice Au nu cu, .slice Aw nw cw] 39)) A2 c2 fs ts) := hg5.out.next HAL5.out
          have HF6 : Hid (FormIs (OffG G (.slice A2 fs.length c2)) (w5.alloc (.cells #[.string (str fo), .slice Au nu cu, .slice Aw nw cw] 39)) fo (.slice Au nu cu) (.slice Aw nw cw) tj) := hf5.out.chg (Chg.of_below (S := fun _ => False) HAL5.out) (fun _ _ h => h)
          have HOW : Hid ((w5.alloc (.cells #[.string (str fo), .slice Au nu cu, .slice Aw nw cw] 39)).ownsRow G 39 3 (.slice A2 fs.length c2) fs.length (fcells fs) ∧ G ≤ (w5.alloc (.cells #[.string (str fo), .slice Au nu cu, .slice Aw nw cw] 39)).heap.size) := ⟨HG6.out.2.2.1, HG6.out.1.2⟩
          have HNW : Hid (∀ j u, (fcells [(fo, Value.slice Au nu cu, Value.slice Aw nw cw)])[j]? = some u → (w5.alloc (.cells #[.string (str fo), .slice Au nu cu, .slice Aw nw cw] 39)).cell? ((⟨w5.heap.size, 0, none⟩ : Addr).add j) = some u) := World.news_of_block (Blk.new w5 #[.string (str fo), .slice Au nu cu, .slice Aw nw cw] 39)
          have HONE : Hid (∀ u ∈ fcells [(fo, Value.slice Au nu cu, Value.slice Aw nw cw)], u.oneCell' = true) := forms_one (fun f hf => by
            have : f = (fo, Value.slice Au nu cu, Value.slice Aw nw cw) := by simpa using hf
            subst this
            exact ⟨⟨_, _, _, rfl⟩, ⟨_, _, _, rfl⟩⟩)
          have HM1 : Hid (0 < 1) := Nat.zero_lt_one
          have HBD : Hid (fs.length + 1 ≤ 4096) := by have := HFL.out; show _ ≤ _; omega
          go_wp2_with (first | (at_builtin; go_loud (refine list_forms2 rfl (.tmp 35) (.tmp 37) rfl rfl HOW ⟨w5.heap.size, 0, none⟩ 1 1 (fcells [(fo, Value.slice Au nu cu, Value.slice Aw nw cw)]) rfl HM1 rfl HNW HONE HBD ?_); intro g7 c7 w7 hown7 hchg7 hl7))
          go_roundg (m - (j + 1))
          case measure => have := HLT.out; omega
          case rel => exact ⟨j + 1, _, c7, fs ++ [(fo, Value.slice Au nu cu, Value.slice Aw nw cw)], ts ++ [tj], rfl, HLT.out, by rw [List.length_append]; rfl, by go_num, HTK, HG6.out.push HF6.out rfl hown7.out hchg7.out hl7.out⟩
        · have hji : ¬ ((j : Int) < (m : Int)) := by omega
          obtain rfl : j = m := by omega
          have HTS : Hid (ts = ps.map (·.2)) := by show _ = _; rw [hts.out, List.take_of_length_le (by rw [List.length_map, HMP.out]; exact Nat.le_refl _)]
          have HJ := Lib.hid (joined_and (S := fun k => G ≤ k) A2 c2 fs ts wr hgs.out.2.1 (by rw [hgs.out.2.1, HTS.out, List.length_map]; exact H2.out) (by rw [HTS.out]; exact H9.out) (by have := HFL.out; exact this) (by rw [HTS.out]; exact fun t ht => by obtain ⟨x, hx, rfl⟩ := List.mem_map.1 ht; exact HNE.out x hx) (owns_forms hgs.out.2.2.1) (fun i f t hf ht => (hgs.out.2.2.2 i f t hf ht).mono (fun k _ hk => hk.1)))
          rw [HTS.out] at HJ
          have HJ : Hid (Calls Tryz.prog 23 #[.string ⟨#[97, 110, 100]⟩, .slice A2 fs.length c2] wr (FormPost (fun k => G ≤ k) (.both ((ps.map (·.2)).flatMap flatB)) wr)) := HJ
          have HW4 : Hid (Ws Z w wr) := ⟨HW3.out.1.trans (hgs.out.1.1.mono (Nat.le_of_lt HZG.out)), HW3.out.2.below hgs.out.1.1 (by rw [← HG.out]; exact HW3.out.2.lt)⟩
          have HGW : Hid (G ≤ wr.heap.size) := hgs.out.1.2
          clear hlt hj hji hgs
          have hji : ¬ ((j : Int) < (j : Int)) := by omega
          go_wp2_with fail
          refine HJ.out.mono ?_
          rintro e w4 ⟨⟨fo, fu, fw⟩, rfl, hf, hb4⟩
          obtain ⟨⟨Au, nu, cu, hu⟩, ⟨Aw, nw, cw, hw2⟩⟩ := form_slices hf.out
          have hu : fu = .slice Au nu cu := hu
          have hw2 : fw = .slice Aw nw cw := hw2
          subst hu hw2
          rw [show fval (fo, .slice Au nu cu, .slice Aw nw cw) = .agg #[.string (str fo), .slice Au nu cu, .slice Aw nw cw] from rfl]
          have hk4 : Blk w4 Z #[.string ⟨#[]⟩, .slice none 0 0, .slice none 0 0] 39 := HW4.out.2.below hb4.out HW4.out.2.lt
          have c40 : w4.cell? ⟨Z, 0, none⟩ = some (.string ⟨#[]⟩) := (hk4.cell 0).trans rfl
          have c41 : w4.cell? ⟨Z, 1, none⟩ = some (.slice none 0 0) := (hk4.cell 1).trans rfl
          have c42 : w4.cell? ⟨Z, 2, none⟩ = some (.slice none 0 0) := (hk4.cell 2).trans rfl
          have g40 := hk4.frozen 0
          have g41 := hk4.frozen 1
          have g42 := hk4.frozen 2
          have HK4 := Lib.hid hk4
          clear hk4
          go_wp2_with fail
          have h9 := store3 HK4.out (.string (str fo)) (.slice Au nu cu) (.slice Aw nw cw)
          have hc9 := chg3 w4 Z (.string (str fo)) (.slice Au nu cu) (.slice Aw nw cw)
          refine bodyPost_ret (v := .agg #[.string (str fo), .slice Au nu cu, .slice Aw nw cw]) (results_cell_row (P := Tryz.prog) (fn := Tryz.f11) (p := 2) (ty := 39) Tryz.results11 _ _ Z 39 #[.string (str fo), .slice Au nu cu, .slice Aw nw cw] (0, 0) _ rfl h9 Tryz.underlying39 rfl size39) rfl ?_
          generalize ((w4.setCell ⟨Z, 0, none⟩ (.string (str fo))).setCell ⟨Z, 1, none⟩ (.slice Au nu cu)).setCell ⟨Z, 2, none⟩ (.slice Aw nw cw) = w9 at *
          rw [HT.out]
          refine ⟨(fo, .slice Au nu cu, .slice Aw nw cw), rfl, ?_, ?_⟩
          · exact (FormIs.chg hf.out hc9 (fun k hk e => by have h1 := HZG.out; have h2 := HGW.out; have hk : G ≤ k ∨ wr.heap.size ≤ k := hk; omega)).mono (fun k _ hk => by exact .inr (by have h1 := HZG.out; have h2 := HGW.out; have h3 := HZ.out; have hk : G ≤ k ∨ wr.heap.size ≤ k := hk; omega))
          · have hB4 : Below Z w w4 := HW4.out.1.trans (hb4.out.mono (by have := HZG.out; have := HGW.out; omega))
            rw [HZ.out]
            exact hB4.trans (hc9.below (by have := HZG.out; have := HGW.out; have := hb4.out.size; omega) (fun k e => by omega))
end Go.Proofs.YtcdhkeahcliefaaGreatDoor.RefM
