/- The document's joined. -/
import Derived.Test.YtcdhkeahcliefaaGreatDoorPrint35
import Derived.Deep.RegionLaw
namespace Go.Proofs.YtcdhkeahcliefaaGreatDoor.RefH
open Go.ChangeShapes Go.WideShapes Go.ChangeAt Go.RowKit
open Go.Proofs.YtcdhkeahcliefaaGreatDoor.Kit Go.Proofs.YtcdhkeahcliefaaGreatDoor.Base Go.Proofs.YtcdhkeahcliefaaGreatDoor.Term Go.Proofs.YtcdhkeahcliefaaGreatDoor.Syn Go.Proofs.YtcdhkeahcliefaaGreatDoor.Gram Go.Proofs.YtcdhkeahcliefaaGreatDoor.GramB Go.Proofs.YtcdhkeahcliefaaGreatDoor.TokB Go.Proofs.YtcdhkeahcliefaaGreatDoor.RefD Go.Proofs.YtcdhkeahcliefaaGreatDoor.RefG
set_option linter.unusedVariables false

def zform : Obj := .cells #[.string ⟨#[]⟩, .slice none 0 0, .slice none 0 0] 39
theorem js_new (w : World) (op : W) : Js ((w.alloc zform).alloc (.cells #[.string (str op), .slice none 0 0, .slice none 0 0] 39)) ((w.alloc zform).alloc (.cells #[.string (str op), .slice none 0 0, .slice none 0 0] 39)) (w.heap.size + 1) (w.heap.size + 2) op none 0 [] := by
  have hs : ((w.alloc zform).alloc (.cells #[.string (str op), .slice none 0 0, .slice none 0 0] 39)).heap.size = w.heap.size + 2 := by simp
  have hb := Blk.new (w.alloc zform) #[.string (str op), .slice none 0 0, .slice none 0 0] 39
  rw [show (w.alloc zform).heap.size = w.heap.size + 1 from by simp] at hb
  exact ⟨Chg.refl _ _, hs, by omega, hb, World.ownsRow_nil _ _ _ _, by rw [hs]; exact Nat.le_refl _⟩
theorem below_two (w : World) (o1 o2 : Obj) : Below w.heap.size w ((w.alloc o1).alloc o2) := ((Below.refl _ _).alloc (Nat.le_refl _) o1).alloc (by simp) o2
theorem blk_first (w : World) (o2 : Obj) : Blk ((w.alloc zform).alloc o2) w.heap.size #[.string ⟨#[]⟩, .slice none 0 0, .slice none 0 0] 39 := (Blk.new w _ 39).alloc o2
/-- what makes a form answers: of blocks of S and new ones -/
def FormPost (S : Nat → Prop) (t : Term) (w : World) (e : Ending) (w' : World) : Prop := ∃ f : Fm, e = .returned (fval f) ∧ Hid (FIs (fun k => S k ∨ w.heap.size ≤ k) w' f t) ∧ Hid (Below w.heap.size w w')
theorem size39 : (Tryz.prog.info? 39).map (·.size) = some (#[Value.string ⟨#[]⟩, .slice none 0 0, .slice none 0 0] : Array Value).size := by kernel_rfl
theorem store3 {w : World} {Z : Nat} {a b c : Value} (h : Blk w Z #[a, b, c] 39) (x y z : Value) : Blk (((w.setCell ⟨Z, 0, none⟩ x).setCell ⟨Z, 1, none⟩ y).setCell ⟨Z, 2, none⟩ z) Z #[x, y, z] 39 := ((h.put 0 x).put 1 y).put 2 z
theorem chg3 (w : World) (Z : Nat) (x y z : Value) : Chg (fun k => k = Z) w (((w.setCell ⟨Z, 0, none⟩ x).setCell ⟨Z, 1, none⟩ y).setCell ⟨Z, 2, none⟩ z) :=
  Chg.of_only ((((Only.refl Z w).setCell ⟨Z, 0, none⟩ rfl x).setCell ⟨Z, 1, none⟩ rfl y).setCell ⟨Z, 2, none⟩ rfl z) rfl
theorem forms_more {S : Nat → Prop} {w : World} {ds es2 : List Fm} {es l : List Term} (hn : ds.length = es.length) (h : ∀ (i : Nat) (f : Fm) (t : Term), ds[i]? = some f → es[i]? = some t → FIs S w f t) (h2 : ∀ (i : Nat) (f : Fm) (t : Term), es2[i]? = some f → l[i]? = some t → FormIs S w f.1 f.2.1 f.2.2 t) : ∀ (i : Nat) (f : Fm) (t : Term), (ds ++ es2)[i]? = some f → (es ++ l)[i]? = some t → FIs S w f t := fun i f t hf ht => by
  by_cases hi : i < ds.length
  · rw [List.getElem?_append_left hi] at hf
    rw [List.getElem?_append_left (by rw [← hn]; exact hi)] at ht
    exact h i f t hf ht
  · rw [List.getElem?_append_right (by omega)] at hf ht
    rw [← hn] at ht
    exact h2 _ f t hf ht
set_option maxRecDepth 100000 in
set_option maxHeartbeats 6400000 in
theorem joined_or {S : Nat → Prop} (A : Option Addr) (c : Nat) (fs : List Fm) (ts : List Term) (w : World) (hn : fs.length = ts.length) (h2 : 2 ≤ fs.length) (h9 : (ts.flatMap flatE).length ≤ 2048) (h8 : fs.length ≤ 2048) (hne : ∀ t ∈ ts, Ne t) (hc : Hid (FormsIn S w A fs)) (hl : Hid (∀ (i : Nat) (f : Fm) (t : Term), fs[i]? = some f → ts[i]? = some t → FIs S w f t)) :
    Calls Tryz.prog 23 #[.string (str wOr), .slice A fs.length c] w (FormPost S (.either (ts.flatMap flatE)) w) := by
  obtain ⟨b, o, hA, _⟩ : ∃ b o, A = some ⟨b, o, none⟩ ∧ True := by obtain ⟨b, o, e, _⟩ := hc.out 0 (by omega); exact ⟨b, o, e, trivial⟩
  subst hA
  have HNT := Lib.hid hn
  have H9 := Lib.hid h9
  have HNE := Lib.hid hne
  obtain ⟨n, hn1⟩ : ∃ n, fs.length = n := ⟨_, rfl⟩
  have HN := Lib.hid hn1
  have H8 : Hid (n ≤ 2048) := by rw [← hn1]; exact h8
  have H2 : Hid (2 ≤ n) := by rw [← hn1]; exact h2
  rw [hn1]
  rw [show str wOr = ⟨#[111, 114]⟩ from rfl]
  clear hn h9 hne hn1 h8 h2
  go_enter Tryz.func23, Tryz.ntmps23
  go_wp2_with fail
  refine gen_world (fun w' => Hid (Js w' w' (w.heap.size + 1) (w.heap.size + 2) wOr none 0 []) ∧ Hid (Below w.heap.size w w') ∧ Hid (Blk w' w.heap.size #[.string ⟨#[]⟩, .slice none 0 0, .slice none 0 0] 39)) ⟨js_new w wOr, below_two w _ _, blk_first w _⟩ ?_
  obtain ⟨Z, hZ⟩ : ∃ Z, w.heap.size = Z := ⟨_, rfl⟩
  have HZ := Lib.hid hZ
  rw [hZ]
  clear hZ
  rintro w2 ⟨hj2, hbw, hk4⟩
  go_loopg [6] n (fun g i wr => ∃ (k : Nat) (A2 : Option Addr) (c2 : Nat) (ds : List Fm) (es : List Term), g = n - k ∧ k ≤ n ∧ i = .int .i64 k ∧ Hid (Js w2 wr (Z + 1) (Z + 2) wOr A2 c2 ds) ∧ Hid (es = (ts.take k).flatMap flatE) ∧ Hid (ds.length = es.length ∧ ∀ (i : Nat) (f : Fm) (t : Term), ds[i]? = some f → es[i]? = some t → FIs S w f t))
  case atStart => exact ⟨0, none, 0, [], [], rfl, Nat.zero_le _, rfl, hj2, rfl, rfl, fun i f t h => by cases h⟩
  case round =>
    obtain ⟨k, A2, c2, ds, es, rfl, hk, rfl, hj, hes, hds⟩ := hrel
    have HKN := Lib.hid hk
    have k9 : (k : Int) ≤ 2048 := by have := H8.out; omega
    have k0 : (0 : Int) ≤ (k : Int) := by omega
    by_cases hlt : k < n
    · have hlti : (k : Int) < (n : Int) := by omega
      have HLT := Lib.hid hlt
      have hkf : k < fs.length := by rw [HN.out]; exact hlt
      have hkt : k < ts.length := by rw [← HNT.out]; exact hkf
      obtain ⟨b', o', e, hSb, q1, q2, q3⟩ := hc.out k hkf
      cases e
      have hft := hl.out k _ _ (List.getElem?_eq_getElem hkf) (List.getElem?_eq_getElem hkt)
      have HNEK := Lib.hid (HNE.out _ (List.getElem_mem hkt))
      have HES : Hid (es ++ flatE ts[k] = (ts.take (k + 1)).flatMap flatE) := by
        show _ = _
        rw [List.take_succ_eq_append_getElem hkt, List.flatMap_append, ← hes.out]
        simp
      have HLN : Hid ((es ++ flatE ts[k]).length ≤ 2048) := by
        have h := H9.out
        have e1 : ts.flatMap flatE = (ts.take (k + 1)).flatMap flatE ++ (ts.drop (k + 1)).flatMap flatE := by rw [← List.flatMap_append, List.take_append_drop]
        rw [e1, List.length_append, ← HES.out] at h
        show _ ≤ _
        omega
      obtain ⟨⟨fo, fu, fw⟩, hf⟩ : ∃ f, fs[k] = f := ⟨_, rfl⟩
      rw [hf] at q1 q2 q3 hft
      generalize ts[k] = t at *
      have HFT := Lib.hid hft
      have hW : ∀ (W1 : World), Below wr.heap.size wr W1 → ∀ (a : Nat) (v : Value), w.cell? ⟨b, a, none⟩ = some v → W1.cell? ⟨b, a, none⟩ = some v := fun W1 hb a v h => by
        have hlt2 : b < Z := by rw [← HZ.out]; exact World.block_lt_of_cell? w _ h
        have h3 : w2.cell? ⟨b, a, none⟩ = some v := (hbw.out.cell hlt2).trans h
        have h4 : wr.cell? ⟨b, a, none⟩ = some v := cell_far hj.out.1 (fun e => by omega) h3
        exact (hb.cell (World.block_lt_of_cell? wr _ h4)).trans h4
      have HW := Lib.hid hW
      have q1' : wr.cell? ⟨b, o + k * 3, none⟩ = some (.string (str fo)) := hW _ (Below.refl _ _) _ _ q1
      have c5 : wr.cell? ⟨Z + 1, 1, none⟩ = some (.slice A2 ds.length c2) := (hj.out.2.2.2.1.cell 1).trans rfl
      have Q1 := Lib.hid q1
      have Q2 := Lib.hid q2
      have Q3 := Lib.hid q3
      clear q1 q2 q3 hf hft hkf hkt hW hSb hlt hk
      rcases form_or HFT.out with ⟨A3, c3, fs3, l3, rfl, rfl, rfl, rfl, hn3, hc3, hl3⟩ | ⟨hno, hfl⟩
      · -- of the same kind: its members
        have H3 : 2 ≤ l3.length := HNEK.out.2 l3 rfl
        obtain ⟨b3, o3, hA3⟩ : ∃ b o, A3 = some ⟨b, o, none⟩ := by obtain ⟨b, o, e, _⟩ := hc3 0 (by omega); exact ⟨b, o, e⟩
        subst hA3
        have hcmp : ((str wOr).toList == [111, 114]) = true := by rw [Lib.toList_data, str_list]; rfl
        have HM3 : Hid (0 < l3.length) := by show _ < _; omega
        have HC3 : Hid (fs3.length = l3.length ∧ FormsIn S w (some ⟨b3, o3, none⟩) fs3 ∧ ∀ (i : Nat) (f : Fm) (t : Term), fs3[i]? = some f → l3[i]? = some t → FormIs S w f.1 f.2.1 f.2.2 t) := ⟨hn3, hc3, hl3⟩
        have HCS : Hid ((fcells fs3).length = l3.length * 3) := by show _ = _; rw [fcells_len, hn3]
        have hfar : Chg (fun k => k = Z + 1) w wr := by
          have h1 := hj.out.1
          exact ⟨h1.os.trans hbw.out.os, h1.tape.trans hbw.out.tape, h1.output.trans hbw.out.output, Nat.le_trans hbw.out.size h1.size, fun q hq hn => (h1.block q (Nat.lt_of_lt_of_le hq hbw.out.size) hn).trans (hbw.out.block q (by rw [← HZ.out]; exact hq))⟩
        have HFN := Lib.hid (forms_news hc3)
        have HNW : Hid (∀ j u, (fcells fs3)[j]? = some u → wr.drew.cell? ((⟨b3, o3, none⟩ : Addr).add j) = some u) := fun j u hu => by
          have h0 := HFN.out j u hu
          have hbk : b3 < Z := by
            have := World.block_lt_of_cell? w _ h0
            rw [add_off] at this
            rw [← HZ.out]
            exact this
          rw [add_off] at h0 ⊢
          exact cell_far (hfar.trans (Chg.refl _ wr).drew) (fun e => by omega) h0
        have HONE : Hid (∀ u ∈ fcells fs3, u.oneCell' = true) := forms_one (fun f hf => by
          obtain ⟨j, hj, e⟩ := List.getElem_of_mem hf
          exact form_slices (hl3 j f l3[j] (by rw [List.getElem?_eq_getElem hj, e]) (List.getElem?_eq_getElem (by omega))))
        have HBD : Hid (ds.length + l3.length ≤ 4096) := by have h := HLN.out; rw [List.length_append] at h; have h2 := hds.out.1; show _ ≤ _; simp only [flatE] at h; omega
        have HJD : Hid (Js w2 wr.drew (Z + 1) (Z + 2) wOr A2 c2 ds) := hj.out.next (Below.refl _ _).drew
        have HOW : Hid (wr.drew.ownsRow (Z + 2) 39 3 (.slice A2 ds.length c2) ds.length (fcells ds) ∧ Z + 2 ≤ wr.drew.heap.size) := ⟨HJD.out.2.2.2.2.1, HJD.out.2.2.2.2.2⟩
        have q2' : wr.cell? ⟨b, o + k * 3 + 1, none⟩ = some (.slice (some ⟨b3, o3, none⟩) l3.length c3) := HW.out _ (Below.refl _ _) _ _ Q2.out
        clear hn3 hc3 hl3 hfar H3
        go_upto_region 6 with (fail)
        go_region_law (first | (refine step_forms rfl (.tmp 23) (.tmp 28) rfl rfl HOW ⟨b3, o3, none⟩ l3.length c3 (fcells fs3) rfl HM3 HCS.out HNW HONE HBD ?_; intro g7 c7 w7 hown7 hchg7; have d5 : w7.cell? ⟨Z + 1, 1, none⟩ = some (.slice A2 ds.length c2) := ((hchg7.out.blk HJD.out.2.2.2.1 (fun e => by have := (HJD.out.2.2.2.2.1.lt _ e).1; omega)).cell 1).trans rfl; have f5 := (hchg7.out.blk HJD.out.2.2.2.1 (fun e => by have := (HJD.out.2.2.2.2.1.lt _ e).1; omega)).frozen 1))
        all_goals (
          have h8 : Hid (Js w2 (w7.setCell ⟨Z + 1, 1, none⟩ (.slice (some ⟨g7, 0, none⟩) (ds.length + l3.length) c7)) (Z + 1) (Z + 2) wOr (some ⟨g7, 0, none⟩) c7 (ds ++ fs3)) := HJD.out.grown (by rw [List.length_append, HC3.out.1]) hown7.out hchg7.out
          clear d5 f5
          generalize w7.setCell ⟨Z + 1, 1, none⟩ (.slice (some ⟨g7, 0, none⟩) (ds.length + l3.length) c7) = w8 at *
          go_wp2_with fail
          go_roundg (n - (k + 1))
          case measure => have := HLT.out; omega
          case rel => exact ⟨k + 1, _, c7, ds ++ fs3, es ++ l3, rfl, HLT.out, by go_num, h8, HES, by rw [List.length_append, List.length_append, hds.out.1, HC3.out.1], forms_more hds.out.1 hds.out.2 HC3.out.2.2⟩)
      · have hcmp := ne_list hno
        rw [show wOr = [111, 114] from rfl] at hcmp
        obtain ⟨⟨Au, nu, cu, hu⟩, ⟨Aw, nw, cw, hw⟩⟩ := form_slices HFT.out
        have hu : fu = .slice Au nu cu := hu
        have hw : fw = .slice Aw nw cw := hw
        subst hu hw
        have q2' : wr.cell? ⟨b, o + k * 3 + 1, none⟩ = some (.slice Au nu cu) := HW.out _ (Below.refl _ _) _ _ Q2.out
        have q3' : wr.cell? ⟨b, o + k * 3 + 2, none⟩ = some (.slice Aw nw cw) := HW.out _ (Below.refl _ _) _ _ Q3.out
        have HBD : Hid (ds.length + 1 ≤ 4096) := by have h := HLN.out; rw [List.length_append, hfl] at h; have h2 := hds.out.1; show _ ≤ _; simp only [List.length_cons, List.length_nil] at h; omega
        have HES2 : Hid (es ++ [t] = (ts.take (k + 1)).flatMap flatE) := by rw [← hfl]; exact HES
        have HM1 : Hid (0 < 1) := Nat.zero_lt_one
        have HCB : Hid (Below wr.heap.size wr (wr.alloc (.cells #[.string (str fo), .slice Au nu cu, .slice Aw nw cw] 39))) := (Below.refl _ _).alloc (Nat.le_refl _) _
        have HNA : Hid (∀ j u, (fcells [(fo, Value.slice Au nu cu, Value.slice Aw nw cw)])[j]? = some u → (wr.alloc (.cells #[.string (str fo), .slice Au nu cu, .slice Aw nw cw] 39)).drew.cell? ((⟨wr.heap.size, 0, none⟩ : Addr).add j) = some u) := World.news_of_block (Blk.new wr #[.string (str fo), .slice Au nu cu, .slice Aw nw cw] 39)
        have HNB : Hid (∀ j u, (fcells [(fo, Value.slice Au nu cu, Value.slice Aw nw cw)])[j]? = some u → (wr.drew.alloc (.cells #[.string (str fo), .slice Au nu cu, .slice Aw nw cw] 39)).cell? ((⟨wr.heap.size, 0, none⟩ : Addr).add j) = some u) := World.news_of_block (Blk.new wr.drew #[.string (str fo), .slice Au nu cu, .slice Aw nw cw] 39)
        have HONE : Hid (∀ u ∈ fcells [(fo, Value.slice Au nu cu, Value.slice Aw nw cw)], u.oneCell' = true) := forms_one (fun f hf => by
          have : f = (fo, Value.slice Au nu cu, Value.slice Aw nw cw) := by simpa using hf
          subst this
          exact ⟨⟨_, _, _, rfl⟩, ⟨_, _, _, rfl⟩⟩)
        have HJA : Hid (Js w2 (wr.alloc (.cells #[.string (str fo), .slice Au nu cu, .slice Aw nw cw] 39)).drew (Z + 1) (Z + 2) wOr A2 c2 ds) := (hj.out.next HCB.out).next (Below.refl _ _).drew
        have HJB : Hid (Js w2 (wr.drew.alloc (.cells #[.string (str fo), .slice Au nu cu, .slice Aw nw cw] 39)) (Z + 1) (Z + 2) wOr A2 c2 ds) := (hj.out.next (Below.refl _ _).drew).next ((Below.refl _ _).alloc (Nat.le_refl _) _)
        have HOA := Lib.hid (And.intro HJA.out.2.2.2.2.1 HJA.out.2.2.2.2.2)
        have HOB := Lib.hid (And.intro HJB.out.2.2.2.2.1 HJB.out.2.2.2.2.2)
        have c5a : (wr.alloc (.cells #[.string (str fo), .slice Au nu cu, .slice Aw nw cw] 39)).cell? ⟨Z + 1, 1, none⟩ = some (.slice A2 ds.length c2) := (((hj.out.next HCB.out).2.2.2.1).cell 1).trans rfl
        clear hno hfl
        go_upto_region 7 with (fail)
        go_region_law (first | (refine step_forms rfl (.tmp 32) (.tmp 37) rfl rfl HOA ⟨wr.heap.size, 0, none⟩ 1 1 (fcells [(fo, Value.slice Au nu cu, Value.slice Aw nw cw)]) rfl HM1 rfl HNA HONE HBD ?_; intro g7 c7 w7 hown7 hchg7; have HJD := HJA; have d5 : w7.cell? ⟨Z + 1, 1, none⟩ = some (.slice A2 ds.length c2) := ((hchg7.out.blk HJA.out.2.2.2.1 (fun e => by have := (HJA.out.2.2.2.2.1.lt _ e).1; omega)).cell 1).trans rfl; have f5 := (hchg7.out.blk HJA.out.2.2.2.1 (fun e => by have := (HJA.out.2.2.2.2.1.lt _ e).1; omega)).frozen 1) | (refine step_forms rfl (.tmp 32) (.tmp 37) rfl rfl HOB ⟨wr.heap.size, 0, none⟩ 1 1 (fcells [(fo, Value.slice Au nu cu, Value.slice Aw nw cw)]) rfl HM1 rfl HNB HONE HBD ?_; intro g7 c7 w7 hown7 hchg7; have HJD := HJB; have d5 : w7.cell? ⟨Z + 1, 1, none⟩ = some (.slice A2 ds.length c2) := ((hchg7.out.blk HJB.out.2.2.2.1 (fun e => by have := (HJB.out.2.2.2.2.1.lt _ e).1; omega)).cell 1).trans rfl; have f5 := (hchg7.out.blk HJB.out.2.2.2.1 (fun e => by have := (HJB.out.2.2.2.2.1.lt _ e).1; omega)).frozen 1))
        all_goals (
          have h8 : Hid (Js w2 (w7.setCell ⟨Z + 1, 1, none⟩ (.slice (some ⟨g7, 0, none⟩) (ds.length + 1) c7)) (Z + 1) (Z + 2) wOr (some ⟨g7, 0, none⟩) c7 (ds ++ [(fo, Value.slice Au nu cu, Value.slice Aw nw cw)])) := HJD.out.grown (by rw [List.length_append]; rfl) hown7.out hchg7.out
          clear d5 f5
          generalize w7.setCell ⟨Z + 1, 1, none⟩ (.slice (some ⟨g7, 0, none⟩) (ds.length + 1) c7) = w8 at *
          go_wp2_with fail
          go_roundg (n - (k + 1))
          case measure => have := HLT.out; omega
          case rel => exact ⟨k + 1, _, c7, ds ++ [(fo, Value.slice Au nu cu, Value.slice Aw nw cw)], es ++ [t], rfl, HLT.out, by go_num, h8, HES2, by rw [List.length_append, List.length_append, hds.out.1]; rfl, forms_more hds.out.1 hds.out.2 (fun i f t' hf ht => by cases i with | zero => cases hf; cases ht; exact HFT.out | succ i => cases hf)⟩)
    · have hlti : ¬ ((k : Int) < (n : Int)) := by omega
      obtain rfl : k = n := by omega
      have n1 : ((k : Int) == 1) = false := beq_eq_false_iff_ne.2 (by have := H2.out; omega)
      have c50 : wr.cell? ⟨Z + 1, 0, none⟩ = some (.string ⟨#[111, 114]⟩) := (hj.out.2.2.2.1.cell 0).trans rfl
      have c51 : wr.cell? ⟨Z + 1, 1, none⟩ = some (.slice A2 ds.length c2) := (hj.out.2.2.2.1.cell 1).trans rfl
      have c52 : wr.cell? ⟨Z + 1, 2, none⟩ = some (.slice none 0 0) := (hj.out.2.2.2.1.cell 2).trans rfl
      have hk4' : Blk wr Z #[.string ⟨#[]⟩, .slice none 0 0, .slice none 0 0] 39 := hj.out.1.blk hk4.out (by omega)
      have c40 : wr.cell? ⟨Z, 0, none⟩ = some (.string ⟨#[]⟩) := (hk4'.cell 0).trans rfl
      have c41 : wr.cell? ⟨Z, 1, none⟩ = some (.slice none 0 0) := (hk4'.cell 1).trans rfl
      have c42 : wr.cell? ⟨Z, 2, none⟩ = some (.slice none 0 0) := (hk4'.cell 2).trans rfl
      have g40 := hk4'.frozen 0
      have g41 := hk4'.frozen 1
      have g42 := hk4'.frozen 2
      have HK4 := Lib.hid hk4'
      have HES : Hid (es = ts.flatMap flatE) := by show _ = _; rw [hes.out, List.take_of_length_le (by rw [← HNT.out, HN.out]; exact Nat.le_refl _)]
      clear hlt hk hk4'
      go_wp2_with fail
      have h9 := store3 HK4.out (.string ⟨#[111, 114]⟩) (.slice A2 ds.length c2) (.slice none 0 0)
      have hc9 := chg3 wr Z (.string ⟨#[111, 114]⟩) (.slice A2 ds.length c2) (.slice none 0 0)
      refine bodyPost_ret (v := .agg #[.string ⟨#[111, 114]⟩, .slice A2 ds.length c2, .slice none 0 0]) (results_cell_row (P := Tryz.prog) (fn := Tryz.f23) (p := 4) (ty := 39) Tryz.results23 _ _ Z 39 #[.string ⟨#[111, 114]⟩, .slice A2 ds.length c2, .slice none 0 0] (0, 0) _ rfl h9 Tryz.underlying39 rfl size39) rfl ?_
      generalize ((wr.setCell ⟨Z, 0, none⟩ (.string ⟨#[111, 114]⟩)).setCell ⟨Z, 1, none⟩ (.slice A2 ds.length c2)).setCell ⟨Z, 2, none⟩ (.slice none 0 0) = w9 at *
      have hfar : Chg (fun k => Z ≤ k) w w9 := (Chg.of_below (S := fun k => Z ≤ k) (by rw [HZ.out]; exact hbw.out)).trans ((hj.out.1.mono (fun k e => by omega)).trans (hc9.mono (fun k e => by omega)))
      have hB : Below Z w w9 := hfar.below (by rw [HZ.out]; exact Nat.le_refl _) (fun k hk => hk)
      refine ⟨(wOr, .slice A2 ds.length c2, .slice none 0 0), rfl, ?_, by rw [HZ.out]; exact hB⟩
      show FormIs _ w9 wOr (.slice A2 ds.length c2) (.slice none 0 0) (.either (ts.flatMap flatE))
      rw [← HES.out, hds.out.1, HZ.out]
      refine .either A2 c2 ds es hds.out.1 ?_ (fun i f t hf ht => ?_)
      · exact ((owns_forms hj.out.2.2.2.2.1).chg hc9 (fun k hk e => by have hk : Z + 2 ≤ k := hk; omega)).mono (fun k _ hk => .inr (by have hk : Z + 2 ≤ k := hk; omega))
      · exact (FIs.later (hds.out.2 i f t hf ht) (by rw [HZ.out]; exact hB)).mono (fun k _ hk => .inl hk)
set_option maxRecDepth 100000 in
set_option maxHeartbeats 6400000 in
theorem joined_and {S : Nat → Prop} (A : Option Addr) (c : Nat) (fs : List Fm) (ts : List Term) (w : World) (hn : fs.length = ts.length) (h2 : 2 ≤ fs.length) (h9 : (ts.flatMap flatB).length ≤ 2048) (h8 : fs.length ≤ 2048) (hne : ∀ t ∈ ts, Ne t) (hc : Hid (FormsIn S w A fs)) (hl : Hid (∀ (i : Nat) (f : Fm) (t : Term), fs[i]? = some f → ts[i]? = some t → FIs S w f t)) :
    Calls Tryz.prog 23 #[.string (str wAnd), .slice A fs.length c] w (FormPost S (.both (ts.flatMap flatB)) w) := by
  obtain ⟨b, o, hA, _⟩ : ∃ b o, A = some ⟨b, o, none⟩ ∧ True := by obtain ⟨b, o, e, _⟩ := hc.out 0 (by omega); exact ⟨b, o, e, trivial⟩
  subst hA
  have HNT := Lib.hid hn
  have H9 := Lib.hid h9
  have HNE := Lib.hid hne
  obtain ⟨n, hn1⟩ : ∃ n, fs.length = n := ⟨_, rfl⟩
  have HN := Lib.hid hn1
  have H8 : Hid (n ≤ 2048) := by rw [← hn1]; exact h8
  have H2 : Hid (2 ≤ n) := by rw [← hn1]; exact h2
  rw [hn1]
  rw [show str wAnd = ⟨#[97, 110, 100]⟩ from rfl]
  clear hn h9 hne hn1 h8 h2
  go_enter Tryz.func23, Tryz.ntmps23
  go_wp2_with fail
  refine gen_world (fun w' => Hid (Js w' w' (w.heap.size + 1) (w.heap.size + 2) wAnd none 0 []) ∧ Hid (Below w.heap.size w w') ∧ Hid (Blk w' w.heap.size #[.string ⟨#[]⟩, .slice none 0 0, .slice none 0 0] 39)) ⟨js_new w wAnd, below_two w _ _, blk_first w _⟩ ?_
  obtain ⟨Z, hZ⟩ : ∃ Z, w.heap.size = Z := ⟨_, rfl⟩
  have HZ := Lib.hid hZ
  rw [hZ]
  clear hZ
  rintro w2 ⟨hj2, hbw, hk4⟩
  go_loopg [6] n (fun g i wr => ∃ (k : Nat) (A2 : Option Addr) (c2 : Nat) (ds : List Fm) (es : List Term), g = n - k ∧ k ≤ n ∧ i = .int .i64 k ∧ Hid (Js w2 wr (Z + 1) (Z + 2) wAnd A2 c2 ds) ∧ Hid (es = (ts.take k).flatMap flatB) ∧ Hid (ds.length = es.length ∧ ∀ (i : Nat) (f : Fm) (t : Term), ds[i]? = some f → es[i]? = some t → FIs S w f t))
  case atStart => exact ⟨0, none, 0, [], [], rfl, Nat.zero_le _, rfl, hj2, rfl, rfl, fun i f t h => by cases h⟩
  case round =>
    obtain ⟨k, A2, c2, ds, es, rfl, hk, rfl, hj, hes, hds⟩ := hrel
    have HKN := Lib.hid hk
    have k9 : (k : Int) ≤ 2048 := by have := H8.out; omega
    have k0 : (0 : Int) ≤ (k : Int) := by omega
    by_cases hlt : k < n
    · have hlti : (k : Int) < (n : Int) := by omega
      have HLT := Lib.hid hlt
      have hkf : k < fs.length := by rw [HN.out]; exact hlt
      have hkt : k < ts.length := by rw [← HNT.out]; exact hkf
      obtain ⟨b', o', e, hSb, q1, q2, q3⟩ := hc.out k hkf
      cases e
      have hft := hl.out k _ _ (List.getElem?_eq_getElem hkf) (List.getElem?_eq_getElem hkt)
      have HNEK := Lib.hid (HNE.out _ (List.getElem_mem hkt))
      have HES : Hid (es ++ flatB ts[k] = (ts.take (k + 1)).flatMap flatB) := by
        show _ = _
        rw [List.take_succ_eq_append_getElem hkt, List.flatMap_append, ← hes.out]
        simp
      have HLN : Hid ((es ++ flatB ts[k]).length ≤ 2048) := by
        have h := H9.out
        have e1 : ts.flatMap flatB = (ts.take (k + 1)).flatMap flatB ++ (ts.drop (k + 1)).flatMap flatB := by rw [← List.flatMap_append, List.take_append_drop]
        rw [e1, List.length_append, ← HES.out] at h
        show _ ≤ _
        omega
      obtain ⟨⟨fo, fu, fw⟩, hf⟩ : ∃ f, fs[k] = f := ⟨_, rfl⟩
      rw [hf] at q1 q2 q3 hft
      generalize ts[k] = t at *
      have HFT := Lib.hid hft
      have hW : ∀ (W1 : World), Below wr.heap.size wr W1 → ∀ (a : Nat) (v : Value), w.cell? ⟨b, a, none⟩ = some v → W1.cell? ⟨b, a, none⟩ = some v := fun W1 hb a v h => by
        have hlt2 : b < Z := by rw [← HZ.out]; exact World.block_lt_of_cell? w _ h
        have h3 : w2.cell? ⟨b, a, none⟩ = some v := (hbw.out.cell hlt2).trans h
        have h4 : wr.cell? ⟨b, a, none⟩ = some v := cell_far hj.out.1 (fun e => by omega) h3
        exact (hb.cell (World.block_lt_of_cell? wr _ h4)).trans h4
      have HW := Lib.hid hW
      have q1' : wr.cell? ⟨b, o + k * 3, none⟩ = some (.string (str fo)) := hW _ (Below.refl _ _) _ _ q1
      have c5 : wr.cell? ⟨Z + 1, 1, none⟩ = some (.slice A2 ds.length c2) := (hj.out.2.2.2.1.cell 1).trans rfl
      have Q1 := Lib.hid q1
      have Q2 := Lib.hid q2
      have Q3 := Lib.hid q3
      clear q1 q2 q3 hf hft hkf hkt hW hSb hlt hk
      rcases form_and HFT.out with ⟨A3, c3, fs3, l3, rfl, rfl, rfl, rfl, hn3, hc3, hl3⟩ | ⟨hno, hfl⟩
      · -- of the same kind: its members
        have H3 : 2 ≤ l3.length := HNEK.out.1 l3 rfl
        obtain ⟨b3, o3, hA3⟩ : ∃ b o, A3 = some ⟨b, o, none⟩ := by obtain ⟨b, o, e, _⟩ := hc3 0 (by omega); exact ⟨b, o, e⟩
        subst hA3
        have hcmp : ((str wAnd).toList == [97, 110, 100]) = true := by rw [Lib.toList_data, str_list]; rfl
        have HM3 : Hid (0 < l3.length) := by show _ < _; omega
        have HC3 : Hid (fs3.length = l3.length ∧ FormsIn S w (some ⟨b3, o3, none⟩) fs3 ∧ ∀ (i : Nat) (f : Fm) (t : Term), fs3[i]? = some f → l3[i]? = some t → FormIs S w f.1 f.2.1 f.2.2 t) := ⟨hn3, hc3, hl3⟩
        have HCS : Hid ((fcells fs3).length = l3.length * 3) := by show _ = _; rw [fcells_len, hn3]
        have hfar : Chg (fun k => k = Z + 1) w wr := by
          have h1 := hj.out.1
          exact ⟨h1.os.trans hbw.out.os, h1.tape.trans hbw.out.tape, h1.output.trans hbw.out.output, Nat.le_trans hbw.out.size h1.size, fun q hq hn => (h1.block q (Nat.lt_of_lt_of_le hq hbw.out.size) hn).trans (hbw.out.block q (by rw [← HZ.out]; exact hq))⟩
        have HFN := Lib.hid (forms_news hc3)
        have HNW : Hid (∀ j u, (fcells fs3)[j]? = some u → wr.drew.cell? ((⟨b3, o3, none⟩ : Addr).add j) = some u) := fun j u hu => by
          have h0 := HFN.out j u hu
          have hbk : b3 < Z := by
            have := World.block_lt_of_cell? w _ h0
            rw [add_off] at this
            rw [← HZ.out]
            exact this
          rw [add_off] at h0 ⊢
          exact cell_far (hfar.trans (Chg.refl _ wr).drew) (fun e => by omega) h0
        have HONE : Hid (∀ u ∈ fcells fs3, u.oneCell' = true) := forms_one (fun f hf => by
          obtain ⟨j, hj, e⟩ := List.getElem_of_mem hf
          exact form_slices (hl3 j f l3[j] (by rw [List.getElem?_eq_getElem hj, e]) (List.getElem?_eq_getElem (by omega))))
        have HBD : Hid (ds.length + l3.length ≤ 4096) := by have h := HLN.out; rw [List.length_append] at h; have h2 := hds.out.1; show _ ≤ _; simp only [flatB] at h; omega
        have HJD : Hid (Js w2 wr.drew (Z + 1) (Z + 2) wAnd A2 c2 ds) := hj.out.next (Below.refl _ _).drew
        have HOW : Hid (wr.drew.ownsRow (Z + 2) 39 3 (.slice A2 ds.length c2) ds.length (fcells ds) ∧ Z + 2 ≤ wr.drew.heap.size) := ⟨HJD.out.2.2.2.2.1, HJD.out.2.2.2.2.2⟩
        have q2' : wr.cell? ⟨b, o + k * 3 + 1, none⟩ = some (.slice (some ⟨b3, o3, none⟩) l3.length c3) := HW.out _ (Below.refl _ _) _ _ Q2.out
        clear hn3 hc3 hl3 hfar H3
        go_upto_region 6 with (fail)
        go_region_law (first | (refine step_forms rfl (.tmp 23) (.tmp 28) rfl rfl HOW ⟨b3, o3, none⟩ l3.length c3 (fcells fs3) rfl HM3 HCS.out HNW HONE HBD ?_; intro g7 c7 w7 hown7 hchg7; have d5 : w7.cell? ⟨Z + 1, 1, none⟩ = some (.slice A2 ds.length c2) := ((hchg7.out.blk HJD.out.2.2.2.1 (fun e => by have := (HJD.out.2.2.2.2.1.lt _ e).1; omega)).cell 1).trans rfl; have f5 := (hchg7.out.blk HJD.out.2.2.2.1 (fun e => by have := (HJD.out.2.2.2.2.1.lt _ e).1; omega)).frozen 1))
        all_goals (
          have h8 : Hid (Js w2 (w7.setCell ⟨Z + 1, 1, none⟩ (.slice (some ⟨g7, 0, none⟩) (ds.length + l3.length) c7)) (Z + 1) (Z + 2) wAnd (some ⟨g7, 0, none⟩) c7 (ds ++ fs3)) := HJD.out.grown (by rw [List.length_append, HC3.out.1]) hown7.out hchg7.out
          clear d5 f5
          generalize w7.setCell ⟨Z + 1, 1, none⟩ (.slice (some ⟨g7, 0, none⟩) (ds.length + l3.length) c7) = w8 at *
          go_wp2_with fail
          go_roundg (n - (k + 1))
          case measure => have := HLT.out; omega
          case rel => exact ⟨k + 1, _, c7, ds ++ fs3, es ++ l3, rfl, HLT.out, by go_num, h8, HES, by rw [List.length_append, List.length_append, hds.out.1, HC3.out.1], forms_more hds.out.1 hds.out.2 HC3.out.2.2⟩)
      · have hcmp := ne_list hno
        rw [show wAnd = [97, 110, 100] from rfl] at hcmp
        obtain ⟨⟨Au, nu, cu, hu⟩, ⟨Aw, nw, cw, hw⟩⟩ := form_slices HFT.out
        have hu : fu = .slice Au nu cu := hu
        have hw : fw = .slice Aw nw cw := hw
        subst hu hw
        have q2' : wr.cell? ⟨b, o + k * 3 + 1, none⟩ = some (.slice Au nu cu) := HW.out _ (Below.refl _ _) _ _ Q2.out
        have q3' : wr.cell? ⟨b, o + k * 3 + 2, none⟩ = some (.slice Aw nw cw) := HW.out _ (Below.refl _ _) _ _ Q3.out
        have HBD : Hid (ds.length + 1 ≤ 4096) := by have h := HLN.out; rw [List.length_append, hfl] at h; have h2 := hds.out.1; show _ ≤ _; simp only [List.length_cons, List.length_nil] at h; omega
        have HES2 : Hid (es ++ [t] = (ts.take (k + 1)).flatMap flatB) := by rw [← hfl]; exact HES
        have HM1 : Hid (0 < 1) := Nat.zero_lt_one
        have HCB : Hid (Below wr.heap.size wr (wr.alloc (.cells #[.string (str fo), .slice Au nu cu, .slice Aw nw cw] 39))) := (Below.refl _ _).alloc (Nat.le_refl _) _
        have HNA : Hid (∀ j u, (fcells [(fo, Value.slice Au nu cu, Value.slice Aw nw cw)])[j]? = some u → (wr.alloc (.cells #[.string (str fo), .slice Au nu cu, .slice Aw nw cw] 39)).drew.cell? ((⟨wr.heap.size, 0, none⟩ : Addr).add j) = some u) := World.news_of_block (Blk.new wr #[.string (str fo), .slice Au nu cu, .slice Aw nw cw] 39)
        have HNB : Hid (∀ j u, (fcells [(fo, Value.slice Au nu cu, Value.slice Aw nw cw)])[j]? = some u → (wr.drew.alloc (.cells #[.string (str fo), .slice Au nu cu, .slice Aw nw cw] 39)).cell? ((⟨wr.heap.size, 0, none⟩ : Addr).add j) = some u) := World.news_of_block (Blk.new wr.drew #[.string (str fo), .slice Au nu cu, .slice Aw nw cw] 39)
        have HONE : Hid (∀ u ∈ fcells [(fo, Value.slice Au nu cu, Value.slice Aw nw cw)], u.oneCell' = true) := forms_one (fun f hf => by
          have : f = (fo, Value.slice Au nu cu, Value.slice Aw nw cw) := by simpa using hf
          subst this
          exact ⟨⟨_, _, _, rfl⟩, ⟨_, _, _, rfl⟩⟩)
        have HJA : Hid (Js w2 (wr.alloc (.cells #[.string (str fo), .slice Au nu cu, .slice Aw nw cw] 39)).drew (Z + 1) (Z + 2) wAnd A2 c2 ds) := (hj.out.next HCB.out).next (Below.refl _ _).drew
        have HJB : Hid (Js w2 (wr.drew.alloc (.cells #[.string (str fo), .slice Au nu cu, .slice Aw nw cw] 39)) (Z + 1) (Z + 2) wAnd A2 c2 ds) := (hj.out.next (Below.refl _ _).drew).next ((Below.refl _ _).alloc (Nat.le_refl _) _)
        have HOA := Lib.hid (And.intro HJA.out.2.2.2.2.1 HJA.out.2.2.2.2.2)
        have HOB := Lib.hid (And.intro HJB.out.2.2.2.2.1 HJB.out.2.2.2.2.2)
        have c5a : (wr.alloc (.cells #[.string (str fo), .slice Au nu cu, .slice Aw nw cw] 39)).cell? ⟨Z + 1, 1, none⟩ = some (.slice A2 ds.length c2) := (((hj.out.next HCB.out).2.2.2.1).cell 1).trans rfl
        clear hno hfl
        go_upto_region 7 with (fail)
        go_region_law (first | (refine step_forms rfl (.tmp 32) (.tmp 37) rfl rfl HOA ⟨wr.heap.size, 0, none⟩ 1 1 (fcells [(fo, Value.slice Au nu cu, Value.slice Aw nw cw)]) rfl HM1 rfl HNA HONE HBD ?_; intro g7 c7 w7 hown7 hchg7; have HJD := HJA; have d5 : w7.cell? ⟨Z + 1, 1, none⟩ = some (.slice A2 ds.length c2) := ((hchg7.out.blk HJA.out.2.2.2.1 (fun e => by have := (HJA.out.2.2.2.2.1.lt _ e).1; omega)).cell 1).trans rfl; have f5 := (hchg7.out.blk HJA.out.2.2.2.1 (fun e => by have := (HJA.out.2.2.2.2.1.lt _ e).1; omega)).frozen 1) | (refine step_forms rfl (.tmp 32) (.tmp 37) rfl rfl HOB ⟨wr.heap.size, 0, none⟩ 1 1 (fcells [(fo, Value.slice Au nu cu, Value.slice Aw nw cw)]) rfl HM1 rfl HNB HONE HBD ?_; intro g7 c7 w7 hown7 hchg7; have HJD := HJB; have d5 : w7.cell? ⟨Z + 1, 1, none⟩ = some (.slice A2 ds.length c2) := ((hchg7.out.blk HJB.out.2.2.2.1 (fun e => by have := (HJB.out.2.2.2.2.1.lt _ e).1; omega)).cell 1).trans rfl; have f5 := (hchg7.out.blk HJB.out.2.2.2.1 (fun e => by have := (HJB.out.2.2.2.2.1.lt _ e).1; omega)).frozen 1))
        all_goals (
          have h8 : Hid (Js w2 (w7.setCell ⟨Z + 1, 1, none⟩ (.slice (some ⟨g7, 0, none⟩) (ds.length + 1) c7)) (Z + 1) (Z + 2) wAnd (some ⟨g7, 0, none⟩) c7 (ds ++ [(fo, Value.slice Au nu cu, Value.slice Aw nw cw)])) := HJD.out.grown (by rw [List.length_append]; rfl) hown7.out hchg7.out
          clear d5 f5
          generalize w7.setCell ⟨Z + 1, 1, none⟩ (.slice (some ⟨g7, 0, none⟩) (ds.length + 1) c7) = w8 at *
          go_wp2_with fail
          go_roundg (n - (k + 1))
          case measure => have := HLT.out; omega
          case rel => exact ⟨k + 1, _, c7, ds ++ [(fo, Value.slice Au nu cu, Value.slice Aw nw cw)], es ++ [t], rfl, HLT.out, by go_num, h8, HES2, by rw [List.length_append, List.length_append, hds.out.1]; rfl, forms_more hds.out.1 hds.out.2 (fun i f t' hf ht => by cases i with | zero => cases hf; cases ht; exact HFT.out | succ i => cases hf)⟩)
    · have hlti : ¬ ((k : Int) < (n : Int)) := by omega
      obtain rfl : k = n := by omega
      have n1 : ((k : Int) == 1) = false := beq_eq_false_iff_ne.2 (by have := H2.out; omega)
      have c50 : wr.cell? ⟨Z + 1, 0, none⟩ = some (.string ⟨#[97, 110, 100]⟩) := (hj.out.2.2.2.1.cell 0).trans rfl
      have c51 : wr.cell? ⟨Z + 1, 1, none⟩ = some (.slice A2 ds.length c2) := (hj.out.2.2.2.1.cell 1).trans rfl
      have c52 : wr.cell? ⟨Z + 1, 2, none⟩ = some (.slice none 0 0) := (hj.out.2.2.2.1.cell 2).trans rfl
      have hk4' : Blk wr Z #[.string ⟨#[]⟩, .slice none 0 0, .slice none 0 0] 39 := hj.out.1.blk hk4.out (by omega)
      have c40 : wr.cell? ⟨Z, 0, none⟩ = some (.string ⟨#[]⟩) := (hk4'.cell 0).trans rfl
      have c41 : wr.cell? ⟨Z, 1, none⟩ = some (.slice none 0 0) := (hk4'.cell 1).trans rfl
      have c42 : wr.cell? ⟨Z, 2, none⟩ = some (.slice none 0 0) := (hk4'.cell 2).trans rfl
      have g40 := hk4'.frozen 0
      have g41 := hk4'.frozen 1
      have g42 := hk4'.frozen 2
      have HK4 := Lib.hid hk4'
      have HES : Hid (es = ts.flatMap flatB) := by show _ = _; rw [hes.out, List.take_of_length_le (by rw [← HNT.out, HN.out]; exact Nat.le_refl _)]
      clear hlt hk hk4'
      go_wp2_with fail
      have h9 := store3 HK4.out (.string ⟨#[97, 110, 100]⟩) (.slice A2 ds.length c2) (.slice none 0 0)
      have hc9 := chg3 wr Z (.string ⟨#[97, 110, 100]⟩) (.slice A2 ds.length c2) (.slice none 0 0)
      refine bodyPost_ret (v := .agg #[.string ⟨#[97, 110, 100]⟩, .slice A2 ds.length c2, .slice none 0 0]) (results_cell_row (P := Tryz.prog) (fn := Tryz.f23) (p := 4) (ty := 39) Tryz.results23 _ _ Z 39 #[.string ⟨#[97, 110, 100]⟩, .slice A2 ds.length c2, .slice none 0 0] (0, 0) _ rfl h9 Tryz.underlying39 rfl size39) rfl ?_
      generalize ((wr.setCell ⟨Z, 0, none⟩ (.string ⟨#[97, 110, 100]⟩)).setCell ⟨Z, 1, none⟩ (.slice A2 ds.length c2)).setCell ⟨Z, 2, none⟩ (.slice none 0 0) = w9 at *
      have hfar : Chg (fun k => Z ≤ k) w w9 := (Chg.of_below (S := fun k => Z ≤ k) (by rw [HZ.out]; exact hbw.out)).trans ((hj.out.1.mono (fun k e => by omega)).trans (hc9.mono (fun k e => by omega)))
      have hB : Below Z w w9 := hfar.below (by rw [HZ.out]; exact Nat.le_refl _) (fun k hk => hk)
      refine ⟨(wAnd, .slice A2 ds.length c2, .slice none 0 0), rfl, ?_, by rw [HZ.out]; exact hB⟩
      show FormIs _ w9 wAnd (.slice A2 ds.length c2) (.slice none 0 0) (.both (ts.flatMap flatB))
      rw [← HES.out, hds.out.1, HZ.out]
      refine .both A2 c2 ds es hds.out.1 ?_ (fun i f t hf ht => ?_)
      · exact ((owns_forms hj.out.2.2.2.2.1).chg hc9 (fun k hk e => by have hk : Z + 2 ≤ k := hk; omega)).mono (fun k _ hk => .inr (by have hk : Z + 2 ≤ k := hk; omega))
      · exact (FIs.later (hds.out.2 i f t hf ht) (by rw [HZ.out]; exact hB)).mono (fun k _ hk => .inl hk)
end Go.Proofs.YtcdhkeahcliefaaGreatDoor.RefH
