/- The document's print. -/
import Derived.Test.YtcdhkeahcliefaaGreatDoorPrint40
import Derived.Test.YtcdhkeahcliefaaGreatDoorPrint32
namespace Go.Proofs.YtcdhkeahcliefaaGreatDoor.RefP
open Go.ChangeShapes Go.WideShapes Go.ChangeAt Go.RowKit
open Go.Proofs.YtcdhkeahcliefaaGreatDoor.Kit Go.Proofs.YtcdhkeahcliefaaGreatDoor.Base Go.Proofs.YtcdhkeahcliefaaGreatDoor.Term Go.Proofs.YtcdhkeahcliefaaGreatDoor.Syn Go.Proofs.YtcdhkeahcliefaaGreatDoor.Gram Go.Proofs.YtcdhkeahcliefaaGreatDoor.GramB Go.Proofs.YtcdhkeahcliefaaGreatDoor.TokB Go.Proofs.YtcdhkeahcliefaaGreatDoor.RefD Go.Proofs.YtcdhkeahcliefaaGreatDoor.RefG Go.Proofs.YtcdhkeahcliefaaGreatDoor.RefH Go.Proofs.YtcdhkeahcliefaaGreatDoor.Text
set_option linter.unusedVariables false

/-- a form's text at a level -/
noncomputable def printT (lv : Nat) (t : Term) : W := brIf ((decide (lv = 2) && isC t) || (decide (lv = 1) && isE t)) (textT t)
theorem print0 (t : Term) : printT 0 t = textT t := rfl
theorem print1 (t : Term) : printT 1 t = brIf (isE t) (textT t) := by
  show brIf (false || (true && isE t)) _ = _
  rw [Bool.false_or, Bool.true_and]
theorem print2 (t : Term) : printT 2 t = brIf (isC t) (textT t) := by
  show brIf ((true && isC t) || false) _ = _
  rw [Bool.or_false, Bool.true_and]
theorem print_leaf {lv : Nat} {t : Term} (h : isC t = false) (h2 : isE t = false) : printT lv t = textT t := by
  unfold printT
  rw [h, h2, Bool.and_false, Bool.and_false]
  rfl
theorem leaf_isC {x : W} {r : List W} {t : Term} {k : Nat} (h : leaf x r = .ok (t, k)) : isC t = false ∧ isE t = false := by
  obtain ⟨_, h1, h2⟩ := leaf_fine h
  cases t with
  | both l => exact absurd rfl (h1 l)
  | either l => exact absurd rfl (h2 l)
  | _ => exact ⟨rfl, rfl⟩
/-- a form's print, in every world behind w -/
def PrintC (w : World) (f : Fm) (t : Term) : Prop := ∀ (lv : Nat) (w' : World), lv ≤ 2 → Hid (Below w.heap.size w w') → Hid ((printT lv t).length ≤ 65536) → Calls Tryz.prog 12 #[fval f, .int .i64 (lv : Nat)] w' (TextPost (printT lv t) w')
theorem cell_of {S : Nat → Prop} {w : World} {A : Option Addr} {fs : List Fm} (h : FormsIn S w A fs) {w' : World} (hb : Below w.heap.size w w') (i : Nat) (hi : i < fs.length) : ∃ b o, A = some ⟨b, o, none⟩ ∧ b < w.heap.size ∧ Cell3 w' b (o + i * 3) fs[i] := by
  obtain ⟨b, o, e, hs, hc⟩ := h i hi
  exact ⟨b, o, e, World.block_lt_of_cell? w _ hc.1, hc.chg (Chg.of_below (S := fun _ => False) hb) id⟩
set_option maxRecDepth 100000 in
set_option maxHeartbeats 6400000 in
theorem print_term {S : Nat → Prop} {w : World} {x : W} {r : List W} {t : Term} (A : Option Addr) (c : Nat) (h : leaf x r = .ok (t, r.length)) (hw : ∀ y ∈ r, y.length ≤ 1023) (hs : StrsIn S w A (x :: r)) : PrintC w ([], .slice none 0 0, .slice A (r.length + 1) c) t := by
  intro lv w1 hlv hb hN
  obtain ⟨hC, hE⟩ := leaf_isC h
  have HX : Hid (printT lv t = textT t) := print_leaf hC hE
  rw [HX.out] at hN ⊢
  have hst : Hid (∀ w', Below w.heap.size w w' → Strs w' A ((x :: r).map str)) := fun w' hb' i hi => by
    have hi2 : i < (x :: r).length := by simpa using hi
    obtain ⟨b, o, e, _, hcell⟩ := hs i hi2
    refine ⟨_, e, ?_⟩
    rw [add_off, (hb'.cell (World.block_lt_of_cell? w _ hcell)).trans hcell, List.getElem_map]
  have HT := Lib.hid (fun w' (hb' : Below w.heap.size w w') => RefO.term_any h A c w' (hst.out w' hb') hw hN)
  obtain ⟨m, hm⟩ : ∃ m, r.length + 1 = m := ⟨_, rfl⟩
  rw [hm] at HT ⊢
  rw [show fval ([], .slice none 0 0, .slice A m c) = .agg #[.string ⟨#[]⟩, .slice none 0 0, .slice A m c] from rfl]
  clear h hw hs hC hE hm hst
  go_enter Tryz.func12, Tryz.ntmps12
  go_upto_region 1 with (fail)
  have hal : Below w1.heap.size w1 (w1.alloc (.cells #[.string ⟨#[]⟩, .slice none 0 0, .slice A m c] 39)) := (Below.refl _ _).alloc (Nat.le_refl _) _
  refine gen_world (fun w' => Hid (Below w1.heap.size w1 w') ∧ Hid (Blk w' w1.heap.size #[.string ⟨#[]⟩, .slice none 0 0, .slice A m c] 39)) ⟨hal, Blk.new w1 _ 39⟩ ?_
  rintro w2 ⟨hb2, hk⟩
  have c0 : w2.cell? ⟨w1.heap.size, 0, none⟩ = some (.string ⟨#[]⟩) := (hk.out.cell 0).trans rfl
  have c2 : w2.cell? ⟨w1.heap.size, 2, none⟩ = some (.slice A m c) := (hk.out.cell 2).trans rfl
  have HT2 := Lib.hid (HT.out w2 (hb.out.trans (hb2.out.mono hb.out.size)))
  clear hal HT
  go_wp2_with fail
  refine HT2.out.mono ?_
  rintro e w3 ⟨rfl, hb3⟩
  go_wp2_with fail
  go_ret
  exact ⟨rfl, hb2.out.trans (hb3.out.mono hb2.out.size)⟩
set_option maxRecDepth 100000 in
set_option maxHeartbeats 6400000 in
theorem print_not {S : Nat → Prop} {w : World} {t : Term} (A : Option Addr) (c : Nat) (f : Fm) (hf : FIs S w f t) (hc : FormsIn S w A [f]) (H : PrintC w f t) : PrintC w (wNot, .slice A 1 c, .slice none 0 0) (.not t) := by
  intro lv w1 hlv hb hN
  have HX : Hid (printT lv (.not t) = textT (.not t)) := print_leaf rfl rfl
  rw [HX.out] at hN ⊢
  have HQ : Hid (str (textT (.not t)) = ⟨#[110, 111, 116]⟩ ++ ⟨#[32]⟩ ++ str (printT 2 t)) := by
    show _ = _
    rw [show (⟨#[110, 111, 116]⟩ : ByteArray) = str [110, 111, 116] from rfl, show (⟨#[32]⟩ : ByteArray) = str [32] from rfl, str_append, str_append, textT, print2]
    rfl
  have HL : Hid ((printT 2 t).length + 4 ≤ 65536) := by
    have h1 := hN.out
    have h2 := congrArg ByteArray.size HQ.out
    rw [show (⟨#[110, 111, 116]⟩ : ByteArray) = str [110, 111, 116] from rfl, show (⟨#[32]⟩ : ByteArray) = str [32] from rfl, str_append, str_append, str_size, str_size, List.length_append] at h2
    have h3 : ([110, 111, 116] ++ [32] : W).length = 4 := rfl
    rw [h3] at h2
    show _ ≤ _
    omega
  obtain ⟨fo, fu, fw⟩ := f
  obtain ⟨⟨Au, nu, cu, hu⟩, ⟨Aw, nw, cw, hw2⟩⟩ := form_slices hf
  have hu : fu = .slice Au nu cu := hu
  have hw2 : fw = .slice Aw nw cw := hw2
  subst hu hw2
  have HCC := Lib.hid (fun w' (hb' : Below w.heap.size w w') => H 2 w' (Nat.le_refl _) hb' (by have := HL.out; show _ ≤ _; omega))
  have HCE := Lib.hid (fun w' (hb' : Below w.heap.size w w') => cell_of hc hb' 0 (by simp))
  obtain ⟨b, o, hA, hbl, _⟩ := HCE.out w (Below.refl _ _)
  subst hA
  have HCE2 : Hid (∀ w', Below w.heap.size w w' → w'.cell? ⟨b, o, none⟩ = some (.string (str fo)) ∧ w'.cell? ⟨b, o + 1, none⟩ = some (.slice Au nu cu) ∧ w'.cell? ⟨b, o + 2, none⟩ = some (.slice Aw nw cw)) := fun w' hb' => by
    obtain ⟨b', o', e, _, h⟩ := HCE.out w' hb'
    cases e
    exact h
  have n1 : ¬ (9223372036854775807 < 4 + (str (printT 2 t)).size) := by have := HL.out; rw [str_size]; omega
  have n2 : ¬ (9223372036854775807 < 3 + 1 + (str (printT 2 t)).size) := by have := HL.out; rw [str_size]; omega
  generalize printT 2 t = p at *
  rw [show fval (wNot, .slice (some ⟨b, o, none⟩) 1 c, .slice none 0 0) = .agg #[.string ⟨#[110, 111, 116]⟩, .slice (some ⟨b, o, none⟩) 1 c, .slice none 0 0] from rfl]
  have HCC : Hid (∀ w', Below w.heap.size w w' → Calls Tryz.prog 12 #[.agg #[.string (str fo), .slice Au nu cu, .slice Aw nw cw], .int .i64 2] w' (TextPost p w')) := HCC
  clear hf hc H HCE hbl
  go_enter Tryz.func12, Tryz.ntmps12
  go_upto_region 1 with (fail)
  have hal : Below w1.heap.size w1 (w1.alloc (.cells #[.string ⟨#[110, 111, 116]⟩, .slice (some ⟨b, o, none⟩) 1 c, .slice none 0 0] 39)) := (Below.refl _ _).alloc (Nat.le_refl _) _
  refine gen_world (fun w' => Hid (Below w1.heap.size w1 w') ∧ Hid (Blk w' w1.heap.size #[.string ⟨#[110, 111, 116]⟩, .slice (some ⟨b, o, none⟩) 1 c, .slice none 0 0] 39)) ⟨hal, Blk.new w1 _ 39⟩ ?_
  clear hal
  rintro w2 ⟨hb2, hk⟩
  have c0 : w2.cell? ⟨w1.heap.size, 0, none⟩ = some (.string ⟨#[110, 111, 116]⟩) := (hk.out.cell 0).trans rfl
  have c1 : w2.cell? ⟨w1.heap.size, 1, none⟩ = some (.slice (some ⟨b, o, none⟩) 1 c) := (hk.out.cell 1).trans rfl
  have HBB : Hid (Below w.heap.size w w2) := hb.out.trans (hb2.out.mono hb.out.size)
  obtain ⟨q0, q1, q2⟩ := HCE2.out w2 HBB.out
  have HCD := Lib.hid (HCC.out w2.drew HBB.out.drew)
  have HKL := Lib.hid hk.out.lt
  have C0 := Lib.hid c0
  go_upto_region 7 with (fail)
  go_region_with (first | (go_at_call 12; go_loud (refine HCD.out.mono ?_); rintro e wx ⟨rfl, hbx⟩; have d0 : wx.cell? ⟨w1.heap.size, 0, none⟩ = some (.string ⟨#[110, 111, 116]⟩) := (hbx.out.cell HKL.out).trans C0.out))
  all_goals (go_wp2_with fail; go_ret; exact ⟨by rw [HQ.out]; rfl, hb2.out.drew.trans (hbx.out.mono hb2.out.size)⟩)
set_option maxRecDepth 100000 in
set_option maxHeartbeats 6400000 in
theorem print_has {S : Nat → Prop} {w : World} {t : Term} (A : Option Addr) (c : Nat) (f : Fm) (hf : FIs S w f t) (hc : FormsIn S w A [f]) (H : PrintC w f t) : PrintC w (wHas, .slice A 1 c, .slice none 0 0) (.has t) := by
  intro lv w1 hlv hb hN
  have HX : Hid (printT lv (.has t) = textT (.has t)) := print_leaf rfl rfl
  rw [HX.out] at hN ⊢
  have HQ : Hid (str (textT (.has t)) = ⟨#[104, 97, 115]⟩ ++ ⟨#[32]⟩ ++ str (printT 2 t)) := by
    show _ = _
    rw [show (⟨#[104, 97, 115]⟩ : ByteArray) = str [104, 97, 115] from rfl, show (⟨#[32]⟩ : ByteArray) = str [32] from rfl, str_append, str_append, textT, print2]
    rfl
  have HL : Hid ((printT 2 t).length + 4 ≤ 65536) := by
    have h1 := hN.out
    have h2 := congrArg ByteArray.size HQ.out
    rw [show (⟨#[104, 97, 115]⟩ : ByteArray) = str [104, 97, 115] from rfl, show (⟨#[32]⟩ : ByteArray) = str [32] from rfl, str_append, str_append, str_size, str_size, List.length_append] at h2
    have h3 : ([104, 97, 115] ++ [32] : W).length = 4 := rfl
    rw [h3] at h2
    show _ ≤ _
    omega
  obtain ⟨fo, fu, fw⟩ := f
  obtain ⟨⟨Au, nu, cu, hu⟩, ⟨Aw, nw, cw, hw2⟩⟩ := form_slices hf
  have hu : fu = .slice Au nu cu := hu
  have hw2 : fw = .slice Aw nw cw := hw2
  subst hu hw2
  have HCC := Lib.hid (fun w' (hb' : Below w.heap.size w w') => H 2 w' (Nat.le_refl _) hb' (by have := HL.out; show _ ≤ _; omega))
  have HCE := Lib.hid (fun w' (hb' : Below w.heap.size w w') => cell_of hc hb' 0 (by simp))
  obtain ⟨b, o, hA, hbl, _⟩ := HCE.out w (Below.refl _ _)
  subst hA
  have HCE2 : Hid (∀ w', Below w.heap.size w w' → w'.cell? ⟨b, o, none⟩ = some (.string (str fo)) ∧ w'.cell? ⟨b, o + 1, none⟩ = some (.slice Au nu cu) ∧ w'.cell? ⟨b, o + 2, none⟩ = some (.slice Aw nw cw)) := fun w' hb' => by
    obtain ⟨b', o', e, _, h⟩ := HCE.out w' hb'
    cases e
    exact h
  have n1 : ¬ (9223372036854775807 < 4 + (str (printT 2 t)).size) := by have := HL.out; rw [str_size]; omega
  have n2 : ¬ (9223372036854775807 < 3 + 1 + (str (printT 2 t)).size) := by have := HL.out; rw [str_size]; omega
  generalize printT 2 t = p at *
  rw [show fval (wHas, .slice (some ⟨b, o, none⟩) 1 c, .slice none 0 0) = .agg #[.string ⟨#[104, 97, 115]⟩, .slice (some ⟨b, o, none⟩) 1 c, .slice none 0 0] from rfl]
  have HCC : Hid (∀ w', Below w.heap.size w w' → Calls Tryz.prog 12 #[.agg #[.string (str fo), .slice Au nu cu, .slice Aw nw cw], .int .i64 2] w' (TextPost p w')) := HCC
  clear hf hc H HCE hbl
  go_enter Tryz.func12, Tryz.ntmps12
  go_upto_region 1 with (fail)
  have hal : Below w1.heap.size w1 (w1.alloc (.cells #[.string ⟨#[104, 97, 115]⟩, .slice (some ⟨b, o, none⟩) 1 c, .slice none 0 0] 39)) := (Below.refl _ _).alloc (Nat.le_refl _) _
  refine gen_world (fun w' => Hid (Below w1.heap.size w1 w') ∧ Hid (Blk w' w1.heap.size #[.string ⟨#[104, 97, 115]⟩, .slice (some ⟨b, o, none⟩) 1 c, .slice none 0 0] 39)) ⟨hal, Blk.new w1 _ 39⟩ ?_
  clear hal
  rintro w2 ⟨hb2, hk⟩
  have c0 : w2.cell? ⟨w1.heap.size, 0, none⟩ = some (.string ⟨#[104, 97, 115]⟩) := (hk.out.cell 0).trans rfl
  have c1 : w2.cell? ⟨w1.heap.size, 1, none⟩ = some (.slice (some ⟨b, o, none⟩) 1 c) := (hk.out.cell 1).trans rfl
  have HBB : Hid (Below w.heap.size w w2) := hb.out.trans (hb2.out.mono hb.out.size)
  obtain ⟨q0, q1, q2⟩ := HCE2.out w2 HBB.out
  have HCD := Lib.hid (HCC.out w2.drew HBB.out.drew)
  have HKL := Lib.hid hk.out.lt
  have C0 := Lib.hid c0
  go_upto_region 7 with (fail)
  go_region_with (first | (go_at_call 12; go_loud (refine HCD.out.mono ?_); rintro e wx ⟨rfl, hbx⟩; have d0 : wx.cell? ⟨w1.heap.size, 0, none⟩ = some (.string ⟨#[104, 97, 115]⟩) := (hbx.out.cell HKL.out).trans C0.out))
  all_goals (go_wp2_with fail; go_ret; exact ⟨by rw [HQ.out]; rfl, hb2.out.drew.trans (hbx.out.mono hb2.out.size)⟩)
theorem join_snoc (sep : W) : ∀ (xs : List W) (x : W), Lib.join (xs ++ [x]) sep = if xs = [] then x else Lib.join xs sep ++ (sep ++ x) := by
  intro xs
  induction xs with
  | nil => intro x; show Lib.join [x] sep = x; rw [Lib.join_cons]; simp [Lib.joinTail]
  | cons a xs ih =>
    intro x
    rw [if_neg (by simp), List.cons_append, Lib.join_cons, Lib.join_cons]
    simp [Lib.joinTail]
theorem join_take_len (sep : W) (xs : List W) : ∀ k, (Lib.join (xs.take k) sep).length ≤ (Lib.join xs sep).length := by
  intro k
  by_cases hk : k < xs.length
  · have key : ∀ (b : List W) (a : List W), (Lib.join a sep).length ≤ (Lib.join (a ++ b) sep).length := by
      intro b
      induction b with
      | nil => intro a; rw [List.append_nil]; exact Nat.le_refl _
      | cons y b ih =>
        intro a
        have h := ih (a ++ [y])
        rw [List.append_assoc] at h
        refine Nat.le_trans ?_ h
        rw [join_snoc]
        split
        · rename_i h0; subst h0; exact Nat.zero_le _
        · rw [List.length_append]; exact Nat.le_add_right _ _
    have h := key (xs.drop k) (xs.take k)
    rw [List.take_append_drop] at h
    exact h
  · rw [List.take_of_length_le (by omega)]
    exact Nat.le_refl _
set_option maxRecDepth 100000 in
set_option maxHeartbeats 6400000 in
theorem print_both {S : Nat → Prop} {w : World} (A : Option Addr) (c : Nat) (fs : List Fm) (l : List Term) (hn : fs.length = l.length) (hc : FormsIn S w A fs) (hl : ∀ (i : Nat) (f : Fm) (t : Term), fs[i]? = some f → l[i]? = some t → FIs S w f t)
    (H : ∀ (i : Nat) (f : Fm) (t : Term), fs[i]? = some f → l[i]? = some t → PrintC w f t) : PrintC w (wAnd, .slice A l.length c, .slice none 0 0) (.both l) := by
  intro lv w1 hlv hb hN
  have HLV : Hid (lv ≤ 2) := hlv
  have HTX : Hid (textT (.both l) = Lib.join (textsB l) [32, 97, 110, 100, 32]) := by show _ = _; rw [textT]
  have HJL : Hid ((Lib.join (textsB l) [32, 97, 110, 100, 32]).length ≤ 65536) := by
    have h1 := hN.out
    have h2 := (brIf_len ((decide (lv = 2) && isC (.both l)) || (decide (lv = 1) && isE (.both l))) (textT (.both l))).1
    have h3 : printT lv (.both l) = brIf ((decide (lv = 2) && isC (.both l)) || (decide (lv = 1) && isE (.both l))) (textT (.both l)) := rfl
    rw [h3] at h1
    rw [HTX.out] at h1 h2
    show _ ≤ _
    omega
  have HEL : Hid ((textsB l).length = l.length ∧ ∀ k (h : k < l.length), (textsB l)[k]? = some (printT 1 l[k])) := by
    refine ⟨by rw [textsB_map, List.length_map], fun k h => ?_⟩
    rw [textsB_map, List.getElem?_map, List.getElem?_eq_getElem h, print1]
    rfl
  obtain ⟨xs, hxs⟩ : ∃ xs, textsB l = xs := ⟨_, rfl⟩
  rw [hxs] at HTX HJL HEL
  have HFS : Hid (∀ k (h : k < l.length), ∃ fo Au nu cu Aw nw cw b o, A = some ⟨b, o, none⟩ ∧ (∀ w', Below w.heap.size w w' → w'.cell? ⟨b, o + k * 3, none⟩ = some (.string (str fo)) ∧ w'.cell? ⟨b, o + k * 3 + 1, none⟩ = some (.slice Au nu cu) ∧ w'.cell? ⟨b, o + k * 3 + 2, none⟩ = some (.slice Aw nw cw)) ∧
      ∀ w', Below w.heap.size w w' → (printT 1 l[k]).length ≤ 65536 → Calls Tryz.prog 12 #[.agg #[.string (str fo), .slice Au nu cu, .slice Aw nw cw], .int .i64 1] w' (TextPost (printT 1 l[k]) w')) := fun k h => by
    have hk : k < fs.length := by omega
    obtain ⟨⟨Au, nu, cu, hu⟩, ⟨Aw, nw, cw, hw2⟩⟩ := form_slices (hl k _ _ (List.getElem?_eq_getElem hk) (List.getElem?_eq_getElem h))
    obtain ⟨b, o, e, _, _⟩ := cell_of hc (Below.refl _ _) k hk
    refine ⟨fs[k].1, Au, nu, cu, Aw, nw, cw, b, o, e, fun w' hb' => ?_, fun w' hb' hlen => ?_⟩
    · obtain ⟨b', o', e', _, h3⟩ := cell_of hc hb' k hk
      rw [e] at e'
      cases e'
      exact ⟨h3.1, by rw [← hu]; exact h3.2.1, by rw [← hw2]; exact h3.2.2⟩
    · have h4 := H k _ _ (List.getElem?_eq_getElem hk) (List.getElem?_eq_getElem h) 1 w' (by decide) hb' hlen
      unfold fval at h4
      rw [hu, hw2] at h4
      exact h4
  obtain ⟨n, hn1⟩ : ∃ n, l.length = n := ⟨_, rfl⟩
  have HNL := Lib.hid hn1
  have HN9 : Hid (n ≤ 65537) := by
    have h1 := (join_len [32, 97, 110, 100, 32] xs).2
    have h2 := HJL.out
    rw [HEL.out.1, hn1] at h1
    simp only [List.length_cons, List.length_nil] at h1
    show _ ≤ _
    omega
  rw [hn1]
  rw [show fval (wAnd, .slice A n c, .slice none 0 0) = .agg #[.string ⟨#[97, 110, 100]⟩, .slice A n c, .slice none 0 0] from rfl]
  clear hn hc hl H hxs hn1 hlv hN
  go_enter Tryz.func12, Tryz.ntmps12
  go_upto_region 1 with (fail)
  have hal : Below w1.heap.size w1 (w1.alloc (.cells #[.string ⟨#[97, 110, 100]⟩, .slice A n c, .slice none 0 0] 39)) := (Below.refl _ _).alloc (Nat.le_refl _) _
  obtain ⟨B, hB⟩ : ∃ B, w1.heap.size = B := ⟨_, rfl⟩
  have HB := Lib.hid hB
  refine gen_world (fun w' => Hid (Below w1.heap.size w1 w') ∧ Hid (Blk w' w1.heap.size #[.string ⟨#[97, 110, 100]⟩, .slice A n c, .slice none 0 0] 39)) ⟨hal, Blk.new w1 _ 39⟩ ?_
  clear hal hB
  rw [HB.out]
  rintro w2 ⟨hb2, hk2⟩
  have c0 : w2.cell? ⟨B, 0, none⟩ = some (.string ⟨#[97, 110, 100]⟩) := (hk2.out.cell 0).trans rfl
  go_upto_region 11 with (fail)
  clear c0
  go_wp2_with fail
  go_loopg [5, 7] n (fun g s i wr => ∃ (k : Nat), g = n - k ∧ k ≤ n ∧ i = .int .i64 k ∧ s = .string (str (Lib.join (xs.take k) [32, 97, 110, 100, 32])) ∧ Hid (Below B w1 wr) ∧ Hid (Blk wr B #[.string ⟨#[97, 110, 100]⟩, .slice A n c, .slice none 0 0] 39))
  case atStart => exact ⟨0, rfl, Nat.zero_le _, rfl, rfl, hb2, hk2⟩
  case round =>
    obtain ⟨k, rfl, hk, rfl, rfl, hbw, hkw⟩ := hrel
    have k9 : (k : Int) ≤ 65537 := by have := HN9.out; omega
    have k0 : (0 : Int) ≤ (k : Int) := by omega
    have c0 : wr.cell? ⟨B, 0, none⟩ = some (.string ⟨#[97, 110, 100]⟩) := (hkw.out.cell 0).trans rfl
    have c1 : wr.cell? ⟨B, 1, none⟩ = some (.slice A n c) := (hkw.out.cell 1).trans rfl
    have HBW : Hid (Below w.heap.size w wr) := hb.out.trans (hbw.out.mono (by rw [← HB.out]; exact hb.out.size))
    by_cases hlt : k < n
    · have hlti : (k : Int) < (n : Int) := by omega
      have HLT := Lib.hid hlt
      obtain ⟨fo, Au, nu, cu, Aw, nw, cw, b, o, hA, hcs, hcl⟩ := HFS.out k (by rw [HNL.out]; exact hlt)
      subst hA
      obtain ⟨q0, q1, q2⟩ := hcs wr HBW.out
      have hkx : k < xs.length := by rw [HEL.out.1, HNL.out]; exact hlt
      have hx0 := HEL.out.2 k (by rw [HNL.out]; exact hlt)
      rw [List.getElem?_eq_getElem hkx] at hx0
      obtain ⟨p, hp⟩ : ∃ p, printT 1 (l[k]'(by rw [HNL.out]; exact hlt)) = p := ⟨_, rfl⟩
      rw [hp] at hx0 hcl
      have hx : xs[k] = p := Option.some.inj hx0
      have HSN : Hid (Lib.join (xs.take (k + 1)) [32, 97, 110, 100, 32] = if xs.take k = [] then p else Lib.join (xs.take k) [32, 97, 110, 100, 32] ++ ([32, 97, 110, 100, 32] ++ p)) := by show _ = _; rw [List.take_succ_eq_append_getElem hkx, hx, join_snoc]
      have hjl := join_take_len [32, 97, 110, 100, 32] xs (k + 1)
      have HJK : Hid ((Lib.join (xs.take (k + 1)) [32, 97, 110, 100, 32]).length ≤ 65536) := Nat.le_trans hjl HJL.out
      have hpl : p.length ≤ 65536 := by rw [← hx]; exact Nat.le_trans ((join_len [32, 97, 110, 100, 32] xs).1 _ (List.getElem_mem hkx)) HJL.out
      have HCL := Lib.hid (hcl wr HBW.out hpl)
      have HNIL : Hid (xs.take k = [] ↔ k = 0) := ⟨fun h => by have h2 := congrArg List.length h; rw [List.length_take] at h2; have h2 : min k xs.length = 0 := h2; omega, fun h => by subst h; rfl⟩
      clear hcs hcl hx0 hp hjl hpl hlt hk
      clear hx
      clear hkx
      by_cases h0 : k = 0
      · have HS1 : Hid (str (Lib.join (xs.take (k + 1)) [32, 97, 110, 100, 32]) = str (Lib.join (xs.take k) [32, 97, 110, 100, 32]) ++ str p) := by
          show _ = _
          rw [HSN.out, if_pos (HNIL.out.2 h0), HNIL.out.2 h0, str_append]
          rfl
        have kn : ¬ ((0 : Int) < (k : Int)) := by omega
        have m1 : ¬ (9223372036854775807 < (str (Lib.join (xs.take k) [32, 97, 110, 100, 32])).size + (str p).size) := by have h1 := congrArg ByteArray.size HS1.out; have h2 := HJK.out; rw [str_append, str_size, str_size, List.length_append] at h1; rw [str_size, str_size]; omega
        clear h0
        generalize Lib.join (xs.take k) [32, 97, 110, 100, 32] = jk at *
        go_wp2_with fail
        refine HCL.out.mono ?_
        rintro e w4 ⟨rfl, hb4⟩
        go_wp2_with fail
        go_roundg (n - (k + 1))
        case measure => have := HLT.out; omega
        case rel => exact ⟨k + 1, rfl, HLT.out, by go_num, by rw [HS1.out], hbw.out.trans (hb4.out.mono (by have := hkw.out.lt; omega)), hkw.out.below hb4.out hkw.out.lt⟩
      · have HS1 : Hid (str (Lib.join (xs.take (k + 1)) [32, 97, 110, 100, 32]) = str (Lib.join (xs.take k) [32, 97, 110, 100, 32]) ++ ⟨#[32]⟩ ++ ⟨#[97, 110, 100]⟩ ++ ⟨#[32]⟩ ++ str p) := by
          show _ = _
          rw [HSN.out, if_neg (fun h => h0 (HNIL.out.1 h)), show (⟨#[32]⟩ : ByteArray) = str [32] from rfl, show (⟨#[97, 110, 100]⟩ : ByteArray) = str [97, 110, 100] from rfl, str_append, str_append, str_append, str_append]
          simp
        have kn : (0 : Int) < (k : Int) := by omega
        have hsz : (str (Lib.join (xs.take k) [32, 97, 110, 100, 32])).size + 1 + 3 + 1 + (str p).size ≤ 65536 := by
          have h1 := congrArg ByteArray.size HS1.out
          have h2 := HJK.out
          rw [show (⟨#[32]⟩ : ByteArray) = str [32] from rfl, show (⟨#[97, 110, 100]⟩ : ByteArray) = str [97, 110, 100] from rfl, str_append, str_append, str_append, str_append, str_size, str_size] at h1
          rw [str_size, str_size]
          simp at h1
          omega
        have m1 : ¬ (9223372036854775807 < (str (Lib.join (xs.take k) [32, 97, 110, 100, 32])).size + 1) := by omega
        have m2 : ¬ (9223372036854775807 < (str (Lib.join (xs.take k) [32, 97, 110, 100, 32])).size + 1 + 3) := by omega
        have m3 : ¬ (9223372036854775807 < (str (Lib.join (xs.take k) [32, 97, 110, 100, 32])).size + 1 + 3 + 1) := by omega
        have m4 : ¬ (9223372036854775807 < (str (Lib.join (xs.take k) [32, 97, 110, 100, 32])).size + 1 + 3 + 1 + (str p).size) := by omega
        clear h0 hsz
        generalize Lib.join (xs.take k) [32, 97, 110, 100, 32] = jk at *
        go_wp2_with fail
        refine HCL.out.mono ?_
        rintro e w4 ⟨rfl, hb4⟩
        go_wp2_with fail
        go_roundg (n - (k + 1))
        case measure => have := HLT.out; omega
        case rel => exact ⟨k + 1, rfl, HLT.out, by go_num, by rw [HS1.out], hbw.out.trans (hb4.out.mono (by have := hkw.out.lt; omega)), hkw.out.below hb4.out hkw.out.lt⟩
    · have hlti : ¬ ((k : Int) < (n : Int)) := by omega
      have HK : xs.take k = xs := List.take_of_length_le (by rw [HEL.out.1, HNL.out]; omega)
      rw [HK]
      have hbw : Hid (Below w1.heap.size w1 wr) := by rw [HB.out]; exact hbw
      have hlv3 : lv = 0 ∨ lv = 1 ∨ lv = 2 := by have := HLV.out; omega
      clear hlt hk HK
      rcases hlv3 with rfl | rfl | rfl
      · have HPX : Hid (printT 0 (.both l) = Lib.join xs [32, 97, 110, 100, 32]) := by show _ = _; rw [show printT 0 (.both l) = textT (.both l) from rfl, HTX.out]
        generalize Lib.join xs [32, 97, 110, 100, 32] = jj at *
        go_wp2_with fail
        go_ret
        exact ⟨by rw [HPX.out]; rfl, hbw⟩
      · have HPX : Hid (printT 1 (.both l) = Lib.join xs [32, 97, 110, 100, 32]) := by show _ = _; rw [show printT 1 (.both l) = textT (.both l) from rfl, HTX.out]
        generalize Lib.join xs [32, 97, 110, 100, 32] = jj at *
        go_wp2_with fail
        go_ret
        exact ⟨by rw [HPX.out]; rfl, hbw⟩
      · have HPX : Hid (str (printT 2 (.both l)) = ⟨#[40, 32]⟩ ++ str (Lib.join xs [32, 97, 110, 100, 32]) ++ ⟨#[32, 41]⟩) := by
          show _ = _
          rw [show printT 2 (.both l) = br (textT (.both l)) from rfl, HTX.out, show (⟨#[40, 32]⟩ : ByteArray) = str [40, 32] from rfl, show (⟨#[32, 41]⟩ : ByteArray) = str [32, 41] from rfl, str_append, str_append]
          rfl
        have n7 : ¬ (9223372036854775807 < 2 + (str (Lib.join xs [32, 97, 110, 100, 32])).size) := by have := HJL.out; rw [str_size]; omega
        have n8 : ¬ (9223372036854775807 < 2 + (str (Lib.join xs [32, 97, 110, 100, 32])).size + 2) := by have := HJL.out; rw [str_size]; omega
        generalize Lib.join xs [32, 97, 110, 100, 32] = jj at *
        go_wp2_with fail
        go_ret
        exact ⟨by rw [HPX.out]; rfl, hbw⟩
set_option maxRecDepth 100000 in
set_option maxHeartbeats 6400000 in
theorem print_either {S : Nat → Prop} {w : World} (A : Option Addr) (c : Nat) (fs : List Fm) (l : List Term) (hn : fs.length = l.length) (hc : FormsIn S w A fs) (hl : ∀ (i : Nat) (f : Fm) (t : Term), fs[i]? = some f → l[i]? = some t → FIs S w f t)
    (H : ∀ (i : Nat) (f : Fm) (t : Term), fs[i]? = some f → l[i]? = some t → PrintC w f t) : PrintC w (wOr, .slice A l.length c, .slice none 0 0) (.either l) := by
  intro lv w1 hlv hb hN
  have HLV : Hid (lv ≤ 2) := hlv
  have HTX : Hid (textT (.either l) = Lib.join (textsE l) [32, 111, 114, 32]) := by show _ = _; rw [textT]
  have HJL : Hid ((Lib.join (textsE l) [32, 111, 114, 32]).length ≤ 65536) := by
    have h1 := hN.out
    have h2 := (brIf_len ((decide (lv = 2) && isC (.either l)) || (decide (lv = 1) && isE (.either l))) (textT (.either l))).1
    have h3 : printT lv (.either l) = brIf ((decide (lv = 2) && isC (.either l)) || (decide (lv = 1) && isE (.either l))) (textT (.either l)) := rfl
    rw [h3] at h1
    rw [HTX.out] at h1 h2
    show _ ≤ _
    omega
  have HEL : Hid ((textsE l).length = l.length ∧ ∀ k (h : k < l.length), (textsE l)[k]? = some (printT 0 l[k])) := by
    refine ⟨by rw [textsE_map, List.length_map], fun k h => ?_⟩
    rw [textsE_map, List.getElem?_map, List.getElem?_eq_getElem h, print0]
    rfl
  obtain ⟨xs, hxs⟩ : ∃ xs, textsE l = xs := ⟨_, rfl⟩
  rw [hxs] at HTX HJL HEL
  have HFS : Hid (∀ k (h : k < l.length), ∃ fo Au nu cu Aw nw cw b o, A = some ⟨b, o, none⟩ ∧ (∀ w', Below w.heap.size w w' → w'.cell? ⟨b, o + k * 3, none⟩ = some (.string (str fo)) ∧ w'.cell? ⟨b, o + k * 3 + 1, none⟩ = some (.slice Au nu cu) ∧ w'.cell? ⟨b, o + k * 3 + 2, none⟩ = some (.slice Aw nw cw)) ∧
      ∀ w', Below w.heap.size w w' → (printT 0 l[k]).length ≤ 65536 → Calls Tryz.prog 12 #[.agg #[.string (str fo), .slice Au nu cu, .slice Aw nw cw], .int .i64 0] w' (TextPost (printT 0 l[k]) w')) := fun k h => by
    have hk : k < fs.length := by omega
    obtain ⟨⟨Au, nu, cu, hu⟩, ⟨Aw, nw, cw, hw2⟩⟩ := form_slices (hl k _ _ (List.getElem?_eq_getElem hk) (List.getElem?_eq_getElem h))
    obtain ⟨b, o, e, _, _⟩ := cell_of hc (Below.refl _ _) k hk
    refine ⟨fs[k].1, Au, nu, cu, Aw, nw, cw, b, o, e, fun w' hb' => ?_, fun w' hb' hlen => ?_⟩
    · obtain ⟨b', o', e', _, h3⟩ := cell_of hc hb' k hk
      rw [e] at e'
      cases e'
      exact ⟨h3.1, by rw [← hu]; exact h3.2.1, by rw [← hw2]; exact h3.2.2⟩
    · have h4 := H k _ _ (List.getElem?_eq_getElem hk) (List.getElem?_eq_getElem h) 0 w' (by decide) hb' hlen
      unfold fval at h4
      rw [hu, hw2] at h4
      exact h4
  obtain ⟨n, hn1⟩ : ∃ n, l.length = n := ⟨_, rfl⟩
  have HNL := Lib.hid hn1
  have HN9 : Hid (n ≤ 65537) := by
    have h1 := (join_len [32, 111, 114, 32] xs).2
    have h2 := HJL.out
    rw [HEL.out.1, hn1] at h1
    simp only [List.length_cons, List.length_nil] at h1
    show _ ≤ _
    omega
  rw [hn1]
  rw [show fval (wOr, .slice A n c, .slice none 0 0) = .agg #[.string ⟨#[111, 114]⟩, .slice A n c, .slice none 0 0] from rfl]
  clear hn hc hl H hxs hn1 hlv hN
  go_enter Tryz.func12, Tryz.ntmps12
  go_upto_region 1 with (fail)
  have hal : Below w1.heap.size w1 (w1.alloc (.cells #[.string ⟨#[111, 114]⟩, .slice A n c, .slice none 0 0] 39)) := (Below.refl _ _).alloc (Nat.le_refl _) _
  obtain ⟨B, hB⟩ : ∃ B, w1.heap.size = B := ⟨_, rfl⟩
  have HB := Lib.hid hB
  refine gen_world (fun w' => Hid (Below w1.heap.size w1 w') ∧ Hid (Blk w' w1.heap.size #[.string ⟨#[111, 114]⟩, .slice A n c, .slice none 0 0] 39)) ⟨hal, Blk.new w1 _ 39⟩ ?_
  clear hal hB
  rw [HB.out]
  rintro w2 ⟨hb2, hk2⟩
  have c0 : w2.cell? ⟨B, 0, none⟩ = some (.string ⟨#[111, 114]⟩) := (hk2.out.cell 0).trans rfl
  go_upto_region 11 with (fail)
  clear c0
  go_wp2_with fail
  go_loopg [5, 7] n (fun g s i wr => ∃ (k : Nat), g = n - k ∧ k ≤ n ∧ i = .int .i64 k ∧ s = .string (str (Lib.join (xs.take k) [32, 111, 114, 32])) ∧ Hid (Below B w1 wr) ∧ Hid (Blk wr B #[.string ⟨#[111, 114]⟩, .slice A n c, .slice none 0 0] 39))
  case atStart => exact ⟨0, rfl, Nat.zero_le _, rfl, rfl, hb2, hk2⟩
  case round =>
    obtain ⟨k, rfl, hk, rfl, rfl, hbw, hkw⟩ := hrel
    have k9 : (k : Int) ≤ 65537 := by have := HN9.out; omega
    have k0 : (0 : Int) ≤ (k : Int) := by omega
    have c0 : wr.cell? ⟨B, 0, none⟩ = some (.string ⟨#[111, 114]⟩) := (hkw.out.cell 0).trans rfl
    have c1 : wr.cell? ⟨B, 1, none⟩ = some (.slice A n c) := (hkw.out.cell 1).trans rfl
    have HBW : Hid (Below w.heap.size w wr) := hb.out.trans (hbw.out.mono (by rw [← HB.out]; exact hb.out.size))
    by_cases hlt : k < n
    · have hlti : (k : Int) < (n : Int) := by omega
      have HLT := Lib.hid hlt
      obtain ⟨fo, Au, nu, cu, Aw, nw, cw, b, o, hA, hcs, hcl⟩ := HFS.out k (by rw [HNL.out]; exact hlt)
      subst hA
      obtain ⟨q0, q1, q2⟩ := hcs wr HBW.out
      have hkx : k < xs.length := by rw [HEL.out.1, HNL.out]; exact hlt
      have hx0 := HEL.out.2 k (by rw [HNL.out]; exact hlt)
      rw [List.getElem?_eq_getElem hkx] at hx0
      obtain ⟨p, hp⟩ : ∃ p, printT 0 (l[k]'(by rw [HNL.out]; exact hlt)) = p := ⟨_, rfl⟩
      rw [hp] at hx0 hcl
      have hx : xs[k] = p := Option.some.inj hx0
      have HSN : Hid (Lib.join (xs.take (k + 1)) [32, 111, 114, 32] = if xs.take k = [] then p else Lib.join (xs.take k) [32, 111, 114, 32] ++ ([32, 111, 114, 32] ++ p)) := by show _ = _; rw [List.take_succ_eq_append_getElem hkx, hx, join_snoc]
      have hjl := join_take_len [32, 111, 114, 32] xs (k + 1)
      have HJK : Hid ((Lib.join (xs.take (k + 1)) [32, 111, 114, 32]).length ≤ 65536) := Nat.le_trans hjl HJL.out
      have hpl : p.length ≤ 65536 := by rw [← hx]; exact Nat.le_trans ((join_len [32, 111, 114, 32] xs).1 _ (List.getElem_mem hkx)) HJL.out
      have HCL := Lib.hid (hcl wr HBW.out hpl)
      have HNIL : Hid (xs.take k = [] ↔ k = 0) := ⟨fun h => by have h2 := congrArg List.length h; rw [List.length_take] at h2; have h2 : min k xs.length = 0 := h2; omega, fun h => by subst h; rfl⟩
      clear hcs hcl hx0 hp hjl hpl hlt hk
      clear hx
      clear hkx
      by_cases h0 : k = 0
      · have HS1 : Hid (str (Lib.join (xs.take (k + 1)) [32, 111, 114, 32]) = str (Lib.join (xs.take k) [32, 111, 114, 32]) ++ str p) := by
          show _ = _
          rw [HSN.out, if_pos (HNIL.out.2 h0), HNIL.out.2 h0, str_append]
          rfl
        have kn : ¬ ((0 : Int) < (k : Int)) := by omega
        have m1 : ¬ (9223372036854775807 < (str (Lib.join (xs.take k) [32, 111, 114, 32])).size + (str p).size) := by have h1 := congrArg ByteArray.size HS1.out; have h2 := HJK.out; rw [str_append, str_size, str_size, List.length_append] at h1; rw [str_size, str_size]; omega
        clear h0
        generalize Lib.join (xs.take k) [32, 111, 114, 32] = jk at *
        go_wp2_with fail
        refine HCL.out.mono ?_
        rintro e w4 ⟨rfl, hb4⟩
        go_wp2_with fail
        go_roundg (n - (k + 1))
        case measure => have := HLT.out; omega
        case rel => exact ⟨k + 1, rfl, HLT.out, by go_num, by rw [HS1.out], hbw.out.trans (hb4.out.mono (by have := hkw.out.lt; omega)), hkw.out.below hb4.out hkw.out.lt⟩
      · have HS1 : Hid (str (Lib.join (xs.take (k + 1)) [32, 111, 114, 32]) = str (Lib.join (xs.take k) [32, 111, 114, 32]) ++ ⟨#[32]⟩ ++ ⟨#[111, 114]⟩ ++ ⟨#[32]⟩ ++ str p) := by
          show _ = _
          rw [HSN.out, if_neg (fun h => h0 (HNIL.out.1 h)), show (⟨#[32]⟩ : ByteArray) = str [32] from rfl, show (⟨#[111, 114]⟩ : ByteArray) = str [111, 114] from rfl, str_append, str_append, str_append, str_append]
          simp
        have kn : (0 : Int) < (k : Int) := by omega
        have hsz : (str (Lib.join (xs.take k) [32, 111, 114, 32])).size + 1 + 2 + 1 + (str p).size ≤ 65536 := by
          have h1 := congrArg ByteArray.size HS1.out
          have h2 := HJK.out
          rw [show (⟨#[32]⟩ : ByteArray) = str [32] from rfl, show (⟨#[111, 114]⟩ : ByteArray) = str [111, 114] from rfl, str_append, str_append, str_append, str_append, str_size, str_size] at h1
          rw [str_size, str_size]
          simp at h1
          omega
        have m1 : ¬ (9223372036854775807 < (str (Lib.join (xs.take k) [32, 111, 114, 32])).size + 1) := by omega
        have m2 : ¬ (9223372036854775807 < (str (Lib.join (xs.take k) [32, 111, 114, 32])).size + 1 + 2) := by omega
        have m3 : ¬ (9223372036854775807 < (str (Lib.join (xs.take k) [32, 111, 114, 32])).size + 1 + 2 + 1) := by omega
        have m4 : ¬ (9223372036854775807 < (str (Lib.join (xs.take k) [32, 111, 114, 32])).size + 1 + 2 + 1 + (str p).size) := by omega
        clear h0 hsz
        generalize Lib.join (xs.take k) [32, 111, 114, 32] = jk at *
        go_wp2_with fail
        refine HCL.out.mono ?_
        rintro e w4 ⟨rfl, hb4⟩
        go_wp2_with fail
        go_roundg (n - (k + 1))
        case measure => have := HLT.out; omega
        case rel => exact ⟨k + 1, rfl, HLT.out, by go_num, by rw [HS1.out], hbw.out.trans (hb4.out.mono (by have := hkw.out.lt; omega)), hkw.out.below hb4.out hkw.out.lt⟩
    · have hlti : ¬ ((k : Int) < (n : Int)) := by omega
      have HK : xs.take k = xs := List.take_of_length_le (by rw [HEL.out.1, HNL.out]; omega)
      rw [HK]
      have hbw : Hid (Below w1.heap.size w1 wr) := by rw [HB.out]; exact hbw
      have hlv3 : lv = 0 ∨ lv = 1 ∨ lv = 2 := by have := HLV.out; omega
      clear hlt hk HK
      rcases hlv3 with rfl | rfl | rfl
      · have HPX : Hid (printT 0 (.either l) = Lib.join xs [32, 111, 114, 32]) := by show _ = _; rw [show printT 0 (.either l) = textT (.either l) from rfl, HTX.out]
        generalize Lib.join xs [32, 111, 114, 32] = jj at *
        go_wp2_with fail
        go_ret
        exact ⟨by rw [HPX.out]; rfl, hbw⟩
      · have HPX : Hid (str (printT 1 (.either l)) = ⟨#[40, 32]⟩ ++ str (Lib.join xs [32, 111, 114, 32]) ++ ⟨#[32, 41]⟩) := by
          show _ = _
          rw [show printT 1 (.either l) = br (textT (.either l)) from rfl, HTX.out, show (⟨#[40, 32]⟩ : ByteArray) = str [40, 32] from rfl, show (⟨#[32, 41]⟩ : ByteArray) = str [32, 41] from rfl, str_append, str_append]
          rfl
        have n7 : ¬ (9223372036854775807 < 2 + (str (Lib.join xs [32, 111, 114, 32])).size) := by have := HJL.out; rw [str_size]; omega
        have n8 : ¬ (9223372036854775807 < 2 + (str (Lib.join xs [32, 111, 114, 32])).size + 2) := by have := HJL.out; rw [str_size]; omega
        generalize Lib.join xs [32, 111, 114, 32] = jj at *
        go_wp2_with fail
        go_ret
        exact ⟨by rw [HPX.out]; rfl, hbw⟩
      · have HPX : Hid (str (printT 2 (.either l)) = ⟨#[40, 32]⟩ ++ str (Lib.join xs [32, 111, 114, 32]) ++ ⟨#[32, 41]⟩) := by
          show _ = _
          rw [show printT 2 (.either l) = br (textT (.either l)) from rfl, HTX.out, show (⟨#[40, 32]⟩ : ByteArray) = str [40, 32] from rfl, show (⟨#[32, 41]⟩ : ByteArray) = str [32, 41] from rfl, str_append, str_append]
          rfl
        have n7 : ¬ (9223372036854775807 < 2 + (str (Lib.join xs [32, 111, 114, 32])).size) := by have := HJL.out; rw [str_size]; omega
        have n8 : ¬ (9223372036854775807 < 2 + (str (Lib.join xs [32, 111, 114, 32])).size + 2) := by have := HJL.out; rw [str_size]; omega
        generalize Lib.join xs [32, 111, 114, 32] = jj at *
        go_wp2_with fail
        go_ret
        exact ⟨by rw [HPX.out]; rfl, hbw⟩
theorem print_all {S : Nat → Prop} {w : World} {op : W} {vu vw : Value} {t : Term} (h : FormIs S w op vu vw t) : PrintC w (op, vu, vw) t := by
  induction h with
  | leaf A c h hw hs => exact print_term A c h hw hs
  | not A c f h hc ih => exact print_not A c f h hc ih
  | has A c f h hc ih => exact print_has A c f h hc ih
  | both A c fs l hn hc hl ih => exact print_both A c fs l hn hc hl ih
  | either A c fs l hn hc hl ih => exact print_either A c fs l hn hc hl ih
end Go.Proofs.YtcdhkeahcliefaaGreatDoor.RefP
