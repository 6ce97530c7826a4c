/- The document's term. -/
import Derived.Test.YtcdhkeahcliefaaGreatDoorPrint30
import Derived.Test.YtcdhkeahcliefaaGreatDoorPrint19
import Derived.Test.YtcdhkeahcliefaaGreatDoorPrint31
import Derived.Test.YtcdhkeahcliefaaGreatDoorPrint10
namespace Go.Proofs.YtcdhkeahcliefaaGreatDoor.RefO
open Go.ChangeShapes Go.WideShapes Go.ChangeAt Go.RowKit
open Go.Proofs.YtcdhkeahcliefaaGreatDoor.Kit Go.Proofs.YtcdhkeahcliefaaGreatDoor.Base Go.Proofs.YtcdhkeahcliefaaGreatDoor.Quo Go.Proofs.YtcdhkeahcliefaaGreatDoor.Term Go.Proofs.YtcdhkeahcliefaaGreatDoor.Syn Go.Proofs.YtcdhkeahcliefaaGreatDoor.Text Go.Proofs.YtcdhkeahcliefaaGreatDoor.TokB Go.Proofs.YtcdhkeahcliefaaGreatDoor.TokC Go.Proofs.YtcdhkeahcliefaaGreatDoor.Path Go.Proofs.YtcdhkeahcliefaaGreatDoor.PathB Go.Proofs.YtcdhkeahcliefaaGreatDoor.PathF Go.Proofs.YtcdhkeahcliefaaGreatDoor.RefA
open Go.Proofs.YtcdhkeahcliefaaGreatDoor.RefC (first_at second_at add_zero)
set_option linter.unusedVariables false

theorem quoteR_at (x : W) (hx : Hid (x.length ≤ 65536)) (c n : Nat) (w : World) (hn : w.heap.size = n) : Calls Tryz.prog 46 #[.slice (some ⟨n, 0, none⟩) x.length c] (Lib.bytesWorld w 5 (str x)) (TextPost (quo x) w) := by
  subst hn
  refine (QuoB.quoteR_any (some ⟨w.heap.size, 0, none⟩) x.length c x (Lib.bytesWorld w 5 (str x)) rfl (by have := hx.out; omega) (bytes_conv x w)).mono ?_
  rintro e w' ⟨rfl, hb⟩
  exact ⟨rfl, (below_bytes w (str x)).trans (hb.out.mono (below_bytes w (str x)).size)⟩
def wKind : W := [107, 105, 110, 100]
def wUnder : W := [117, 110, 100, 101, 114]
def wSame : W := [115, 97, 109, 101]
/-- what a term's words are -/
inductive TW (x : W) (r : List W) (t : Term) : Prop where
  | one (h : r = []) (ht : textT t = x)
  | field (a b : W) (h : r = [a, b]) (hb : isNum b = true) (ht : t = .field x a (numV b))
  | kind (a : W) (h : r = [a]) (hx : x = wKind) (ht : t = .kind a)
  | under (a : W) (h : r = [a]) (hx : x = wUnder) (h0 : splitErr a = 0) (ht : t = .under (pathText (partsOf a)))
  | same (a : W) (h : r = [a]) (hx : x = wSame) (h0 : splitErr a = 0) (ht : t = .same (pathText (partsOf a)))
  | other (a : W) (h : r = [a]) (h1 : x ≠ wKind) (h2 : x ≠ wUnder) (h3 : x ≠ wSame) (ht : textT t = x ++ [32] ++ quo a)
theorem leaf_words {x : W} {r : List W} {t : Term} (h : leaf x r = .ok (t, r.length)) : TW x r t := by
  unfold leaf at h
  split at h
  · rename_i hf
    match r, h with
    | [], h => cases h
    | [a], h => cases h
    | a :: b :: r, h =>
      have h : (if a ∈ cmps then (if isNum b = true then (.ok (.field x a (numV b), 2) : Except Int (Term × Nat)) else .error 191) else .error 191) = .ok (t, (a :: b :: r).length) := h
      split at h
      · split at h
        · rename_i hb
          injection h with h
          injection h with h1 h2
          have h3 : 2 = r.length + 1 + 1 := h2
          have : r = [] := List.eq_nil_of_length_eq_zero (by omega)
          subst this
          exact .field a b rfl hb h1.symm
        · cases h
      · cases h
  split at h
  · rename_i hx
    injection h with h
    injection h with h1 h2
    exact .one (List.eq_nil_of_length_eq_zero h2.symm) (by rw [← h1, textT, hx])
  split at h
  · rename_i hx
    injection h with h
    injection h with h1 h2
    exact .one (List.eq_nil_of_length_eq_zero h2.symm) (by rw [← h1, textT, hx])
  split at h
  · rename_i hx
    injection h with h
    injection h with h1 h2
    exact .one (List.eq_nil_of_length_eq_zero h2.symm) (by rw [← h1, textT, hx])
  match r, h with
  | [], h => cases h
  | a :: r, h =>
    have hr : ∀ {t' : Term}, (.ok (t', 1) : Except Int (Term × Nat)) = .ok (t, (a :: r).length) → t = t' ∧ a :: r = [a] := fun {t'} h => by
      injection h with h
      injection h with h1 h2
      have h3 : 1 = r.length + 1 := h2
      exact ⟨h1.symm, by rw [List.eq_nil_of_length_eq_zero (show r.length = 0 by omega)]⟩
    dsimp only at h
    split at h
    · rename_i hx
      split at h
      · cases h
      · obtain ⟨h1, h2⟩ := hr h
        exact .kind a h2 hx h1
    split at h
    · rename_i hk hx
      split at h
      · obtain ⟨h1, h2⟩ := hr h
        exact .other a h2 hk (fun e => by subst e; revert hx; decide) (fun e => by subst e; revert hx; decide) (by rw [h1, textT])
      · cases h
    split at h
    · rename_i hx
      split at h
      · rename_i h0
        obtain ⟨h1, h2⟩ := hr h
        exact .under a h2 hx h0 h1
      · cases h
    split at h
    · rename_i hx
      split at h
      · rename_i h0
        obtain ⟨h1, h2⟩ := hr h
        exact .same a h2 hx h0 h1
      · cases h
    split at h
    · rename_i hk _ hu hs hx
      split at h
      · cases h
      · obtain ⟨h1, h2⟩ := hr h
        exact .other a h2 hk hu hs (by rw [h1, textT])
    · cases h
set_option maxRecDepth 100000 in
set_option maxHeartbeats 6400000 in
theorem term_one (x : W) (A : Option Addr) (c : Nat) (w : World) (hs : Hid (Strs w A ([x].map str))) : Calls Tryz.prog 24 #[.slice A 1 c] w (TextPost x w) := by
  obtain ⟨ad, hA, c0⟩ := hs.out 0 (by simp)
  have c0 : w.cell? ad = some (.string (str x)) := c0
  subst hA
  go_enter Tryz.func24, Tryz.ntmps24
  go_wp2_with fail
  go_ret
  exact ⟨rfl, Below.refl _ _⟩
set_option maxRecDepth 100000 in
set_option maxHeartbeats 6400000 in
theorem term_kind (a : W) (A : Option Addr) (c : Nat) (w : World) (hs : Hid (Strs w A ([wKind, a].map str))) (hN : Hid ((textT (.kind a)).length ≤ 65536)) : Calls Tryz.prog 24 #[.slice A 2 c] w (TextPost (textT (.kind a)) w) := by
  obtain ⟨ad, hA, c0⟩ := first_at hs.out
  rw [add_zero] at c0
  obtain ⟨ad', hA', c1⟩ := second_at hs.out
  rw [hA] at hA'
  cases hA'
  subst hA
  have HX : Hid (textT (.kind a) = [107, 105, 110, 100, 32] ++ a) := by show _ = _; rw [textT]
  have n1 : ¬ (9223372036854775807 < 5 + (str a).size) := by have h := hN.out; rw [HX.out] at h; simp at h; rw [str_size]; omega
  rw [show str wKind = ⟨#[107, 105, 110, 100]⟩ from rfl] at c0
  go_enter Tryz.func24, Tryz.ntmps24
  go_wp2_with fail
  go_ret
  exact ⟨by rw [HX.out, ← str_append]; rfl, Below.refl _ _⟩
set_option maxRecDepth 100000 in
set_option maxHeartbeats 6400000 in
theorem term_under (a : W) (A : Option Addr) (c : Nat) (w : World) (hs : Hid (Strs w A ([wUnder, a].map str))) (h0 : splitErr a = 0) (ha : a.length ≤ 1023) (hN : Hid ((textT (.under (pathText (partsOf a)))).length ≤ 65536)) : Calls Tryz.prog 24 #[.slice A 2 c] w (TextPost (textT (.under (pathText (partsOf a)))) w) := by
  obtain ⟨ad, hA, c0⟩ := first_at hs.out
  rw [add_zero] at c0
  obtain ⟨ad', hA', c1⟩ := second_at hs.out
  rw [hA] at hA'
  cases hA'
  subst hA
  have HX : Hid (textT (.under (pathText (partsOf a))) = [117, 110, 100, 101, 114] ++ [32] ++ quo (pathText (partsOf a))) := by show _ = _; rw [textT]; rfl
  have hq := quo_len (pathText (partsOf a))
  have hx : Hid ((pathText (partsOf a)).length ≤ 65536) := by have h := hN.out; rw [HX.out] at h; simp at h; show _ ≤ _; omega
  have n2 : ¬ (9223372036854775807 < 5 + 1 + (str (quo (pathText (partsOf a)))).size) := by have h := hN.out; rw [HX.out] at h; simp at h; rw [str_size]; omega
  have n3 : ¬ (9223372036854775807 < 6 + (str (quo (pathText (partsOf a)))).size) := by have h := hN.out; rw [HX.out] at h; simp at h; rw [str_size]; omega
  have HT := Lib.hid (textR_any a w ha h0)
  generalize pathText (partsOf a) = p at *
  rw [show str wUnder = ⟨#[117, 110, 100, 101, 114]⟩ from rfl] at c0
  have C0 := Lib.hid c0
  clear hq h0 ha hN
  go_enter Tryz.func24, Tryz.ntmps24
  go_wp2_with fail
  refine HT.out.mono ?_
  rintro e w1 ⟨rfl, hb1⟩
  have c0 : w1.cell? ad = some (.string ⟨#[117, 110, 100, 101, 114]⟩) := (hb1.out.cell (World.block_lt_of_cell? w _ C0.out)).trans C0.out
  clear c1
  go_upto_region 9 with (fail)
  have hcv := fun W1 => conv_str 9 Tryz.underlying9 p W1
  have HLT := Lib.hid (World.block_lt_of_cell? w1 _ c0)
  have b0 : (Lib.bytesWorld w1.drew 5 (str p)).cell? ad = some (.string ⟨#[117, 110, 100, 101, 114]⟩) := ((below_bytes w1.drew (str p)).cell HLT.out).trans c0
  go_region_with (first | (go_at_call 46; go_loud (refine (quoteR_at p hx _ _ _ (by first | rfl | simp)).mono ?_); rintro e wx ⟨rfl, hb⟩; have d0 : wx.cell? ad = some (.string ⟨#[117, 110, 100, 101, 114]⟩) := (hb.out.cell HLT.out).trans c0))
  all_goals (go_wp2_with fail; go_ret; exact ⟨by rw [HX.out, ← str_append, ← str_append]; rfl, hb1.out.drew.trans (hb.out.mono hb1.out.size)⟩)
set_option maxRecDepth 100000 in
set_option maxHeartbeats 6400000 in
theorem term_same (a : W) (A : Option Addr) (c : Nat) (w : World) (hs : Hid (Strs w A ([wSame, a].map str))) (h0 : splitErr a = 0) (ha : a.length ≤ 1023) (hN : Hid ((textT (.same (pathText (partsOf a)))).length ≤ 65536)) : Calls Tryz.prog 24 #[.slice A 2 c] w (TextPost (textT (.same (pathText (partsOf a)))) w) := by
  obtain ⟨ad, hA, c0⟩ := first_at hs.out
  rw [add_zero] at c0
  obtain ⟨ad', hA', c1⟩ := second_at hs.out
  rw [hA] at hA'
  cases hA'
  subst hA
  have HX : Hid (textT (.same (pathText (partsOf a))) = [115, 97, 109, 101] ++ [32] ++ quo (pathText (partsOf a))) := by show _ = _; rw [textT]; rfl
  have hq := quo_len (pathText (partsOf a))
  have hx : Hid ((pathText (partsOf a)).length ≤ 65536) := by have h := hN.out; rw [HX.out] at h; simp at h; show _ ≤ _; omega
  have n2 : ¬ (9223372036854775807 < 4 + 1 + (str (quo (pathText (partsOf a)))).size) := by have h := hN.out; rw [HX.out] at h; simp at h; rw [str_size]; omega
  have n3 : ¬ (9223372036854775807 < 5 + (str (quo (pathText (partsOf a)))).size) := by have h := hN.out; rw [HX.out] at h; simp at h; rw [str_size]; omega
  have HT := Lib.hid (textR_any a w ha h0)
  generalize pathText (partsOf a) = p at *
  rw [show str wSame = ⟨#[115, 97, 109, 101]⟩ from rfl] at c0
  have C0 := Lib.hid c0
  clear hq h0 ha hN
  go_enter Tryz.func24, Tryz.ntmps24
  go_wp2_with fail
  refine HT.out.mono ?_
  rintro e w1 ⟨rfl, hb1⟩
  have c0 : w1.cell? ad = some (.string ⟨#[115, 97, 109, 101]⟩) := (hb1.out.cell (World.block_lt_of_cell? w _ C0.out)).trans C0.out
  clear c1
  go_upto_region 9 with (fail)
  have hcv := fun W1 => conv_str 9 Tryz.underlying9 p W1
  have HLT := Lib.hid (World.block_lt_of_cell? w1 _ c0)
  have b0 : (Lib.bytesWorld w1.drew 5 (str p)).cell? ad = some (.string ⟨#[115, 97, 109, 101]⟩) := ((below_bytes w1.drew (str p)).cell HLT.out).trans c0
  go_region_with (first | (go_at_call 46; go_loud (refine (quoteR_at p hx _ _ _ (by first | rfl | simp)).mono ?_); rintro e wx ⟨rfl, hb⟩; have d0 : wx.cell? ad = some (.string ⟨#[115, 97, 109, 101]⟩) := (hb.out.cell HLT.out).trans c0))
  all_goals (go_wp2_with fail; go_ret; exact ⟨by rw [HX.out, ← str_append, ← str_append]; rfl, hb1.out.drew.trans (hb.out.mono hb1.out.size)⟩)
set_option maxRecDepth 100000 in
set_option maxHeartbeats 6400000 in
theorem term_other (x a : W) (t : Term) (A : Option Addr) (c : Nat) (w : World) (hs : Hid (Strs w A ([x, a].map str))) (h1 : x ≠ wKind) (h2 : x ≠ wUnder) (h3 : x ≠ wSame) (ht : textT t = x ++ [32] ++ quo a) (hN : Hid ((textT t).length ≤ 65536)) : Calls Tryz.prog 24 #[.slice A 2 c] w (TextPost (textT t) w) := by
  obtain ⟨ad, hA, c0⟩ := first_at hs.out
  rw [add_zero] at c0
  obtain ⟨ad', hA', c1⟩ := second_at hs.out
  rw [hA] at hA'
  cases hA'
  subst hA
  have HX := Lib.hid ht
  have hq := quo_len a
  have hx : Hid (a.length ≤ 65536) := by have h := hN.out; rw [HX.out] at h; simp at h; show _ ≤ _; omega
  have n1 : ¬ (9223372036854775807 < (str x).size + 1) := by have h := hN.out; rw [HX.out] at h; simp at h; rw [str_size]; omega
  have n2 : ¬ (9223372036854775807 < (str x).size + 1 + (str (quo a)).size) := by have h := hN.out; rw [HX.out] at h; simp at h; rw [str_size, str_size]; omega
  have e1 := ne_list h1
  have e2 := ne_list h2
  have e3 := ne_list h3
  rw [show wKind = [107, 105, 110, 100] from rfl] at e1
  rw [show wUnder = [117, 110, 100, 101, 114] from rfl] at e2
  rw [show wSame = [115, 97, 109, 101] from rfl] at e3
  have C0 := Lib.hid c0
  clear hq h1 h2 h3 ht
  go_enter Tryz.func24, Tryz.ntmps24
  go_upto_region 10 with (fail)
  clear e1 e2 e3
  have hcv := fun W1 => conv_str 9 Tryz.underlying9 a W1
  have HLT := Lib.hid (World.block_lt_of_cell? w _ c0)
  have b0 : (Lib.bytesWorld w.drew 5 (str a)).cell? ad = some (.string (str x)) := ((below_bytes w.drew (str a)).cell HLT.out).trans c0
  go_region_with (first | (go_at_call 46; go_loud (refine (quoteR_at a hx _ _ _ (by first | rfl | simp)).mono ?_); rintro e wx ⟨rfl, hb⟩; have d0 : wx.cell? ad = some (.string (str x)) := (hb.out.cell HLT.out).trans C0.out))
  all_goals (go_wp2_with fail; go_ret; exact ⟨by rw [HX.out, ← str_append, ← str_append]; rfl, (below_drew w).trans hb.out⟩)
set_option maxRecDepth 100000 in
set_option maxHeartbeats 6400000 in
theorem term_field (x a b : W) (A : Option Addr) (c : Nat) (w : World) (hs : Hid (Strs w A ([x, a, b].map str))) (hb : isNum b = true) (hN : Hid ((textT (.field x a (numV b))).length ≤ 65536)) : Calls Tryz.prog 24 #[.slice A 3 c] w (TextPost (textT (.field x a (numV b))) w) := by
  obtain ⟨ad, hA, c0⟩ := first_at hs.out
  rw [add_zero] at c0
  obtain ⟨ad', hA', c1⟩ := second_at hs.out
  rw [hA] at hA'
  cases hA'
  subst hA
  obtain ⟨ad', hA', c2⟩ := hs.out 2 (by simp)
  cases hA'
  have c2 : w.cell? ⟨ad.block, ad.off + 2, none⟩ = some (.string (str b)) := c2
  have HX : Hid (textT (.field x a (numV b)) = x ++ [32] ++ a ++ [32] ++ Lib.itoa (numV b : Nat)) := by show _ = _; rw [textT]
  have n1 : ¬ (9223372036854775807 < (str x).size + 1) := by have h := hN.out; rw [HX.out] at h; simp at h; rw [str_size]; omega
  have n2 : ¬ (9223372036854775807 < (str x).size + 1 + (str a).size) := by have h := hN.out; rw [HX.out] at h; simp at h; rw [str_size, str_size]; omega
  have n3 : ¬ (9223372036854775807 < (str x).size + 1 + (str a).size + 1) := by have h := hN.out; rw [HX.out] at h; simp at h; rw [str_size, str_size]; omega
  have n4 : ¬ (9223372036854775807 < (str x).size + 1 + (str a).size + 1 + (str (Lib.itoa (numV b : Nat))).size) := by have h := hN.out; rw [HX.out] at h; simp at h; rw [str_size, str_size, str_size]; omega
  have HNR : Hid (numR b = (numV b : Int)) := by show _ = _; unfold numR; rw [hb]; rfl
  have HNS : Hid (numV b ≤ 999999999) := TermF.num_small hb
  have HNUM : Hid (∀ W1, Calls Tryz.prog 44 #[.string (str b)] W1 fun e w' => e = .returned (.int .i64 (numV b : Int)) ∧ w' = W1) := fun W1 => by rw [← HNR.out]; exact numR_any b W1
  have HDEC : Hid (∀ W1, Calls Tryz.prog 43 #[.int .i64 (numV b : Int)] W1 (TextPost (Lib.itoa (numV b : Nat)) W1)) := fun W1 => decimal_any (numV b) W1 HNS.out
  generalize numV b = v at *
  have C0 := Lib.hid c0
  have C1 := Lib.hid c1
  have HL0 := Lib.hid (World.block_lt_of_cell? w _ c0)
  have HL1 := Lib.hid (show (⟨ad.block, ad.off + 1, none⟩ : Addr).block < w.heap.size from World.block_lt_of_cell? w _ c1)
  clear hb hN
  go_enter Tryz.func24, Tryz.ntmps24
  go_upto_region 4 with (fail)
  go_region_with (first | (go_at_call 44; go_loud (refine (HNUM.out _).mono ?_); rintro e wx ⟨rfl, rfl⟩) | (go_at_call 43; go_loud (refine (HDEC.out _).mono ?_); go_loud (rintro e wx ⟨rfl, hb⟩); go_loud (have d0 : wx.cell? ad = some (.string (str x)) := (hb.out.cell HL0.out).trans C0.out); go_loud (have d1 : wx.cell? ⟨ad.block, ad.off + 1, none⟩ = some (.string (str a)) := ((hb.out.block ad.block HL1.out |> fun hh => by unfold World.cell?; rw [hh] : wx.cell? ⟨ad.block, ad.off + 1, none⟩ = w.drew.cell? ⟨ad.block, ad.off + 1, none⟩)).trans C1.out)))
  all_goals (go_wp2_with fail; go_ret; exact ⟨by rw [HX.out, ← str_append, ← str_append, ← str_append, ← str_append]; rfl, (below_drew w).trans hb.out⟩)
theorem term_any {x : W} {r : List W} {t : Term} (h : leaf x r = .ok (t, r.length)) (A : Option Addr) (c : Nat) (w : World) (hs : Hid (Strs w A ((x :: r).map str))) (hw : ∀ y ∈ r, y.length ≤ 1023) (hN : Hid ((textT t).length ≤ 65536)) : Calls Tryz.prog 24 #[.slice A (r.length + 1) c] w (TextPost (textT t) w) := by
  cases leaf_words h with
  | one h1 ht => subst h1; rw [ht]; exact term_one x A c w hs
  | field a b h1 hb ht => subst h1 ht; exact term_field x a b A c w hs hb hN
  | kind a h1 hx ht => subst h1 hx ht; exact term_kind a A c w hs hN
  | under a h1 hx h0 ht => subst h1 hx ht; exact term_under a A c w hs h0 (hw a (by simp)) hN
  | same a h1 hx h0 ht => subst h1 hx ht; exact term_same a A c w hs h0 (hw a (by simp)) hN
  | other a h1 q1 q2 q3 ht => subst h1; exact term_other x a t A c w hs q1 q2 q3 ht hN
end Go.Proofs.YtcdhkeahcliefaaGreatDoor.RefO
