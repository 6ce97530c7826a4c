/- The program's tight, joined: over the text of what is below. -/
import Derived.Test.YtcdhkeahcliefaaGreatDoorPrint26
import Derived.Test.YtcdhkeahcliefaaGreatDoorPrint21
import Derived.Test.YtcdhkeahcliefaaGreatDoorPrint06
namespace Go.Proofs.YtcdhkeahcliefaaGreatDoor.TextG
open Go.ChangeShapes Go.WideShapes Go.ChangeAt Go.RowKit
open Go.Proofs.YtcdhkeahcliefaaGreatDoor.Kit Go.Proofs.YtcdhkeahcliefaaGreatDoor.Base Go.Proofs.YtcdhkeahcliefaaGreatDoor.Quo Go.Proofs.YtcdhkeahcliefaaGreatDoor.Term Go.Proofs.YtcdhkeahcliefaaGreatDoor.Syn Go.Proofs.YtcdhkeahcliefaaGreatDoor.Text Go.Proofs.YtcdhkeahcliefaaGreatDoor.TextA Go.Proofs.YtcdhkeahcliefaaGreatDoor.Path
open Go.Proofs.YtcdhkeahcliefaaGreatDoor.ParseR (term_both term_either)
set_option linter.unusedVariables false
/-- a term by its type: both, either, or neither -/
theorem term_kind3 {S : Nat → Prop} {w : World} {v : Value} {t : Term} (h : TermIs S w v t) :
    (∃ x, v = .iface 45 x ∧ isC t = true ∧ isE t = false) ∨ (∃ x, v = .iface 43 x ∧ isC t = true ∧ isE t = true) ∨ (∃ T x, v = .iface T x ∧ T ≠ 45 ∧ T ≠ 43 ∧ isC t = false ∧ isE t = false) := by
  cases h with
  | both vs l hn hc hl => exact .inl ⟨_, rfl, rfl, rfl⟩
  | either vs l hn hc hl => exact .inr (.inl ⟨_, rfl, rfl, rfl⟩)
  | _ => exact .inr (.inr ⟨_, _, rfl, by decide, by decide, rfl, rfl⟩)
/-- the text of v is walked, in every world behind w -/
def TextC (w : World) (v : Value) (t : Term) : Prop := ∀ w', Hid (Below w.heap.size w w') → Hid (Tabs w') → Hid ((textT t).length ≤ 65536) → Calls Tryz.prog 8 #[v] w' (TextPost (textT t) w')
set_option maxRecDepth 100000 in
set_option maxHeartbeats 3200000 in
theorem tight_any {S : Nat → Prop} {w : World} {v : Value} {t : Term} (h : TermIs S w v t) (H : Hid (TextC w v t)) (w1 : World) (hb : Hid (Below w.heap.size w w1)) (ht : Hid (Tabs w1)) (hN : Hid ((brIf (isC t) (textT t)).length ≤ 65536)) :
    Calls Tryz.prog 15 #[v] w1 (TextPost (brIf (isC t) (textT t)) w1) := by
  have hl := brIf_len (isC t) (textT t)
  have HL : Hid ((textT t).length ≤ 65536) := by have := hN.out; show _ ≤ _; omega
  have HC := Lib.hid (H.out w1 hb ht HL)
  rcases term_kind3 h with ⟨x, rfl, hc, _⟩ | ⟨x, rfl, hc, _⟩ | ⟨T, x, rfl, h1, h2, hc, _⟩
  · have y45 : ∀ W, (Instr.typeAssert (.iface 45 x) 32 45 true).run Tryz.prog W = .ok (.tuple #[x, .bool true]) W := fun W => yes45 W _
    have n43 : ∀ W, (Instr.typeAssert (.iface 45 x) 32 43 true).run Tryz.prog W = .ok (.tuple #[.slice none 0 0, .bool false]) W := fun W => no43 W 45 _ (by decide)
    have HQ : Hid (str (brIf (isC t) (textT t)) = ⟨#[40, 32]⟩ ++ str (textT t) ++ ⟨#[32, 41]⟩) := by
      show _ = _
      rw [hc, show (⟨#[40, 32]⟩ : ByteArray) = str [40, 32] from rfl, show (⟨#[32, 41]⟩ : ByteArray) = str [32, 41] from rfl, str_append, str_append]
      rfl
    have n1 : ¬ (9223372036854775807 < 2 + (str (textT t)).size) := by have := HL.out; rw [str_size]; omega
    have n2 : ¬ (9223372036854775807 < 2 + (str (textT t)).size + 2) := by have := HL.out; rw [str_size]; omega
    clear hc hl
    generalize brIf (isC t) (textT t) = bt at *
    go_enter Tryz.func15, Tryz.ntmps15
    go_wp2_with fail
    refine HC.out.mono ?_
    rintro e w2 ⟨rfl, hb2⟩
    go_wp2_with fail
    go_ret
    exact ⟨by rw [HQ.out]; rfl, hb2⟩
  · have n45 : ∀ W, (Instr.typeAssert (.iface 43 x) 32 45 true).run Tryz.prog W = .ok (.tuple #[.slice none 0 0, .bool false]) W := fun W => no45 W 43 _ (by decide)
    have y43 : ∀ W, (Instr.typeAssert (.iface 43 x) 32 43 true).run Tryz.prog W = .ok (.tuple #[x, .bool true]) W := fun W => yes43 W _
    have HQ : Hid (str (brIf (isC t) (textT t)) = ⟨#[40, 32]⟩ ++ str (textT t) ++ ⟨#[32, 41]⟩) := by
      show _ = _
      rw [hc, show (⟨#[40, 32]⟩ : ByteArray) = str [40, 32] from rfl, show (⟨#[32, 41]⟩ : ByteArray) = str [32, 41] from rfl, str_append, str_append]
      rfl
    have n1 : ¬ (9223372036854775807 < 2 + (str (textT t)).size) := by have := HL.out; rw [str_size]; omega
    have n2 : ¬ (9223372036854775807 < 2 + (str (textT t)).size + 2) := by have := HL.out; rw [str_size]; omega
    clear hc hl
    generalize brIf (isC t) (textT t) = bt at *
    go_enter Tryz.func15, Tryz.ntmps15
    go_wp2_with fail
    refine HC.out.mono ?_
    rintro e w2 ⟨rfl, hb2⟩
    go_wp2_with fail
    go_ret
    exact ⟨by rw [HQ.out]; rfl, hb2⟩
  · have n45 : ∀ W, (Instr.typeAssert (.iface T x) 32 45 true).run Tryz.prog W = .ok (.tuple #[.slice none 0 0, .bool false]) W := fun W => no45 W T _ h1
    have n43 : ∀ W, (Instr.typeAssert (.iface T x) 32 43 true).run Tryz.prog W = .ok (.tuple #[.slice none 0 0, .bool false]) W := fun W => no43 W T _ h2
    have HX : Hid (brIf (isC t) (textT t) = textT t) := by show _ = _; rw [hc]; rfl
    rw [HX.out] at hN ⊢
    clear hc hl h1 h2
    go_enter Tryz.func15, Tryz.ntmps15
    go_wp2_with fail
    refine HC.out.mono ?_
    rintro e w2 ⟨rfl, hb2⟩
    go_wp2_with fail
    go_ret
    exact ⟨rfl, hb2⟩
theorem join_any (xs : List W) (s : ByteArray) : Lib.join ((xs.map str).map (·.data.toList)) s.data.toList = Lib.join xs s.data.toList := by
  rw [List.map_map]
  congr 1
  conv => rhs; rw [← List.map_id xs]
  refine List.map_congr_left (fun p _ => ?_)
  exact str_list p
set_option maxRecDepth 100000 in
set_option maxHeartbeats 3200000 in
theorem joined_or (w : World) (A : Option Addr) (c : Nat) (vs : List Value) (l : List Term) {S : Nat → Prop} (hn : vs.length = l.length) (hc : Hid (Cells S w A vs)) (hl : ∀ (i : Nat) (v : Value) (t : Term), vs[i]? = some v → l[i]? = some t → TermIs S w v t)
    (H : Hid (∀ (i : Nat) (v : Value) (t : Term), vs[i]? = some v → l[i]? = some t → TextC w v t)) (w1 : World) (hb : Hid (Below w.heap.size w w1)) (ht : Hid (Tabs w1)) (hN : Hid ((Lib.join (textsE l) [32, 111, 114, 32]).length ≤ 65536)) :
    Calls Tryz.prog 14 #[.slice A l.length c, .string ⟨#[32, 111, 114, 32]⟩] w1 (TextPost (Lib.join (textsE l) [32, 111, 114, 32]) w1) := by
  have HJL := Lib.hid (join_len [32, 111, 114, 32] (textsE l))
  have HLEN : Hid ((textsE l).length = l.length) := by show _ = _; rw [textsE_map, List.length_map]
  have HL9 : Hid (l.length ≤ 65537) := by
    have h1 := HJL.out.2
    have h2 := hN.out
    rw [HLEN.out] at h1
    simp only [List.length_cons, List.length_nil] at h1
    show _ ≤ _
    omega
  have HAT : Hid (∀ k (h : k < l.length), ∃ v, vs[k]? = some v ∧ TermIs S w v l[k] ∧ TextC w v l[k] ∧ ∃ ad, A = some ad ∧ w.cell? (ad.add k) = some v) := fun k h => by
    have hv : k < vs.length := by omega
    obtain ⟨ad, hA, _, hcell⟩ := hc.out k hv
    exact ⟨vs[k], List.getElem?_eq_getElem hv, hl k _ _ (List.getElem?_eq_getElem hv) (List.getElem?_eq_getElem h), H.out k _ _ (List.getElem?_eq_getElem hv) (List.getElem?_eq_getElem h), ad, hA, hcell⟩
  have HEL : Hid (∀ k (h : k < l.length), ∃ h2 : k < (textsE l).length, (textsE l)[k] = (fun t => textT t) l[k]) := fun k h => by
    refine ⟨by rw [HLEN.out]; exact h, ?_⟩
    simp only [textsE_map, List.getElem_map]
  obtain ⟨xs, hxs⟩ : ∃ xs, textsE l = xs := ⟨_, rfl⟩
  rw [hxs] at HJL HLEN hN HEL ⊢
  obtain ⟨n, hnn⟩ : ∃ n, l.length = n := ⟨_, rfl⟩
  have HNN := Lib.hid hnn
  rw [hnn] at HLEN HL9 ⊢
  obtain ⟨Z, hZ⟩ : ∃ Z, w1.heap.size = Z := ⟨_, rfl⟩
  have HZ := Lib.hid hZ
  have h1 : Hid (Pl Z w1 w1 (.slice none 0 0) []) := by rw [← hZ]; exact ⟨Since.refl w1, rfl, .inl ⟨rfl, rfl⟩⟩
  have ht0 := ht
  have hb0 := hb
  clear hxs hnn hZ hn hc hl H hb ht
  go_enter Tryz.func14, Tryz.ntmps14
  go_wp2_with fail
  go_loopg [5, 12] n (fun g s i wr => ∃ (k : Nat) (A2 : Option Addr) (c2 : Nat) (ps : List W), g = n - k ∧ k ≤ n ∧ i = .int .i64 k ∧ s = .slice A2 ps.length c2 ∧ Hid (ps = xs.take k) ∧ Hid (Pl Z w1 wr (.slice A2 ps.length c2) ps))
  case atStart => exact ⟨0, none, 0, [], rfl, Nat.zero_le _, rfl, rfl, rfl, h1⟩
  case round =>
    obtain ⟨k, A2, c2, ps, rfl, hk, rfl, rfl, HPS, hp⟩ := hrel
    have HKN := Lib.hid hk
    have k9 : (k : Int) ≤ 65537 := by have := HL9.out; omega
    have k0 : (0 : Int) ≤ (k : Int) := by omega
    by_cases hlt : k < n
    · have hlti : (k : Int) < (n : Int) := by omega
      have HLT := Lib.hid hlt
      obtain ⟨v, hv, hti, htc, ad, hA, hcell⟩ := HAT.out k (by rw [HNN.out]; exact hlt)
      obtain ⟨hxl, hxe⟩ := HEL.out k (by rw [HNN.out]; exact hlt)
      have hxx := HJL.out.1 _ (List.getElem_mem hxl)
      obtain ⟨x, hx⟩ : ∃ x, xs[k] = x := ⟨_, rfl⟩
      have HTAKE : Hid (ps ++ [x] = xs.take (k + 1)) := by show _ = _; rw [List.take_succ_eq_append_getElem hxl, hx, HPS.out]
      rw [hx] at hxe hxx
      have HXL : Hid (x.length ≤ 65536) := Nat.le_trans hxx hN.out
      generalize l[k]'(by rw [HNN.out]; exact hlt) = t at hti htc hxe
      have hbr : Below w.heap.size w wr := hb0.out.trans (hp.out.1.1.mono (by rw [← HZ.out]; exact hb0.out.size))
      have hcw : wr.cell? (ad.add k) = some v := (hbr.cell (World.block_lt_of_cell? w _ hcell)).trans hcell
      have htw : Hid (Tabs wr) := ht0.out.below (by rw [HZ.out]; exact hp.out.1.1)
      have HPL : Hid (ps.length ≤ 65537) := by have h0 := HL9.out; have h1 := HKN.out; have h : ps.length = min k xs.length := (by rw [HPS.out, List.length_take]); show _ ≤ _; omega
      have HTC := Lib.hid (htc wr hbr htw)
      subst hA
      clear hxl hxx hx hv hcell hbr htw htc hlt hk hlti
      have hlti : (k : Int) < (n : Int) := by have := HLT.out; omega
      rcases term_kind3 hti with ⟨q, rfl, _, he⟩ | ⟨q, rfl, _, he⟩ | ⟨T, q, rfl, h1, h2, _, he⟩
      · have n43 : ∀ W, (Instr.typeAssert (.iface 45 q) 32 43 true).run Tryz.prog W = .ok (.tuple #[.slice none 0 0, .bool false]) W := fun W => no43 W 45 _ (by decide)
        have HX : Hid (x = textT t) := hxe
        have HC := Lib.hid (HTC.out (by rw [← HX.out]; exact HXL))
        rw [← HX.out] at HC
        clear HTC he hti hxe
        go_wp2_with fail
        refine HC.out.mono ?_
        rintro e w2 ⟨rfl, hb2⟩
        have hp2 : Hid (Pl Z w1 w2 (.slice A2 ps.length c2) ps) := hp.out.next hb2.out
        clear hp HC hcw
        go_wp2_with (first | (at_builtin; go_loud (refine app_keep (v := .slice A2 ps.length c2) el22 rfl (.tmp 33) (.tmp 36) rfl rfl hp2 #[.string (str x)] 1 1 rfl rfl (one_cell _ rfl) (by have := HPL.out; omega) ?_); intro A7 c7 w7 h7 hk7))
        go_roundg (n - (k + 1))
        case measure => have := HLT.out; omega
        case rel => exact ⟨k + 1, A7, c7, ps ++ [x], rfl, HLT.out, by go_num, by first | (rw [List.length_append]; rfl) | rw [List.length_append], HTAKE, h7.out.1, by rw [List.length_append, strs_snoc]; exact h7.out.2⟩
      · have y43 : ∀ W, (Instr.typeAssert (.iface 43 q) 32 43 true).run Tryz.prog W = .ok (.tuple #[q, .bool true]) W := fun W => yes43 W _
        have HX : Hid (x = textT t) := hxe
        have HC := Lib.hid (HTC.out (by rw [← HX.out]; exact HXL))
        rw [← HX.out] at HC
        clear HTC he hti hxe
        go_wp2_with fail
        refine HC.out.mono ?_
        rintro e w2 ⟨rfl, hb2⟩
        have hp2 : Hid (Pl Z w1 w2 (.slice A2 ps.length c2) ps) := hp.out.next hb2.out
        clear hp HC hcw
        go_wp2_with (first | (at_builtin; go_loud (refine app_keep (v := .slice A2 ps.length c2) el22 rfl (.tmp 33) (.tmp 36) rfl rfl hp2 #[.string (str x)] 1 1 rfl rfl (one_cell _ rfl) (by have := HPL.out; omega) ?_); intro A7 c7 w7 h7 hk7))
        go_roundg (n - (k + 1))
        case measure => have := HLT.out; omega
        case rel => exact ⟨k + 1, A7, c7, ps ++ [x], rfl, HLT.out, by go_num, by first | (rw [List.length_append]; rfl) | rw [List.length_append], HTAKE, h7.out.1, by rw [List.length_append, strs_snoc]; exact h7.out.2⟩
      · have n43 : ∀ W, (Instr.typeAssert (.iface T q) 32 43 true).run Tryz.prog W = .ok (.tuple #[.slice none 0 0, .bool false]) W := fun W => no43 W T _ h2
        have HX : Hid (x = textT t) := hxe
        have HC := Lib.hid (HTC.out (by rw [← HX.out]; exact HXL))
        rw [← HX.out] at HC
        clear HTC he hti hxe h1 h2
        go_wp2_with fail
        refine HC.out.mono ?_
        rintro e w2 ⟨rfl, hb2⟩
        have hp2 : Hid (Pl Z w1 w2 (.slice A2 ps.length c2) ps) := hp.out.next hb2.out
        clear hp HC hcw
        go_wp2_with (first | (at_builtin; go_loud (refine app_keep (v := .slice A2 ps.length c2) el22 rfl (.tmp 33) (.tmp 36) rfl rfl hp2 #[.string (str x)] 1 1 rfl rfl (one_cell _ rfl) (by have := HPL.out; omega) ?_); intro A7 c7 w7 h7 hk7))
        go_roundg (n - (k + 1))
        case measure => have := HLT.out; omega
        case rel => exact ⟨k + 1, A7, c7, ps ++ [x], rfl, HLT.out, by go_num, by first | (rw [List.length_append]; rfl) | rw [List.length_append], HTAKE, h7.out.1, by rw [List.length_append, strs_snoc]; exact h7.out.2⟩
    · have hlti : ¬ ((k : Int) < (n : Int)) := by omega
      have hK : ps = xs := HPS.out.trans (List.take_of_length_le (by rw [HLEN.out]; omega))
      subst hK
      obtain ⟨hsf, hcap, hsp⟩ := (owns_strsF hp.out.2).elim fun A' h => h.elim fun c' h => by obtain ⟨e, h⟩ := h; cases e; exact h
      clear hlt
      by_cases h0 : ps = []
      · have HE : Hid (Lib.join ps [32, 111, 114, 32] = []) := by show _ = _; rw [h0]; rfl
        have HX0 : Hid (ps.length = 0) := by show _ = _; rw [h0]; rfl
        rw [HX0.out]
        clear h0 hsf hcap hsp
        go_wp2_with fail
        refine (Tryz.strings_Join_none A2 c2 ⟨#[32, 111, 114, 32]⟩ wr).mono ?_
        rintro e w2 ⟨rfl, rfl⟩
        go_wp2_with fail
        go_ret
        exact ⟨by rw [HE.out]; rfl, by rw [HZ.out]; exact hp.out.1.1⟩
      · obtain ⟨ad2, hA2⟩ : ∃ ad2, A2 = some ad2 := (hsf 0 (by rw [List.length_map]; exact List.length_pos_iff.2 h0)).imp fun _ h => h.1
        subst hA2
        have hsp2 := hsp ad2 rfl
        obtain ⟨bk, o2, sp⟩ := ad2
        have hsp2 : sp = none := hsp2
        subst hsp2
        have hcells : ∀ (j : Nat) x, (ps.map str)[j]? = some x → wr.cell? ⟨bk, o2 + j, none⟩ = some (.string x) := fun j x hx => by
          obtain ⟨hj, e⟩ := List.getElem?_eq_some_iff.1 hx
          obtain ⟨ad, e2, hc⟩ := hsf j hj
          cases e2
          rw [e] at hc
          rw [add_off] at hc
          exact hc
        have hbk : bk < wr.heap.size := by
          obtain ⟨ad, e2, hc⟩ := hsf 0 (by rw [List.length_map]; exact List.length_pos_iff.2 h0)
          cases e2
          have := World.block_lt_of_cell? wr _ hc
          rw [add_off] at this
          exact this
        have HJ := Lib.hid (Tryz.strings_Join bk o2 c2 (ps.map str) ⟨#[32, 111, 114, 32]⟩ wr hcells hbk (by rw [List.length_map, HLEN.out]; have := HL9.out; omega) hcap (by rw [join_any]; have := hN.out; show (Lib.join ps [32, 111, 114, 32]).length ≤ _; omega))
        rw [join_any, List.length_map] at HJ
        have HJ : Hid (Calls Tryz.prog 25 #[.slice (some ⟨bk, o2, none⟩) ps.length c2, .string ⟨#[32, 111, 114, 32]⟩] wr fun e w' => e = .returned (.string (str (Lib.join ps [32, 111, 114, 32]))) ∧ Below wr.heap.size wr w') := HJ
        generalize Lib.join ps [32, 111, 114, 32] = jj at *
        clear h0 hsf hcap hsp hcells hbk
        go_wp2_with fail
        refine HJ.out.mono ?_
        rintro e w2 ⟨rfl, hb2⟩
        go_wp2_with fail
        go_ret
        exact ⟨rfl, by rw [HZ.out]; exact hp.out.1.1.trans (hb2.mono hp.out.1.2)⟩
set_option maxRecDepth 100000 in
set_option maxHeartbeats 3200000 in
theorem joined_and (w : World) (A : Option Addr) (c : Nat) (vs : List Value) (l : List Term) {S : Nat → Prop} (hn : vs.length = l.length) (hc : Hid (Cells S w A vs)) (hl : ∀ (i : Nat) (v : Value) (t : Term), vs[i]? = some v → l[i]? = some t → TermIs S w v t)
    (H : Hid (∀ (i : Nat) (v : Value) (t : Term), vs[i]? = some v → l[i]? = some t → TextC w v t)) (w1 : World) (hb : Hid (Below w.heap.size w w1)) (ht : Hid (Tabs w1)) (hN : Hid ((Lib.join (textsB l) [32, 97, 110, 100, 32]).length ≤ 65536)) :
    Calls Tryz.prog 14 #[.slice A l.length c, .string ⟨#[32, 97, 110, 100, 32]⟩] w1 (TextPost (Lib.join (textsB l) [32, 97, 110, 100, 32]) w1) := by
  have HJL := Lib.hid (join_len [32, 97, 110, 100, 32] (textsB l))
  have HLEN : Hid ((textsB l).length = l.length) := by show _ = _; rw [textsB_map, List.length_map]
  have HL9 : Hid (l.length ≤ 65537) := by
    have h1 := HJL.out.2
    have h2 := hN.out
    rw [HLEN.out] at h1
    simp only [List.length_cons, List.length_nil] at h1
    show _ ≤ _
    omega
  have HAT : Hid (∀ k (h : k < l.length), ∃ v, vs[k]? = some v ∧ TermIs S w v l[k] ∧ TextC w v l[k] ∧ ∃ ad, A = some ad ∧ w.cell? (ad.add k) = some v) := fun k h => by
    have hv : k < vs.length := by omega
    obtain ⟨ad, hA, _, hcell⟩ := hc.out k hv
    exact ⟨vs[k], List.getElem?_eq_getElem hv, hl k _ _ (List.getElem?_eq_getElem hv) (List.getElem?_eq_getElem h), H.out k _ _ (List.getElem?_eq_getElem hv) (List.getElem?_eq_getElem h), ad, hA, hcell⟩
  have HEL : Hid (∀ k (h : k < l.length), ∃ h2 : k < (textsB l).length, (textsB l)[k] = (fun t => brIf (isE t) (textT t)) l[k]) := fun k h => by
    refine ⟨by rw [HLEN.out]; exact h, ?_⟩
    simp only [textsB_map, List.getElem_map]
  obtain ⟨xs, hxs⟩ : ∃ xs, textsB l = xs := ⟨_, rfl⟩
  rw [hxs] at HJL HLEN hN HEL ⊢
  obtain ⟨n, hnn⟩ : ∃ n, l.length = n := ⟨_, rfl⟩
  have HNN := Lib.hid hnn
  rw [hnn] at HLEN HL9 ⊢
  obtain ⟨Z, hZ⟩ : ∃ Z, w1.heap.size = Z := ⟨_, rfl⟩
  have HZ := Lib.hid hZ
  have h1 : Hid (Pl Z w1 w1 (.slice none 0 0) []) := by rw [← hZ]; exact ⟨Since.refl w1, rfl, .inl ⟨rfl, rfl⟩⟩
  have ht0 := ht
  have hb0 := hb
  clear hxs hnn hZ hn hc hl H hb ht
  go_enter Tryz.func14, Tryz.ntmps14
  go_wp2_with fail
  go_loopg [5, 12] n (fun g s i wr => ∃ (k : Nat) (A2 : Option Addr) (c2 : Nat) (ps : List W), g = n - k ∧ k ≤ n ∧ i = .int .i64 k ∧ s = .slice A2 ps.length c2 ∧ Hid (ps = xs.take k) ∧ Hid (Pl Z w1 wr (.slice A2 ps.length c2) ps))
  case atStart => exact ⟨0, none, 0, [], rfl, Nat.zero_le _, rfl, rfl, rfl, h1⟩
  case round =>
    obtain ⟨k, A2, c2, ps, rfl, hk, rfl, rfl, HPS, hp⟩ := hrel
    have HKN := Lib.hid hk
    have k9 : (k : Int) ≤ 65537 := by have := HL9.out; omega
    have k0 : (0 : Int) ≤ (k : Int) := by omega
    by_cases hlt : k < n
    · have hlti : (k : Int) < (n : Int) := by omega
      have HLT := Lib.hid hlt
      obtain ⟨v, hv, hti, htc, ad, hA, hcell⟩ := HAT.out k (by rw [HNN.out]; exact hlt)
      obtain ⟨hxl, hxe⟩ := HEL.out k (by rw [HNN.out]; exact hlt)
      have hxx := HJL.out.1 _ (List.getElem_mem hxl)
      obtain ⟨x, hx⟩ : ∃ x, xs[k] = x := ⟨_, rfl⟩
      have HTAKE : Hid (ps ++ [x] = xs.take (k + 1)) := by show _ = _; rw [List.take_succ_eq_append_getElem hxl, hx, HPS.out]
      rw [hx] at hxe hxx
      have HXL : Hid (x.length ≤ 65536) := Nat.le_trans hxx hN.out
      generalize l[k]'(by rw [HNN.out]; exact hlt) = t at hti htc hxe
      have hbr : Below w.heap.size w wr := hb0.out.trans (hp.out.1.1.mono (by rw [← HZ.out]; exact hb0.out.size))
      have hcw : wr.cell? (ad.add k) = some v := (hbr.cell (World.block_lt_of_cell? w _ hcell)).trans hcell
      have htw : Hid (Tabs wr) := ht0.out.below (by rw [HZ.out]; exact hp.out.1.1)
      have HPL : Hid (ps.length ≤ 65537) := by have h0 := HL9.out; have h1 := HKN.out; have h : ps.length = min k xs.length := (by rw [HPS.out, List.length_take]); show _ ≤ _; omega
      have HTC := Lib.hid (htc wr hbr htw)
      subst hA
      clear hxl hxx hx hv hcell hbr htw htc hlt hk hlti
      have hlti : (k : Int) < (n : Int) := by have := HLT.out; omega
      rcases term_kind3 hti with ⟨q, rfl, _, he⟩ | ⟨q, rfl, _, he⟩ | ⟨T, q, rfl, h1, h2, _, he⟩
      · have n43 : ∀ W, (Instr.typeAssert (.iface 45 q) 32 43 true).run Tryz.prog W = .ok (.tuple #[.slice none 0 0, .bool false]) W := fun W => no43 W 45 _ (by decide)
        have HX : Hid (x = textT t) := by show _ = _; rw [hxe]; show brIf (isE t) _ = _; rw [he]; rfl
        have HC := Lib.hid (HTC.out (by rw [← HX.out]; exact HXL))
        rw [← HX.out] at HC
        clear HTC he hxe hti
        go_wp2_with fail
        refine HC.out.mono ?_
        rintro e w2 ⟨rfl, hb2⟩
        have hp2 : Hid (Pl Z w1 w2 (.slice A2 ps.length c2) ps) := hp.out.next hb2.out
        clear hp HC hcw
        go_wp2_with (first | (at_builtin; go_loud (refine app_keep (v := .slice A2 ps.length c2) el22 rfl (.tmp 33) (.tmp 36) rfl rfl hp2 #[.string (str x)] 1 1 rfl rfl (one_cell _ rfl) (by have := HPL.out; omega) ?_); intro A7 c7 w7 h7 hk7))
        go_roundg (n - (k + 1))
        case measure => have := HLT.out; omega
        case rel => exact ⟨k + 1, A7, c7, ps ++ [x], rfl, HLT.out, by go_num, by first | (rw [List.length_append]; rfl) | rw [List.length_append], HTAKE, h7.out.1, by rw [List.length_append, strs_snoc]; exact h7.out.2⟩
      · have y43 : ∀ W, (Instr.typeAssert (.iface 43 q) 32 43 true).run Tryz.prog W = .ok (.tuple #[q, .bool true]) W := fun W => yes43 W _
        have HX : Hid (x = br (textT t)) := by show _ = _; rw [hxe]; show brIf (isE t) _ = _; rw [he]; rfl
        have HTL : Hid ((textT t).length ≤ 65536) := by have h1 := HXL.out; rw [HX.out] at h1; have h2 := (brIf_len true (textT t)).1; exact Nat.le_trans h2 h1
        have HC := Lib.hid (HTC.out HTL)
        have n1 : ¬ (9223372036854775807 < 2 + (str (textT t)).size) := by have := HTL.out; rw [str_size]; omega
        have n2 : ¬ (9223372036854775807 < 2 + (str (textT t)).size + 2) := by have := HTL.out; rw [str_size]; omega
        have HSX : Hid (⟨#[40, 32]⟩ ++ str (textT t) ++ ⟨#[32, 41]⟩ = str x) := by
          show _ = _
          rw [HX.out, show (⟨#[40, 32]⟩ : ByteArray) = str [40, 32] from rfl, show (⟨#[32, 41]⟩ : ByteArray) = str [32, 41] from rfl, str_append, str_append]
          rfl
        clear HTC he hxe hti
        generalize textT t = y at *
        go_wp2_with fail
        refine HC.out.mono ?_
        rintro e w2 ⟨rfl, hb2⟩
        have hp2 : Hid (Pl Z w1 w2 (.slice A2 ps.length c2) ps) := hp.out.next hb2.out
        clear hp HC hcw
        have hsx := HSX.out
        go_wp2_with (first | (at_builtin; go_loud (refine app_keep (v := .slice A2 ps.length c2) el22 rfl (.tmp 26) (.tmp 31) rfl rfl hp2 #[.string (str x)] 1 1 rfl rfl (one_cell _ rfl) (by have := HPL.out; omega) ?_); intro A7 c7 w7 h7 hk7))
        go_roundg (n - (k + 1))
        case measure => have := HLT.out; omega
        case rel => exact ⟨k + 1, A7, c7, ps ++ [x], rfl, HLT.out, by go_num, by first | (rw [List.length_append]; rfl) | rw [List.length_append], HTAKE, h7.out.1, by rw [List.length_append, strs_snoc]; exact h7.out.2⟩
      · have n43 : ∀ W, (Instr.typeAssert (.iface T q) 32 43 true).run Tryz.prog W = .ok (.tuple #[.slice none 0 0, .bool false]) W := fun W => no43 W T _ h2
        have HX : Hid (x = textT t) := by show _ = _; rw [hxe]; show brIf (isE t) _ = _; rw [he]; rfl
        have HC := Lib.hid (HTC.out (by rw [← HX.out]; exact HXL))
        rw [← HX.out] at HC
        clear HTC he hxe hti h1 h2
        go_wp2_with fail
        refine HC.out.mono ?_
        rintro e w2 ⟨rfl, hb2⟩
        have hp2 : Hid (Pl Z w1 w2 (.slice A2 ps.length c2) ps) := hp.out.next hb2.out
        clear hp HC hcw
        go_wp2_with (first | (at_builtin; go_loud (refine app_keep (v := .slice A2 ps.length c2) el22 rfl (.tmp 33) (.tmp 36) rfl rfl hp2 #[.string (str x)] 1 1 rfl rfl (one_cell _ rfl) (by have := HPL.out; omega) ?_); intro A7 c7 w7 h7 hk7))
        go_roundg (n - (k + 1))
        case measure => have := HLT.out; omega
        case rel => exact ⟨k + 1, A7, c7, ps ++ [x], rfl, HLT.out, by go_num, by first | (rw [List.length_append]; rfl) | rw [List.length_append], HTAKE, h7.out.1, by rw [List.length_append, strs_snoc]; exact h7.out.2⟩
    · have hlti : ¬ ((k : Int) < (n : Int)) := by omega
      have hK : ps = xs := HPS.out.trans (List.take_of_length_le (by rw [HLEN.out]; omega))
      subst hK
      obtain ⟨hsf, hcap, hsp⟩ := (owns_strsF hp.out.2).elim fun A' h => h.elim fun c' h => by obtain ⟨e, h⟩ := h; cases e; exact h
      clear hlt
      by_cases h0 : ps = []
      · have HE : Hid (Lib.join ps [32, 97, 110, 100, 32] = []) := by show _ = _; rw [h0]; rfl
        have HX0 : Hid (ps.length = 0) := by show _ = _; rw [h0]; rfl
        rw [HX0.out]
        clear h0 hsf hcap hsp
        go_wp2_with fail
        refine (Tryz.strings_Join_none A2 c2 ⟨#[32, 97, 110, 100, 32]⟩ wr).mono ?_
        rintro e w2 ⟨rfl, rfl⟩
        go_wp2_with fail
        go_ret
        exact ⟨by rw [HE.out]; rfl, by rw [HZ.out]; exact hp.out.1.1⟩
      · obtain ⟨ad2, hA2⟩ : ∃ ad2, A2 = some ad2 := (hsf 0 (by rw [List.length_map]; exact List.length_pos_iff.2 h0)).imp fun _ h => h.1
        subst hA2
        have hsp2 := hsp ad2 rfl
        obtain ⟨bk, o2, sp⟩ := ad2
        have hsp2 : sp = none := hsp2
        subst hsp2
        have hcells : ∀ (j : Nat) x, (ps.map str)[j]? = some x → wr.cell? ⟨bk, o2 + j, none⟩ = some (.string x) := fun j x hx => by
          obtain ⟨hj, e⟩ := List.getElem?_eq_some_iff.1 hx
          obtain ⟨ad, e2, hc⟩ := hsf j hj
          cases e2
          rw [e] at hc
          rw [add_off] at hc
          exact hc
        have hbk : bk < wr.heap.size := by
          obtain ⟨ad, e2, hc⟩ := hsf 0 (by rw [List.length_map]; exact List.length_pos_iff.2 h0)
          cases e2
          have := World.block_lt_of_cell? wr _ hc
          rw [add_off] at this
          exact this
        have HJ := Lib.hid (Tryz.strings_Join bk o2 c2 (ps.map str) ⟨#[32, 97, 110, 100, 32]⟩ wr hcells hbk (by rw [List.length_map, HLEN.out]; have := HL9.out; omega) hcap (by rw [join_any]; have := hN.out; show (Lib.join ps [32, 97, 110, 100, 32]).length ≤ _; omega))
        rw [join_any, List.length_map] at HJ
        have HJ : Hid (Calls Tryz.prog 25 #[.slice (some ⟨bk, o2, none⟩) ps.length c2, .string ⟨#[32, 97, 110, 100, 32]⟩] wr fun e w' => e = .returned (.string (str (Lib.join ps [32, 97, 110, 100, 32]))) ∧ Below wr.heap.size wr w') := HJ
        generalize Lib.join ps [32, 97, 110, 100, 32] = jj at *
        clear h0 hsf hcap hsp hcells hbk
        go_wp2_with fail
        refine HJ.out.mono ?_
        rintro e w2 ⟨rfl, hb2⟩
        go_wp2_with fail
        go_ret
        exact ⟨rfl, by rw [HZ.out]; exact hp.out.1.1.trans (hb2.mono hp.out.1.2)⟩
end Go.Proofs.YtcdhkeahcliefaaGreatDoor.TextG
