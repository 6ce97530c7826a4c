/- The program's parser: or. The document's words of a line: next, Words. -/
import Derived.Test.YtcdhkeahcliefaaGreatDoorPrint21
import Derived.Test.YtcdhkeahcliefaaGreatDoorPrint07
/- The program's parser: or. -/
namespace Go.Proofs.YtcdhkeahcliefaaGreatDoor.ParseO
open Go.ChangeShapes Go.WideShapes Go.ChangeAt Go.RowKit
open Go.Proofs.YtcdhkeahcliefaaGreatDoor.Kit Go.Proofs.YtcdhkeahcliefaaGreatDoor.Base Go.Proofs.YtcdhkeahcliefaaGreatDoor.PatA Go.Proofs.YtcdhkeahcliefaaGreatDoor.Tok Go.Proofs.YtcdhkeahcliefaaGreatDoor.TokB Go.Proofs.YtcdhkeahcliefaaGreatDoor.TokD Go.Proofs.YtcdhkeahcliefaaGreatDoor.Term Go.Proofs.YtcdhkeahcliefaaGreatDoor.TermB Go.Proofs.YtcdhkeahcliefaaGreatDoor.Syn Go.Proofs.YtcdhkeahcliefaaGreatDoor.ParseU Go.Proofs.YtcdhkeahcliefaaGreatDoor.ParseR
set_option linter.unusedVariables false
/-- or, over whatever reads its members -/
def orG (one : List W → Res) (r : List W) : Res := pk packE (seqF one wOr flatE (r.length + 1) r)
set_option maxRecDepth 100000 in
set_option maxHeartbeats 6400000 in
theorem or_any (o : Nat) (one : List W → Res) (hfine : Hid (Fine one)) (hone : Hid (∀ (p : Pw) (i : Nat) (w : World), Hid p.Ok → Hid (Words p) → Hid (Pr p w i o) → Calls Tryz.prog 36 #[.pointer (some ⟨p.P, 0, none⟩)] w (TermPost p i o (one (p.ws.drop i)))))
    (p : Pw) (i : Nat) (w : World) (hp : Hid p.Ok) (hw : Hid (Words p)) (h0 : Hid (Pr p w i o)) : Calls Tryz.prog 19 #[.pointer (some ⟨p.P, 0, none⟩)] w (TermPost p i o (orG one (p.ws.drop i))) := by
  have HW9 : Hid (p.ws.length ≤ 1024) := hp.out.2.2
  obtain ⟨R0, hR0⟩ : ∃ R0, seqF one wOr flatE ((p.ws.drop i).length + 1) (p.ws.drop i) = R0 := ⟨_, rfl⟩
  have HR0 := Lib.hid hR0
  have HRES : Hid (orG one (p.ws.drop i) = pk packE R0) := by show _ = _; rw [← hR0]; rfl
  rw [HRES.out]
  obtain ⟨Z, hZ⟩ : ∃ Z, w.heap.size = Z := ⟨_, rfl⟩
  have HS0 : Hid (St p Z (w.alloc (.cells #[] 32)) (.slice (some ⟨Z, 0, none⟩) 0 0) [] i o) := by
    subst hZ
    exact ⟨h0.out.next ((Below.refl _ _).alloc (Nat.le_refl _) _), ⟨[], rfl, World.ownsRow_made w #[] 0 (Nat.le_refl _) (by decide) rfl, fun i u t hu => by cases hu⟩, h0.out.2.2.2.2.1.size, by simp⟩
  clear hR0 HRES
  go_enter Tryz.func19, Tryz.ntmps19
  go_wp2_with fail
  refine gen_world (fun w' => Hid (St p Z w' (.slice (some ⟨Z, 0, none⟩) 0 0) [] i o)) HS0 ?_
  clear HS0 hZ h0 w
  rintro w h0
  go_loopg [3] ((p.ws.drop i).length + 1) (fun g s wr => ∃ (g0 k : Nat) (acc : List Term) (A : Option Addr) (c : Nat), g = g0 + 1 ∧ s = .slice A acc.length c ∧ Hid (St p Z wr (.slice A acc.length c) acc (i + k) o) ∧ Hid (acc.length ≤ k ∧ (p.ws.drop (i + k)).length < g0 + 1 ∧ R0 = ext acc k (seqF one wOr flatE (g0 + 1) (p.ws.drop (i + k)))))
  case atStart => exact ⟨(p.ws.drop i).length, 0, [], _, _, rfl, rfl, h0, Nat.zero_le _, Nat.lt_succ_self _, by rw [ext_nil]; exact HR0.out.symm⟩
  case round =>
    obtain ⟨g0, k, acc, A, c, rfl, rfl, hs, hrel2⟩ := hrel
    have HC := Lib.hid (hone.out { p with w1 := wr } (i + k) wr hp hw hs.out.1.fresh)
    obtain ⟨r, hr⟩ : ∃ r, one (p.ws.drop (i + k)) = r := ⟨_, rfl⟩
    have HR := Lib.hid hr
    have HC : Hid (Calls Tryz.prog 36 #[.pointer (some ⟨p.P, 0, none⟩)] wr (TermPost { p with w1 := wr } (i + k) o r)) := by rw [← HR.out]; exact HC.out
    clear hr
    go_wp2_with fail
    refine HC.out.mono ?_
    clear HC
    rintro e w2 (⟨x, rfl, he, h2⟩ | ⟨t, j, v, rfl, rfl, ht, h2⟩)
    · have HE : Hid (R0 = .error x) := hrel2.out.2.2.trans (ext_err HR.out)
      unfold Threw at he
      subst he
      go_wp2_with fail
      exact ⟨rfl, .inl ⟨x, by rw [HE.out]; rfl, rfl, h2⟩⟩
    have HPB := Lib.hid (hfine.out _ _ _ HR.out)
    have hs2 : Hid (St p Z w2 (.slice A acc.length c) acc (i + k + j) o) := hs.out.call h2.out
    have ht2 : Hid (TermIs (Off Z (.slice A acc.length c)) w2 v t) := hs.out.fresh ht.out
    have HLE : Hid (k + j ≤ 1024) := by
      have h1 := HPB.out.2
      rw [List.length_drop] at h1
      have h2 := HW9.out
      have h3 := hs.out.1.2.2.1
      have h4 := HPB.out.1.1
      show _ ≤ _
      omega
    have HNX : Hid (∀ kk, kk = wOr → (isNext p (i + k + j) kk = true ↔ ((p.ws.drop (i + k)).drop j).head? = some wOr)) := fun kk hk => by rw [hk]; exact is_next p (i + k) j wOr
    clear hs ht h2
    rcases term_either ht2.out with ⟨A2, c2, vs, l, rfl, rfl, hvn, hvc, hvt⟩ | ⟨T, x, rfl, hT, hTl⟩
    · have hl2 := HPB.out.1.2.2.2.2 l rfl
      have HL0 : Hid (0 < l.length) := by show _ < _; omega
      have HVS := Lib.hid hvn
      have HFL : Hid (flatE (.either l) = l) := rfl
      have HLL : Hid (l.length ≤ j) := HPB.out.1.2.2.1
      have HTWO : Hid (2 ≤ acc.length + l.length) := by show _ ≤ _; omega
      have HB : Hid (acc.length + l.length ≤ 1024) := by have h1 := HLE.out; have h2 := HLL.out; have h3 := hrel2.out.1; show _ ≤ _; omega
      obtain ⟨ad, hA2, hS2, hc2⟩ := hvc 0 (by omega)
      subst hA2
      have HNW : Hid (∀ (j : Nat) u, vs[j]? = some u → w2.cell? (ad.add j) = some u) := fun j u hu => by
        obtain ⟨hj, e⟩ := List.getElem?_eq_some_iff.1 hu
        obtain ⟨ad', e2, _, hc⟩ := hvc j hj
        cases e2
        rw [← e]
        exact hc
      have HONE : Hid (∀ u ∈ vs, u.oneCell' = true) := fun u hu => by
        obtain ⟨j, hj, e⟩ := List.getElem_of_mem hu
        exact term_one (hvt j u l[j] (by rw [List.getElem?_eq_getElem hj, e]) (List.getElem?_eq_getElem (by omega)))
      have HT2 := Lib.hid hvt
      have a1 := assert43_yes
      clear hl2 hvn hvc hvt hc2 hS2 ht2 HPB
      go_upto_region 8 with (first | (at_builtin; go_loud (refine app_rows 43 el43 rfl (.tmp 16) (.tmp 17) rfl (p := p) (Z := Z) (acc := acc) (ts := l) (us := vs) rfl hs2 ad l.length c2 rfl HL0.out HVS.out rfl HNW HONE HT2 (acc.length + l.length) rfl HB ?_); intro g7 c7 w7 h7))
      clear hs2
      have HTK := Lib.hid (take_any { p with w1 := w7 } (i + k + j) o wOr w7 hp h7.out.1.fresh)
      have HTK : Hid (Calls Tryz.prog 37 #[.pointer (some ⟨p.P, 0, none⟩), .string ⟨#[111, 114]⟩] w7 (TakePost { p with w1 := w7 } (i + k + j) o wOr)) := HTK
      go_wp2_with fail
      refine HTK.out.mono ?_
      clear HTK
      rintro e w8 (⟨hn, rfl, h8⟩ | ⟨hn, rfl, h8⟩)
      · have hhd := (HNX.out _ rfl).1 hn
        have h9 : Hid (St p Z w8 (.slice (some ⟨g7, 0, none⟩) (acc ++ l).length c7) (acc ++ l) (i + k + j + 1) o) := h7.out.call h8.out
        have HMORE : Hid (R0 = ext (acc ++ l) (k + (j + 1)) (seqF one wOr flatE g0 (p.ws.drop (i + (k + (j + 1)))))) := by
          show _ = _
          rw [hrel2.out.2.2, ext_more HR.out hhd, HFL.out, List.drop_drop]
          rw [show i + k + (j + 1) = i + (k + (j + 1)) from by omega]
        have HLN : Hid ((p.ws.drop (i + (k + (j + 1)))).length < g0) := by
          have h1 := hrel2.out.2.1
          have h2 := head_len hhd
          rw [List.length_drop] at h1 h2
          show _ < _
          rw [List.length_drop]
          omega
        clear hn hhd h8 h7
        go_wp2_with fail
        obtain ⟨g1, rfl⟩ : ∃ g1, g0 = g1 + 1 := ⟨g0 - 1, by have := HLN.out; omega⟩
        go_roundg (g1 + 1)
        case measure => omega
        case rel => exact ⟨g1, k + (j + 1), acc ++ l, _, c7, rfl, by first | (rw [List.length_append]; rfl) | rw [List.length_append], by rw [show i + (k + (j + 1)) = i + k + j + 1 from by omega]; exact h9, by have h1 := HLL.out; have h2 := hrel2.out.1; show _ ≤ _; rw [List.length_append]; omega, HLN.out, HMORE.out⟩
      · have hhd : ¬ ((p.ws.drop (i + k)).drop j).head? = some wOr := fun h => by have e : isNext p (i + k + j) wOr = false := hn; rw [(HNX.out _ rfl).2 h] at e; cases e
        have h9 : Hid (St p Z w8 (.slice (some ⟨g7, 0, none⟩) (acc ++ l).length c7) (acc ++ l) (i + k + j) o) := h7.out.call h8.out
        have HEND : Hid (R0 = .ok (acc ++ l, k + j)) := by
          show _ = _
          rw [hrel2.out.2.2, ext_end HR.out hhd, HFL.out]
        clear hn hhd h8 h7
        have HT8 := Lib.hid (rows_either h9.out.2.1)
        have HMANY : Hid (2 ≤ (acc ++ l).length) := by show _ ≤ _; rw [List.length_append]; exact HTWO.out
        have e8 : (((acc.length + l.length : Nat) : Int) == 1) = false := beq_eq_false_iff_ne.2 (by have h : 2 ≤ acc.length + l.length := HTWO.out; omega)
        have HN8 : Hid ((acc ++ l).length = acc.length + l.length) := List.length_append
        generalize acc.length + l.length = n8 at *
        go_wp2_with fail
        go_ret
        exact .inr ⟨_, _, _, by rw [HEND.out]; show Except.ok (packE _, _) = _; rw [packE_many HMANY.out], rfl, by rw [← HN8.out]; exact HT8.out.mono (fun k _ hk => Nat.le_trans h9.out.2.2.1 hk), by rw [show i + (k + j) = i + k + j from by omega]; exact h9.out.1⟩
    · have a1 : ∀ W, (Instr.typeAssert (.iface T x) 32 43 true).run Tryz.prog W = .ok (.tuple #[.slice none 0 0, .bool false]) W := fun W => assert43_no W T x hT
      have HFL : Hid (flatE t = [t]) := flatE_self hTl
      have HLL : Hid ([t].length ≤ j) := HPB.out.1.1
      have HB : Hid (acc.length + 1 ≤ 1024) := by have h1 := HLE.out; have h2 := HPB.out.1.1; have h3 := hrel2.out.1; show _ ≤ _; omega
      have HT1 : Hid (∀ (n : Nat) u t', [Value.iface T x][n]? = some u → [t][n]? = some t' → TermIs (Off Z (.slice A acc.length c)) (w2.alloc (.cells #[.iface T x] 32)) u t') := fun n u t' hu ht => by
        cases n with
        | zero => cases hu; cases ht; exact ht2.out.later ((Below.refl _ _).alloc (Nat.le_refl _) _)
        | succ n => cases hu
      have HNW := Lib.hid (news_one w2 (.iface T x) 32)
      have HONE := Lib.hid (one_cell (.iface T x) rfl)
      clear ht2 hT hTl HPB
      by_cases ha : acc = []
      · subst ha
        go_upto_region 8 with (first | (at_builtin; go_loud (refine app_rows 43 el43 rfl (.tmp 9) (.tmp 11) rfl (p := p) (Z := Z) (acc := []) (ts := [t]) (us := [.iface T x]) rfl (hs2.out.alloc (.cells #[.iface T x] 32)) ⟨w2.heap.size, 0, none⟩ 1 1 rfl (by decide) rfl rfl HNW HONE HT1 1 rfl HB ?_); intro g7 c7 w7 h7))
        clear hs2
        have HTK := Lib.hid (take_any { p with w1 := w7 } (i + k + j) o wOr w7 hp h7.out.1.fresh)
        have HTK : Hid (Calls Tryz.prog 37 #[.pointer (some ⟨p.P, 0, none⟩), .string ⟨#[111, 114]⟩] w7 (TakePost { p with w1 := w7 } (i + k + j) o wOr)) := HTK
        go_wp2_with fail
        refine HTK.out.mono ?_
        clear HTK
        rintro e w8 (⟨hn, rfl, h8⟩ | ⟨hn, rfl, h8⟩)
        · have hhd := (HNX.out _ rfl).1 hn
          have h9 : Hid (St p Z w8 (.slice (some ⟨g7, 0, none⟩) ([] ++ [t]).length c7) ([] ++ [t]) (i + k + j + 1) o) := h7.out.call h8.out
          have HMORE : Hid (R0 = ext ([] ++ [t]) (k + (j + 1)) (seqF one wOr flatE g0 (p.ws.drop (i + (k + (j + 1)))))) := by
            show _ = _
            rw [hrel2.out.2.2, ext_more HR.out hhd, HFL.out, List.drop_drop]
            rw [show i + k + (j + 1) = i + (k + (j + 1)) from by omega]
          have HLN : Hid ((p.ws.drop (i + (k + (j + 1)))).length < g0) := by
            have h1 := hrel2.out.2.1
            have h2 := head_len hhd
            rw [List.length_drop] at h1 h2
            show _ < _
            rw [List.length_drop]
            omega
          clear hn hhd h8 h7
          go_wp2_with fail
          obtain ⟨g1, rfl⟩ : ∃ g1, g0 = g1 + 1 := ⟨g0 - 1, by have := HLN.out; omega⟩
          go_roundg (g1 + 1)
          case measure => omega
          case rel => exact ⟨g1, k + (j + 1), [] ++ [t], _, c7, rfl, by first | (rw [List.length_append]; rfl) | rw [List.length_append], by rw [show i + (k + (j + 1)) = i + k + j + 1 from by omega]; exact h9, by have h1 := HLL.out; have h2 := hrel2.out.1; show _ ≤ _; rw [List.length_append]; omega, HLN.out, HMORE.out⟩
        · have hhd : ¬ ((p.ws.drop (i + k)).drop j).head? = some wOr := fun h => by have e : isNext p (i + k + j) wOr = false := hn; rw [(HNX.out _ rfl).2 h] at e; cases e
          have h9 : Hid (St p Z w8 (.slice (some ⟨g7, 0, none⟩) ([] ++ [t]).length c7) ([] ++ [t]) (i + k + j) o) := h7.out.call h8.out
          have HEND : Hid (R0 = .ok ([] ++ [t], k + j)) := by
            show _ = _
            rw [hrel2.out.2.2, ext_end HR.out hhd, HFL.out]
          clear hn hhd h8 h7
          obtain ⟨ad8, v8, hA8, hc8, ht8⟩ := rows_one h9.out.2.1
          have HT8 := Lib.hid ht8
          cases hA8
          have hc8 : w8.cell? ⟨g7, 0, none⟩ = some v8 := hc8
          clear ht8
          go_wp2_with fail
          go_ret
          exact .inr ⟨_, _, _, by rw [HEND.out]; rfl, rfl, HT8.out.mono (fun k _ hk => Nat.le_trans h9.out.2.2.1 hk), by rw [show i + (k + j) = i + k + j from by omega]; exact h9.out.1⟩
      · have HTWO : Hid (2 ≤ acc.length + [t].length) := by
          cases acc with
          | nil => exact absurd rfl ha
          | cons a acc => show 2 ≤ acc.length + 1 + 1; omega
        clear ha
        go_upto_region 8 with (first | (at_builtin; go_loud (refine app_rows 43 el43 rfl (.tmp 9) (.tmp 11) rfl (p := p) (Z := Z) (acc := acc) (ts := [t]) (us := [.iface T x]) rfl (hs2.out.alloc (.cells #[.iface T x] 32)) ⟨w2.heap.size, 0, none⟩ 1 1 rfl (by decide) rfl rfl HNW HONE HT1 (acc.length + 1) rfl HB ?_); intro g7 c7 w7 h7))
        clear hs2
        have HTK := Lib.hid (take_any { p with w1 := w7 } (i + k + j) o wOr w7 hp h7.out.1.fresh)
        have HTK : Hid (Calls Tryz.prog 37 #[.pointer (some ⟨p.P, 0, none⟩), .string ⟨#[111, 114]⟩] w7 (TakePost { p with w1 := w7 } (i + k + j) o wOr)) := HTK
        go_wp2_with fail
        refine HTK.out.mono ?_
        clear HTK
        rintro e w8 (⟨hn, rfl, h8⟩ | ⟨hn, rfl, h8⟩)
        · have hhd := (HNX.out _ rfl).1 hn
          have h9 : Hid (St p Z w8 (.slice (some ⟨g7, 0, none⟩) (acc ++ [t]).length c7) (acc ++ [t]) (i + k + j + 1) o) := h7.out.call h8.out
          have HMORE : Hid (R0 = ext (acc ++ [t]) (k + (j + 1)) (seqF one wOr flatE g0 (p.ws.drop (i + (k + (j + 1)))))) := by
            show _ = _
            rw [hrel2.out.2.2, ext_more HR.out hhd, HFL.out, List.drop_drop]
            rw [show i + k + (j + 1) = i + (k + (j + 1)) from by omega]
          have HLN : Hid ((p.ws.drop (i + (k + (j + 1)))).length < g0) := by
            have h1 := hrel2.out.2.1
            have h2 := head_len hhd
            rw [List.length_drop] at h1 h2
            show _ < _
            rw [List.length_drop]
            omega
          clear hn hhd h8 h7
          go_wp2_with fail
          obtain ⟨g1, rfl⟩ : ∃ g1, g0 = g1 + 1 := ⟨g0 - 1, by have := HLN.out; omega⟩
          go_roundg (g1 + 1)
          case measure => omega
          case rel => exact ⟨g1, k + (j + 1), acc ++ [t], _, c7, rfl, by first | (rw [List.length_append]; rfl) | rw [List.length_append], by rw [show i + (k + (j + 1)) = i + k + j + 1 from by omega]; exact h9, by have h1 := HLL.out; have h2 := hrel2.out.1; show _ ≤ _; rw [List.length_append]; omega, HLN.out, HMORE.out⟩
        · have hhd : ¬ ((p.ws.drop (i + k)).drop j).head? = some wOr := fun h => by have e : isNext p (i + k + j) wOr = false := hn; rw [(HNX.out _ rfl).2 h] at e; cases e
          have h9 : Hid (St p Z w8 (.slice (some ⟨g7, 0, none⟩) (acc ++ [t]).length c7) (acc ++ [t]) (i + k + j) o) := h7.out.call h8.out
          have HEND : Hid (R0 = .ok (acc ++ [t], k + j)) := by
            show _ = _
            rw [hrel2.out.2.2, ext_end HR.out hhd, HFL.out]
          clear hn hhd h8 h7
          have HT8 := Lib.hid (rows_either h9.out.2.1)
          have HMANY : Hid (2 ≤ (acc ++ [t]).length) := by show _ ≤ _; rw [List.length_append]; exact HTWO.out
          have e8 : (((acc.length + 1 : Nat) : Int) == 1) = false := beq_eq_false_iff_ne.2 (by have h : 2 ≤ acc.length + 1 := HTWO.out; omega)
          have HN8 : Hid ((acc ++ [t]).length = acc.length + 1) := List.length_append
          generalize acc.length + 1 = n8 at *
          go_wp2_with fail
          go_ret
          exact .inr ⟨_, _, _, by rw [HEND.out]; show Except.ok (packE _, _) = _; rw [packE_many HMANY.out], rfl, by rw [← HN8.out]; exact HT8.out.mono (fun k _ hk => Nat.le_trans h9.out.2.2.1 hk), by rw [show i + (k + j) = i + k + j from by omega]; exact h9.out.1⟩
end Go.Proofs.YtcdhkeahcliefaaGreatDoor.ParseO
/- The document's words of a line: next, Words. -/
namespace Go.Proofs.YtcdhkeahcliefaaGreatDoor.LexD
open Go.ChangeShapes Go.WideShapes Go.ChangeAt Go.RowKit
open Go.Proofs.YtcdhkeahcliefaaGreatDoor.Kit Go.Proofs.YtcdhkeahcliefaaGreatDoor.Base Go.Proofs.YtcdhkeahcliefaaGreatDoor.Bld Go.Proofs.YtcdhkeahcliefaaGreatDoor.Lex Go.Proofs.YtcdhkeahcliefaaGreatDoor.LexB Go.Proofs.YtcdhkeahcliefaaGreatDoor.LexC
set_option linter.unusedVariables false

theorem blank_no {c : Nat} (h1 : c ≠ 32) (h2 : c ≠ 9) : isBlank c = false := by
  unfold isBlank
  simp [h1, h2]
theorem Rd.of_end {Z P : Nat} {w0 w : World} {s t : Lx} (h : Rd Z P w0 w s) (e : t = s) : Rd Z P w0 w t := e ▸ h
theorem byte_of {x : Int} (h0 : 0 ≤ x) (h1 : x < 256) : x = ((UInt8.ofNat x.toNat).toNat : Int) := by
  simp
  omega
set_option maxRecDepth 100000 in
set_option maxHeartbeats 1600000 in
theorem next_0 (Z P : Nat) (w0 w : World) (s : Lx) (c : UInt8) (hp : s.pos = 0) (h : Hid (Rd Z P w0 w s)) (hs : Hid (Sm s)) :
    Calls Tryz.prog 38 #[.pointer (some ⟨P, 0, none⟩), .int .u8 (c.toNat : Int)] w fun e w' => e = .returned (.tuple #[]) ∧ Hid (Rd Z P w0 w' (nextS s c)) := by
  obtain ⟨vw, vs, hv⟩ := h.out
  have HV := Lib.hid hv
  have c0 : w.cell? ⟨P, 0, none⟩ = some (.int .i64 0) := by rw [hv.2.2.1.cell 0, hp]; rfl
  have g0 := hv.2.2.1.frozen 0
  have c1 : w.cell? ⟨P, 1, none⟩ = some vw := (hv.2.2.1.cell 1).trans rfl
  have c3 : w.cell? ⟨P, 3, none⟩ = some (.int .i64 s.dig) := (hv.2.2.1.cell 3).trans rfl
  have g3 := hv.2.2.1.frozen 3
  have c4 : w.cell? ⟨P, 4, none⟩ = some (.bool s.bad) := (hv.2.2.1.cell 4).trans rfl
  have g4 := hv.2.2.1.frozen 4
  have HP := Lib.hid hp
  clear hv hp
  have HR : Hid (nextS s c = firstS s c) := by show _ = _; unfold nextS; simp [HP.out]
  go_enter Tryz.func38, Tryz.ntmps38
  go_wp2_with fail
  refine (first_any Z P w0 _ s c h hs).mono ?_
  rintro e w2 ⟨rfl, h2⟩
  clear c0 c1 c3 c4 g0 g3 g4
  go_wp2_with fail
  go_end0
  refine ⟨rfl, ?_⟩
  rw [HR.out]
  exact h2
set_option maxRecDepth 100000 in
set_option maxHeartbeats 1600000 in
theorem next_2 (Z P : Nat) (w0 w : World) (s : Lx) (c : UInt8) (hp : s.pos = 2) (h : Hid (Rd Z P w0 w s)) (hs : Hid (Sm s)) :
    Calls Tryz.prog 38 #[.pointer (some ⟨P, 0, none⟩), .int .u8 (c.toNat : Int)] w fun e w' => e = .returned (.tuple #[]) ∧ Hid (Rd Z P w0 w' (nextS s c)) := by
  obtain ⟨vw, vs, hv⟩ := h.out
  have HV := Lib.hid hv
  have c0 : w.cell? ⟨P, 0, none⟩ = some (.int .i64 2) := by rw [hv.2.2.1.cell 0, hp]; rfl
  have g0 := hv.2.2.1.frozen 0
  have c1 : w.cell? ⟨P, 1, none⟩ = some vw := (hv.2.2.1.cell 1).trans rfl
  have c3 : w.cell? ⟨P, 3, none⟩ = some (.int .i64 s.dig) := (hv.2.2.1.cell 3).trans rfl
  have g3 := hv.2.2.1.frozen 3
  have c4 : w.cell? ⟨P, 4, none⟩ = some (.bool s.bad) := (hv.2.2.1.cell 4).trans rfl
  have g4 := hv.2.2.1.frozen 4
  have HP := Lib.hid hp
  clear hv hp
  have HR : Hid (nextS s c = insideS s c) := by show _ = _; unfold nextS; simp [HP.out]
  go_enter Tryz.func38, Tryz.ntmps38
  go_wp2_with fail
  refine (inside_any Z P w0 _ s c h hs).mono ?_
  rintro e w2 ⟨rfl, h2⟩
  clear c0 c1 c3 c4 g0 g3 g4
  go_wp2_with fail
  go_end0
  refine ⟨rfl, ?_⟩
  rw [HR.out]
  exact h2
set_option maxRecDepth 100000 in
set_option maxHeartbeats 1600000 in
theorem next_3 (Z P : Nat) (w0 w : World) (s : Lx) (c : UInt8) (hp : s.pos = 3) (h : Hid (Rd Z P w0 w s)) (hs : Hid (Sm s)) :
    Calls Tryz.prog 38 #[.pointer (some ⟨P, 0, none⟩), .int .u8 (c.toNat : Int)] w fun e w' => e = .returned (.tuple #[]) ∧ Hid (Rd Z P w0 w' (nextS s c)) := by
  obtain ⟨vw, vs, hv⟩ := h.out
  have HV := Lib.hid hv
  have c0 : w.cell? ⟨P, 0, none⟩ = some (.int .i64 3) := by rw [hv.2.2.1.cell 0, hp]; rfl
  have g0 := hv.2.2.1.frozen 0
  have c1 : w.cell? ⟨P, 1, none⟩ = some vw := (hv.2.2.1.cell 1).trans rfl
  have c3 : w.cell? ⟨P, 3, none⟩ = some (.int .i64 s.dig) := (hv.2.2.1.cell 3).trans rfl
  have g3 := hv.2.2.1.frozen 3
  have c4 : w.cell? ⟨P, 4, none⟩ = some (.bool s.bad) := (hv.2.2.1.cell 4).trans rfl
  have g4 := hv.2.2.1.frozen 4
  have HP := Lib.hid hp
  clear hv hp
  have HR : Hid (nextS s c = escapedS s c) := by show _ = _; unfold nextS; simp [HP.out]
  go_enter Tryz.func38, Tryz.ntmps38
  go_wp2_with fail
  refine (escaped_any Z P w0 _ s c h hs).mono ?_
  rintro e w2 ⟨rfl, h2⟩
  clear c0 c1 c3 c4 g0 g3 g4
  go_wp2_with fail
  go_end0
  refine ⟨rfl, ?_⟩
  rw [HR.out]
  exact h2
set_option maxRecDepth 100000 in
set_option maxHeartbeats 1600000 in
theorem next_1 (Z P : Nat) (w0 w : World) (s : Lx) (c : UInt8) (hp : s.pos = 1) (h : Hid (Rd Z P w0 w s)) (hs : Hid (Sm s)) :
    Calls Tryz.prog 38 #[.pointer (some ⟨P, 0, none⟩), .int .u8 (c.toNat : Int)] w fun e w' => e = .returned (.tuple #[]) ∧ Hid (Rd Z P w0 w' (nextS s c)) := by
  obtain ⟨vw, vs, hv⟩ := h.out
  have HV := Lib.hid hv
  have c0 : w.cell? ⟨P, 0, none⟩ = some (.int .i64 1) := by rw [hv.2.2.1.cell 0, hp]; rfl
  have g0 := hv.2.2.1.frozen 0
  have c1 : w.cell? ⟨P, 1, none⟩ = some vw := (hv.2.2.1.cell 1).trans rfl
  have c3 : w.cell? ⟨P, 3, none⟩ = some (.int .i64 s.dig) := (hv.2.2.1.cell 3).trans rfl
  have g3 := hv.2.2.1.frozen 3
  have c4 : w.cell? ⟨P, 4, none⟩ = some (.bool s.bad) := (hv.2.2.1.cell 4).trans rfl
  have g4 := hv.2.2.1.frozen 4
  have HP := Lib.hid hp
  clear hv hp
  by_cases hc : c.toNat = 32
  · have HR : Hid (nextS s c = { endsS s with pos := 0 }) := by show _ = _; unfold nextS isBlank; rw [if_neg (by have := HP.out; omega), if_pos HP.out, if_pos (by rw [hc]; rfl)]
    have e32 : ((c.toNat : Int) == 32) = true := beq_iff_eq.2 (by omega)
    clear hc
    go_enter Tryz.func38, Tryz.ntmps38
    go_wp2_with fail
    refine (ends_any Z P w0 _ s h hs).mono ?_
    rintro e w2 ⟨rfl, h2⟩
    obtain ⟨vw2, vs2, hv2⟩ := h2.out
    have d0 : w2.cell? ⟨P, 0, none⟩ = some (.int .i64 (endsS s).pos) := (hv2.2.2.1.cell 0).trans rfl
    have f0 := hv2.2.2.1.frozen 0
    have HV2 := Lib.hid hv2
    clear hv2 c0 c1 c3 c4 g0 g3 g4
    go_wp2_with fail
    go_end0
    refine ⟨rfl, ?_⟩
    rw [HR.out]
    exact ⟨_, _, HV2.out.setPos 0⟩
  have e32 : ((c.toNat : Int) == 32) = false := beq_eq_false_iff_ne.2 (by omega)
  have y32 := Lib.hid hc
  clear hc
  by_cases hc : c.toNat = 9
  · have HR : Hid (nextS s c = { endsS s with pos := 0 }) := by show _ = _; unfold nextS isBlank; rw [if_neg (by have := HP.out; omega), if_pos HP.out, if_pos (by rw [hc]; rfl)]
    have e9 : ((c.toNat : Int) == 9) = true := beq_iff_eq.2 (by omega)
    clear hc
    go_enter Tryz.func38, Tryz.ntmps38
    go_wp2_with fail
    refine (ends_any Z P w0 _ s h hs).mono ?_
    rintro e w2 ⟨rfl, h2⟩
    obtain ⟨vw2, vs2, hv2⟩ := h2.out
    have d0 : w2.cell? ⟨P, 0, none⟩ = some (.int .i64 (endsS s).pos) := (hv2.2.2.1.cell 0).trans rfl
    have f0 := hv2.2.2.1.frozen 0
    have HV2 := Lib.hid hv2
    clear hv2 c0 c1 c3 c4 g0 g3 g4
    go_wp2_with fail
    go_end0
    refine ⟨rfl, ?_⟩
    rw [HR.out]
    exact ⟨_, _, HV2.out.setPos 0⟩
  have e9 : ((c.toNat : Int) == 9) = false := beq_eq_false_iff_ne.2 (by omega)
  have y9 := Lib.hid hc
  clear hc
  have HR : Hid (nextS s c = plainS s c) := by show _ = _; unfold nextS; rw [if_neg (by have := HP.out; omega), if_pos HP.out, if_neg (by rw [blank_no y32.out y9.out]; simp)]
  go_enter Tryz.func38, Tryz.ntmps38
  go_wp2_with fail
  refine (plain_any Z P w0 _ s c h hs).mono ?_
  rintro e w2 ⟨rfl, h2⟩
  clear c0 c1 c3 c4 g0 g3 g4
  go_wp2_with fail
  go_end0
  refine ⟨rfl, ?_⟩
  rw [HR.out]
  exact h2
set_option maxRecDepth 100000 in
set_option maxHeartbeats 1600000 in
theorem next_6 (Z P : Nat) (w0 w : World) (s : Lx) (c : UInt8) (hp : s.pos = 6) (h : Hid (Rd Z P w0 w s)) (hs : Hid (Sm s)) :
    Calls Tryz.prog 38 #[.pointer (some ⟨P, 0, none⟩), .int .u8 (c.toNat : Int)] w fun e w' => e = .returned (.tuple #[]) ∧ Hid (Rd Z P w0 w' (nextS s c)) := by
  obtain ⟨vw, vs, hv⟩ := h.out
  have HV := Lib.hid hv
  have c0 : w.cell? ⟨P, 0, none⟩ = some (.int .i64 6) := by rw [hv.2.2.1.cell 0, hp]; rfl
  have g0 := hv.2.2.1.frozen 0
  have c1 : w.cell? ⟨P, 1, none⟩ = some vw := (hv.2.2.1.cell 1).trans rfl
  have c3 : w.cell? ⟨P, 3, none⟩ = some (.int .i64 s.dig) := (hv.2.2.1.cell 3).trans rfl
  have g3 := hv.2.2.1.frozen 3
  have c4 : w.cell? ⟨P, 4, none⟩ = some (.bool s.bad) := (hv.2.2.1.cell 4).trans rfl
  have g4 := hv.2.2.1.frozen 4
  have HP := Lib.hid hp
  clear hv hp
  by_cases hc : c.toNat = 32
  · have HR : Hid (nextS s c = { s with pos := 0 }) := by
      show _ = _
      unfold nextS
      rw [if_neg (by have := HP.out; omega), if_neg (by have := HP.out; omega), if_neg (by have := HP.out; omega), if_neg (by have := HP.out; omega), if_neg (by have := HP.out; omega), if_neg (by have := HP.out; omega), if_pos HP.out, show isBlank c.toNat = true from by rw [hc]; rfl]
      simp
    have e32 : ((c.toNat : Int) == 32) = true := beq_iff_eq.2 (by omega)
    have m32 : ((c.toNat : Int) != 32) = false := bne_eq_false_iff_eq.2 (by omega)
    clear hc
    go_enter Tryz.func38, Tryz.ntmps38
    go_wp2_with fail
    go_end0
    refine ⟨rfl, ?_⟩
    rw [HR.out]
    exact ⟨_, _, HV.out.setPos 0⟩
  have m32 : ((c.toNat : Int) != 32) = true := bne_iff_ne.2 (by omega)
  have y32 := Lib.hid hc
  clear hc
  by_cases hc : c.toNat = 9
  · have HR : Hid (nextS s c = { s with pos := 0 }) := by
      show _ = _
      unfold nextS
      rw [if_neg (by have := HP.out; omega), if_neg (by have := HP.out; omega), if_neg (by have := HP.out; omega), if_neg (by have := HP.out; omega), if_neg (by have := HP.out; omega), if_neg (by have := HP.out; omega), if_pos HP.out, show isBlank c.toNat = true from by rw [hc]; rfl]
      simp
    have e9 : ((c.toNat : Int) == 9) = true := beq_iff_eq.2 (by omega)
    have m9 : ((c.toNat : Int) != 9) = false := bne_eq_false_iff_eq.2 (by omega)
    clear hc
    go_enter Tryz.func38, Tryz.ntmps38
    go_wp2_with fail
    go_end0
    refine ⟨rfl, ?_⟩
    rw [HR.out]
    exact ⟨_, _, HV.out.setPos 0⟩
  have m9 : ((c.toNat : Int) != 9) = true := bne_iff_ne.2 (by omega)
  have y9 := Lib.hid hc
  clear hc
  have HR : Hid (nextS s c = { s with bad := true, pos := 0 }) := by
    show _ = _
    unfold nextS
    rw [if_neg (by have := HP.out; omega), if_neg (by have := HP.out; omega), if_neg (by have := HP.out; omega), if_neg (by have := HP.out; omega), if_neg (by have := HP.out; omega), if_neg (by have := HP.out; omega), if_pos HP.out, blank_no y32.out y9.out]
    simp
  go_enter Tryz.func38, Tryz.ntmps38
  go_upto_region 26 with (fail)
  have h1 : Hid (RdV Z P w0 (w.setCell ⟨P, 4, none⟩ (.bool true)) { s with bad := true } vw vs) := HV.out.setBad true
  clear c0 c1 c3 c4 g0 g3 g4
  generalize w.setCell ⟨P, 4, none⟩ (.bool true) = w1 at *
  have c0 : w1.cell? ⟨P, 0, none⟩ = some (.int .i64 s.pos) := (h1.out.2.2.1.cell 0).trans rfl
  have g0 := h1.out.2.2.1.frozen 0
  go_wp2_with fail
  go_end0
  refine ⟨rfl, ?_⟩
  rw [HR.out]
  exact ⟨_, _, h1.out.setPos 0⟩
set_option maxRecDepth 100000 in
set_option maxHeartbeats 1600000 in
theorem next_4 (Z P : Nat) (w0 w : World) (s : Lx) (c : UInt8) (hp : s.pos = 4) (h : Hid (Rd Z P w0 w s)) (hs : Hid (Sm s)) :
    Calls Tryz.prog 38 #[.pointer (some ⟨P, 0, none⟩), .int .u8 (c.toNat : Int)] w fun e w' => e = .returned (.tuple #[]) ∧ Hid (Rd Z P w0 w' (nextS s c)) := by
  obtain ⟨vw, vs, hv⟩ := h.out
  have HV := Lib.hid hv
  have c0 : w.cell? ⟨P, 0, none⟩ = some (.int .i64 4) := by rw [hv.2.2.1.cell 0, hp]; rfl
  have g0 := hv.2.2.1.frozen 0
  have c1 : w.cell? ⟨P, 1, none⟩ = some vw := (hv.2.2.1.cell 1).trans rfl
  have c3 : w.cell? ⟨P, 3, none⟩ = some (.int .i64 s.dig) := (hv.2.2.1.cell 3).trans rfl
  have g3 := hv.2.2.1.frozen 3
  have c4 : w.cell? ⟨P, 4, none⟩ = some (.bool s.bad) := (hv.2.2.1.cell 4).trans rfl
  have g4 := hv.2.2.1.frozen 4
  have HP := Lib.hid hp
  clear hv hp
  have HY := Lib.hid c.toNat_lt
  obtain ⟨d, hd⟩ : ∃ d, hexv c.toNat = d := ⟨_, rfl⟩
  have HD := Lib.hid hd
  have HR : Hid (nextS s c = { s with dig := d, pos := 5, bad := s.bad || decide (d < 0) }) := by
    show _ = _
    unfold nextS
    rw [if_neg (by have := HP.out; omega), if_neg (by have := HP.out; omega), if_neg (by have := HP.out; omega), if_neg (by have := HP.out; omega), if_pos HP.out, hd]
  clear hd
  go_enter Tryz.func38, Tryz.ntmps38
  go_upto_region 13 with (fail)
  go_wp2_with fail
  refine (hex_any c.toNat _ (by have := HY.out; omega)).mono ?_
  rintro e w2 ⟨rfl, rfl⟩
  rw [HD.out]
  go_upto_region 15 with (fail)
  have h1 : Hid (RdV Z P w0 ((w.setCell ⟨P, 3, none⟩ (.int .i64 d)).setCell ⟨P, 0, none⟩ (.int .i64 5)) { s with dig := d, pos := 5 } vw vs) := (HV.out.setDig d).setPos 5
  clear c0 c1 c3 c4 g0 g3 g4
  generalize (w.setCell ⟨P, 3, none⟩ (.int .i64 d)).setCell ⟨P, 0, none⟩ (.int .i64 5) = w1 at *
  have c3 : w1.cell? ⟨P, 3, none⟩ = some (.int .i64 d) := (h1.out.2.2.1.cell 3).trans rfl
  have c4 : w1.cell? ⟨P, 4, none⟩ = some (.bool s.bad) := (h1.out.2.2.1.cell 4).trans rfl
  have g4 := h1.out.2.2.1.frozen 4
  by_cases hneg : d < 0
  · have HB : Hid ({ s with dig := d, pos := 5, bad := s.bad || decide (d < 0) } = { s with dig := d, pos := 5, bad := true }) := by show _ = _; simp [hneg]
    go_wp2_with fail
    go_end0
    refine ⟨rfl, ?_⟩
    rw [HR.out, HB.out]
    exact ⟨_, _, h1.out.setBad true⟩
  · have HB : Hid ({ s with dig := d, pos := 5, bad := s.bad || decide (d < 0) } = { s with dig := d, pos := 5 }) := by show _ = _; simp [hneg]
    go_wp2_with fail
    go_end0
    refine ⟨rfl, ?_⟩
    rw [HR.out, HB.out]
    exact ⟨_, _, h1.out⟩
set_option maxRecDepth 100000 in
set_option maxHeartbeats 1600000 in
theorem next_5 (Z P : Nat) (w0 w : World) (s : Lx) (c : UInt8) (hp : s.pos = 5) (h : Hid (Rd Z P w0 w s)) (hs : Hid (Sm s)) (hg : Hid (0 ≤ s.dig ∧ s.dig ≤ 15)) :
    Calls Tryz.prog 38 #[.pointer (some ⟨P, 0, none⟩), .int .u8 (c.toNat : Int)] w fun e w' => e = .returned (.tuple #[]) ∧ Hid (Rd Z P w0 w' (nextS s c)) := by
  obtain ⟨vw, vs, hv⟩ := h.out
  have HV := Lib.hid hv
  have c0 : w.cell? ⟨P, 0, none⟩ = some (.int .i64 5) := by rw [hv.2.2.1.cell 0, hp]; rfl
  have g0 := hv.2.2.1.frozen 0
  have c1 : w.cell? ⟨P, 1, none⟩ = some vw := (hv.2.2.1.cell 1).trans rfl
  have c3 : w.cell? ⟨P, 3, none⟩ = some (.int .i64 s.dig) := (hv.2.2.1.cell 3).trans rfl
  have g3 := hv.2.2.1.frozen 3
  have c4 : w.cell? ⟨P, 4, none⟩ = some (.bool s.bad) := (hv.2.2.1.cell 4).trans rfl
  have g4 := hv.2.2.1.frozen 4
  have HP := Lib.hid hp
  clear hv hp
  have HY := Lib.hid c.toNat_lt
  obtain ⟨d, hd⟩ : ∃ d, hexv c.toNat = d := ⟨_, rfl⟩
  have HD := Lib.hid hd
  have HD9 : Hid (d ≤ 15 ∧ -1 ≤ d) := by rw [← hd]; exact hexv_le _
  have HN : Hid (nextS s c = lowS s c) := by
    show _ = _
    unfold nextS
    rw [if_neg (by have := HP.out; omega), if_neg (by have := HP.out; omega), if_neg (by have := HP.out; omega), if_neg (by have := HP.out; omega), if_neg (by have := HP.out; omega), if_pos HP.out]
  by_cases hneg : d < 0
  · have HR : Hid (lowS s c = { s with pos := 2, bad := true }) := by show _ = _; unfold lowS; rw [hd, if_pos hneg]
    clear hd
    go_enter Tryz.func38, Tryz.ntmps38
    go_wp2_with fail
    refine (hex_any c.toNat _ (by have := HY.out; omega)).mono ?_
    rintro e w2 ⟨rfl, rfl⟩
    rw [HD.out]
    go_upto_region 22 with (fail)
    have h1 : Hid (RdV Z P w0 (w.setCell ⟨P, 4, none⟩ (.bool true)) { s with bad := true } vw vs) := HV.out.setBad true
    clear c0 c1 c3 c4 g0 g3 g4
    generalize w.setCell ⟨P, 4, none⟩ (.bool true) = w1 at *
    have c0 : w1.cell? ⟨P, 0, none⟩ = some (.int .i64 s.pos) := (h1.out.2.2.1.cell 0).trans rfl
    have g0 := h1.out.2.2.1.frozen 0
    go_wp2_with fail
    go_end0
    refine ⟨rfl, ?_⟩
    rw [HN.out, HR.out]
    exact ⟨_, _, h1.out.setPos 2⟩
  · have HR : Hid (lowS s c = { s with pos := 2, word := s.word ++ [UInt8.ofNat (16 * s.dig + d).toNat] }) := by show _ = _; unfold lowS; rw [hd, if_neg hneg]
    have q0 : 0 ≤ d := by omega
    have q1 : d ≤ 15 := HD9.out.1
    have q2 := hg.out.1
    have q3 := hg.out.2
    have HB := Lib.hid (byte_of (x := 16 * s.dig + d) (by omega) (by omega))
    have W1 : IntKind.u8.wrap (16 * s.dig + d) = 16 * s.dig + d := by show (16 * s.dig + d) % 256 = _; omega
    have W2 : IntKind.i64.wrap (16 * s.dig) = 16 * s.dig := IntWalk.i64_in _ (by omega)
    have W3 : IntKind.i64.wrap (16 * s.dig + d) = 16 * s.dig + d := IntWalk.i64_in _ (by omega)
    obtain ⟨y, hy⟩ : ∃ y, UInt8.ofNat (16 * s.dig + d).toNat = y := ⟨_, rfl⟩
    rw [hy] at HB HR
    clear hd hy
    go_enter Tryz.func38, Tryz.ntmps38
    go_upto_region 18 with (fail)
    go_wp2_with fail
    refine (hex_any c.toNat _ (by have := HY.out; omega)).mono ?_
    rintro e w2 ⟨rfl, rfl⟩
    rw [HD.out]
    go_upto_region 21 with (fail)
    have c1a : (w.alloc (.cells #[.int .u8 (16 * s.dig + d)] 5)).cell? ⟨P, 1, none⟩ = some vw := ((HV.out.2.2.1.alloc _).cell 1).trans rfl
    have HVA : Hid (RdV Z P w0 (w.alloc (.cells #[.int .u8 (16 * s.dig + d)] 5)).drew s vw vs) := ⟨(HV.out.1.alloc _).drew, HV.out.2.1, HV.out.2.2.1.alloc _, alloc_owns HV.out.2.2.2.1 _, alloc_owns HV.out.2.2.2.2 _⟩
    have HNW : Hid (∀ j u, [Value.int .u8 (16 * s.dig + d)][j]? = some u → (w.alloc (.cells #[.int .u8 (16 * s.dig + d)] 5)).drew.cell? ((⟨w.heap.size, 0, none⟩ : Addr).add j) = some u) := news_one w _ 5
    go_region_law (first | (refine step_at (v := vw) el60 rfl (.tmp 71) (.tmp 80) rfl rfl (RdV.raw HVA) ⟨w.heap.size, 0, none⟩ 1 1 [.int .u8 (16 * s.dig + d)] rfl (by decide) rfl HNW (one_cell _ rfl) (Sm.byte hs) ?_; intro A7 c7 w7 h7 hk7; have d1 : w7.cell? ⟨P, 1, none⟩ = some vw := ((hk7.out.blk HVA.out.2.2.1 (by decide)).cell 1).trans rfl; have f1 := (hk7.out.blk HVA.out.2.2.1 (by decide)).frozen 1))
    all_goals (
      have h8 := Lib.hid (HVA.out.push y (by rw [HB.out]) h7.out hk7.out)
      clear d1 f1 c1a c0 c1 c3 c4 g0 g3 g4
      generalize w7.setCell ⟨P, 1, none⟩ (.slice A7 (s.word.length + 1) c7) = w8 at *
      have e0 : w8.cell? ⟨P, 0, none⟩ = some (.int .i64 s.pos) := (h8.out.2.2.1.cell 0).trans rfl
      have f0 := h8.out.2.2.1.frozen 0
      go_wp2_with fail
      go_end0
      refine ⟨rfl, ?_⟩
      rw [HN.out, HR.out]
      exact ⟨_, _, h8.out.setPos 2⟩)
set_option maxRecDepth 100000 in
set_option maxHeartbeats 1600000 in
theorem next_7 (Z P : Nat) (w0 w : World) (s : Lx) (c : UInt8) (hp : s.pos = 7) (h : Hid (Rd Z P w0 w s)) :
    Calls Tryz.prog 38 #[.pointer (some ⟨P, 0, none⟩), .int .u8 (c.toNat : Int)] w fun e w' => e = .returned (.tuple #[]) ∧ Hid (Rd Z P w0 w' (nextS s c)) := by
  obtain ⟨vw, vs, hv⟩ := h.out
  have c0 : w.cell? ⟨P, 0, none⟩ = some (.int .i64 7) := by rw [hv.2.2.1.cell 0, hp]; rfl
  have HR : Hid (nextS s c = s) := by
    show _ = _
    unfold nextS
    rw [if_neg (by omega), if_neg (by omega), if_neg (by omega), if_neg (by omega), if_neg (by omega), if_neg (by omega), if_neg (by omega)]
  clear hv hp
  go_enter Tryz.func38, Tryz.ntmps38
  go_wp2_with fail
  go_end0
  refine ⟨rfl, ?_⟩
  rw [HR.out]
  exact h
theorem pos_next {s : Lx} {c : UInt8} (h : s.pos ≤ 7) : (nextS s c).pos ≤ 7 := by
  unfold nextS firstS insideS escapedS lowS
  repeat' split
  all_goals first | exact h | exact Nat.le_of_ble_eq_true rfl
theorem next_any (Z P : Nat) (w0 w : World) (s : Lx) (c : UInt8) (h7 : s.pos ≤ 7) (h : Hid (Rd Z P w0 w s)) (hs : Hid (Sm s)) (hg : Hid (s.pos = 5 → 0 ≤ s.dig ∧ s.dig ≤ 15)) :
    Calls Tryz.prog 38 #[.pointer (some ⟨P, 0, none⟩), .int .u8 (c.toNat : Int)] w fun e w' => e = .returned (.tuple #[]) ∧ Hid (Rd Z P w0 w' (nextS s c)) := by
  have hp : s.pos = 0 ∨ s.pos = 1 ∨ s.pos = 2 ∨ s.pos = 3 ∨ s.pos = 4 ∨ s.pos = 5 ∨ s.pos = 6 ∨ s.pos = 7 := by omega
  rcases hp with hp | hp | hp | hp | hp | hp | hp | hp
  · exact next_0 Z P w0 w s c hp h hs
  · exact next_1 Z P w0 w s c hp h hs
  · exact next_2 Z P w0 w s c hp h hs
  · exact next_3 Z P w0 w s c hp h hs
  · exact next_4 Z P w0 w s c hp h hs
  · exact next_5 Z P w0 w s c hp h hs (Lib.hid (hg.out hp))
  · exact next_6 Z P w0 w s c hp h hs
  · exact next_7 Z P w0 w s c hp h
end Go.Proofs.YtcdhkeahcliefaaGreatDoor.LexD
