/- The program's parser.term: leaves with a word behind. -/
import Derived.Test.YtcdhkeahcliefaaGreatDoorPrint16
namespace Go.Proofs.YtcdhkeahcliefaaGreatDoor.TermC
open Go.ChangeShapes Go.WideShapes Go.ChangeAt Go.RowKit
open Go.Proofs.YtcdhkeahcliefaaGreatDoor.Kit Go.Proofs.YtcdhkeahcliefaaGreatDoor.Base Go.Proofs.YtcdhkeahcliefaaGreatDoor.Pat Go.Proofs.YtcdhkeahcliefaaGreatDoor.PatA Go.Proofs.YtcdhkeahcliefaaGreatDoor.Tok Go.Proofs.YtcdhkeahcliefaaGreatDoor.TokB Go.Proofs.YtcdhkeahcliefaaGreatDoor.TokC Go.Proofs.YtcdhkeahcliefaaGreatDoor.TokD Go.Proofs.YtcdhkeahcliefaaGreatDoor.TokE Go.Proofs.YtcdhkeahcliefaaGreatDoor.Term Go.Proofs.YtcdhkeahcliefaaGreatDoor.TermB
set_option linter.unusedVariables false

set_option maxRecDepth 100000 in
set_option maxHeartbeats 1600000 in
theorem leaf_kind (p : Pw) (i o : Nat) (w : World) (hp : Hid p.Ok) (h : Hid (Pr p w i o)) (hw : Hid (∀ x ∈ p.ws, x.length ≤ 1023)) :
    Calls Tryz.prog 70 #[.pointer (some ⟨p.P, 0, none⟩), .string (str [107, 105, 110, 100])] w (TermPost p i o (leaf [107, 105, 110, 100] (p.ws.drop i))) := by
  have HF := field_any [107, 105, 110, 100] w
  rw [show isField [107, 105, 110, 100] = false from rfl, show str [107, 105, 110, 100] = ⟨#[107, 105, 110, 100]⟩ from rfl] at HF
  rw [show str [107, 105, 110, 100] = ⟨#[107, 105, 110, 100]⟩ from rfl]
  have hpn := panics 191
  by_cases hlt : i < p.ws.length
  · obtain ⟨a, ha⟩ : ∃ a, p.ws[i] = a := ⟨_, rfl⟩
    have HR : Hid (leaf [107, 105, 110, 100] (p.ws.drop i) = if kindW a = 0 then .error 191 else .ok (.kind a, 1)) := by show _ = _; rw [List.drop_eq_getElem_cons hlt, ha]; rfl
    have HN := fun w h => next_word p i o w hp h a hlt ha
    have HL : Hid (a.length ≤ 1023) := by rw [← ha]; exact hw.out _ (List.getElem_mem hlt)
    rw [HR.out]
    clear hlt ha
    by_cases hk : kindW a = 0
    · rw [if_pos hk]
      have HK := Lib.hid hk
      clear hk
      go_enter Tryz.func70, Tryz.ntmps70
      go_wp2_with fail
      refine HF.mono ?_
      rintro e w2 ⟨rfl, hb⟩
      have h2 : Hid (Pr p w2 i o) := h.out.next hb.out
      go_wp2_with fail
      refine (HN w2 h2).mono ?_
      rintro e w3 ⟨rfl, h3⟩
      go_wp2_with fail
      refine (kind_any a w3).mono ?_
      rintro e w4 ⟨rfl, rfl⟩
      rw [HK.out]
      go_wp2_with fail
      exact ⟨rfl, .inl ⟨_, rfl, rfl, h3.out.1⟩⟩
    · rw [if_neg hk]
      have t0 : (kindW a == 0) = false := beq_eq_false_iff_ne.2 hk
      clear hk
      go_enter Tryz.func70, Tryz.ntmps70
      go_wp2_with fail
      refine HF.mono ?_
      rintro e w2 ⟨rfl, hb⟩
      have h2 : Hid (Pr p w2 i o) := h.out.next hb.out
      go_wp2_with fail
      refine (HN w2 h2).mono ?_
      rintro e w3 ⟨rfl, h3⟩
      go_wp2_with fail
      refine (kind_any a w3).mono ?_
      rintro e w4 ⟨rfl, rfl⟩
      go_wp2_with fail
      go_ret
      exact .inr ⟨_, _, _, rfl, rfl, .kind a, h3⟩
  · have HR : Hid (leaf [107, 105, 110, 100] (p.ws.drop i) = .error 191) := by show _ = _; rw [List.drop_eq_nil_of_le (by omega)]; rfl
    rw [HR.out]
    have HN := fun w h => next_end p i o w hp h hlt
    clear hlt
    go_enter Tryz.func70, Tryz.ntmps70
    go_wp2_with fail
    refine HF.mono ?_
    rintro e w2 ⟨rfl, hb⟩
    have h2 : Hid (Pr p w2 i o) := h.out.next hb.out
    go_wp2_with fail
    refine (HN w2 h2).mono ?_
    rintro e w3 ⟨he, h3⟩
    unfold Threw at he
    subst he
    go_wp2_with fail
    exact ⟨rfl, .inl ⟨_, rfl, rfl, h3⟩⟩
set_option maxRecDepth 100000 in
set_option maxHeartbeats 1600000 in
theorem leaf_name (p : Pw) (i o : Nat) (w : World) (hp : Hid p.Ok) (h : Hid (Pr p w i o)) (hw : Hid (∀ x ∈ p.ws, x.length ≤ 1023)) :
    Calls Tryz.prog 70 #[.pointer (some ⟨p.P, 0, none⟩), .string (str [110, 97, 109, 101])] w (TermPost p i o (leaf [110, 97, 109, 101] (p.ws.drop i))) := by
  have HF := field_any [110, 97, 109, 101] w
  rw [show isField [110, 97, 109, 101] = false from rfl, show str [110, 97, 109, 101] = ⟨#[110, 97, 109, 101]⟩ from rfl] at HF
  rw [show str [110, 97, 109, 101] = ⟨#[110, 97, 109, 101]⟩ from rfl]
  have hpn := panics 191
  by_cases hlt : i < p.ws.length
  · obtain ⟨a, ha⟩ : ∃ a, p.ws[i] = a := ⟨_, rfl⟩
    have HR : Hid (leaf [110, 97, 109, 101] (p.ws.drop i) = if patErr a = 0 then .ok (.pattern [110, 97, 109, 101] a, 1) else .error (patErr a)) := by show _ = _; rw [List.drop_eq_getElem_cons hlt, ha]; rfl
    have HN := fun w h => next_word p i o w hp h a hlt ha
    have HL : Hid (a.length ≤ 1023) := by rw [← ha]; exact hw.out _ (List.getElem_mem hlt)
    rw [HR.out]
    clear hlt ha
    by_cases hk : patErr a = 0
    · rw [if_pos hk]
      have HK := Lib.hid hk
      clear hk
      go_enter Tryz.func70, Tryz.ntmps70
      go_wp2_with fail
      refine HF.mono ?_
      rintro e w2 ⟨rfl, hb⟩
      have h2 : Hid (Pr p w2 i o) := h.out.next hb.out
      go_wp2_with fail
      refine (HN w2 h2).mono ?_
      rintro e w3 ⟨rfl, h3⟩
      go_wp2_with fail
      refine (comp_any a w3).mono ?_
      rintro e w4 (⟨_, A, n, c, rfl, hb4⟩ | ⟨hne, _, _⟩)
      rotate_left
      · exact absurd HK.out hne
      have h4 : Hid (Pr p w4 (i + 1) o) := h3.out.next hb4.out
      go_wp2_with fail
      go_ret
      exact .inr ⟨_, _, _, rfl, rfl, .pattern _ a _ _ _, h4⟩
    · rw [if_neg hk]
      have HK := Lib.hid hk
      clear hk
      go_enter Tryz.func70, Tryz.ntmps70
      go_wp2_with fail
      refine HF.mono ?_
      rintro e w2 ⟨rfl, hb⟩
      have h2 : Hid (Pr p w2 i o) := h.out.next hb.out
      go_wp2_with fail
      refine (HN w2 h2).mono ?_
      rintro e w3 ⟨rfl, h3⟩
      go_wp2_with fail
      refine (comp_any a w3).mono ?_
      rintro e w4 (⟨he, _⟩ | ⟨_, he, hb4⟩)
      · exact absurd he HK.out
      have h4 : Hid (Pr p w4 (i + 1) o) := h3.out.next hb4.out
      unfold Threw at he
      subst he
      go_wp2_with fail
      exact ⟨rfl, .inl ⟨_, rfl, rfl, h4.out.1⟩⟩
  · have HR : Hid (leaf [110, 97, 109, 101] (p.ws.drop i) = .error 191) := by show _ = _; rw [List.drop_eq_nil_of_le (by omega)]; rfl
    rw [HR.out]
    have HN := fun w h => next_end p i o w hp h hlt
    clear hlt
    go_enter Tryz.func70, Tryz.ntmps70
    go_wp2_with fail
    refine HF.mono ?_
    rintro e w2 ⟨rfl, hb⟩
    have h2 : Hid (Pr p w2 i o) := h.out.next hb.out
    go_wp2_with fail
    refine (HN w2 h2).mono ?_
    rintro e w3 ⟨he, h3⟩
    unfold Threw at he
    subst he
    go_wp2_with fail
    exact ⟨rfl, .inl ⟨_, rfl, rfl, h3⟩⟩
set_option maxRecDepth 100000 in
set_option maxHeartbeats 1600000 in
theorem leaf_path (p : Pw) (i o : Nat) (w : World) (hp : Hid p.Ok) (h : Hid (Pr p w i o)) (hw : Hid (∀ x ∈ p.ws, x.length ≤ 1023)) :
    Calls Tryz.prog 70 #[.pointer (some ⟨p.P, 0, none⟩), .string (str [112, 97, 116, 104])] w (TermPost p i o (leaf [112, 97, 116, 104] (p.ws.drop i))) := by
  have HF := field_any [112, 97, 116, 104] w
  rw [show isField [112, 97, 116, 104] = false from rfl, show str [112, 97, 116, 104] = ⟨#[112, 97, 116, 104]⟩ from rfl] at HF
  rw [show str [112, 97, 116, 104] = ⟨#[112, 97, 116, 104]⟩ from rfl]
  have hpn := panics 191
  by_cases hlt : i < p.ws.length
  · obtain ⟨a, ha⟩ : ∃ a, p.ws[i] = a := ⟨_, rfl⟩
    have HR : Hid (leaf [112, 97, 116, 104] (p.ws.drop i) = if patErr a = 0 then .ok (.pattern [112, 97, 116, 104] a, 1) else .error (patErr a)) := by show _ = _; rw [List.drop_eq_getElem_cons hlt, ha]; rfl
    have HN := fun w h => next_word p i o w hp h a hlt ha
    have HL : Hid (a.length ≤ 1023) := by rw [← ha]; exact hw.out _ (List.getElem_mem hlt)
    rw [HR.out]
    clear hlt ha
    by_cases hk : patErr a = 0
    · rw [if_pos hk]
      have HK := Lib.hid hk
      clear hk
      go_enter Tryz.func70, Tryz.ntmps70
      go_wp2_with fail
      refine HF.mono ?_
      rintro e w2 ⟨rfl, hb⟩
      have h2 : Hid (Pr p w2 i o) := h.out.next hb.out
      go_wp2_with fail
      refine (HN w2 h2).mono ?_
      rintro e w3 ⟨rfl, h3⟩
      go_wp2_with fail
      refine (comp_any a w3).mono ?_
      rintro e w4 (⟨_, A, n, c, rfl, hb4⟩ | ⟨hne, _, _⟩)
      rotate_left
      · exact absurd HK.out hne
      have h4 : Hid (Pr p w4 (i + 1) o) := h3.out.next hb4.out
      go_wp2_with fail
      go_ret
      exact .inr ⟨_, _, _, rfl, rfl, .pattern _ a _ _ _, h4⟩
    · rw [if_neg hk]
      have HK := Lib.hid hk
      clear hk
      go_enter Tryz.func70, Tryz.ntmps70
      go_wp2_with fail
      refine HF.mono ?_
      rintro e w2 ⟨rfl, hb⟩
      have h2 : Hid (Pr p w2 i o) := h.out.next hb.out
      go_wp2_with fail
      refine (HN w2 h2).mono ?_
      rintro e w3 ⟨rfl, h3⟩
      go_wp2_with fail
      refine (comp_any a w3).mono ?_
      rintro e w4 (⟨he, _⟩ | ⟨_, he, hb4⟩)
      · exact absurd he HK.out
      have h4 : Hid (Pr p w4 (i + 1) o) := h3.out.next hb4.out
      unfold Threw at he
      subst he
      go_wp2_with fail
      exact ⟨rfl, .inl ⟨_, rfl, rfl, h4.out.1⟩⟩
  · have HR : Hid (leaf [112, 97, 116, 104] (p.ws.drop i) = .error 191) := by show _ = _; rw [List.drop_eq_nil_of_le (by omega)]; rfl
    rw [HR.out]
    have HN := fun w h => next_end p i o w hp h hlt
    clear hlt
    go_enter Tryz.func70, Tryz.ntmps70
    go_wp2_with fail
    refine HF.mono ?_
    rintro e w2 ⟨rfl, hb⟩
    have h2 : Hid (Pr p w2 i o) := h.out.next hb.out
    go_wp2_with fail
    refine (HN w2 h2).mono ?_
    rintro e w3 ⟨he, h3⟩
    unfold Threw at he
    subst he
    go_wp2_with fail
    exact ⟨rfl, .inl ⟨_, rfl, rfl, h3⟩⟩
set_option maxRecDepth 100000 in
set_option maxHeartbeats 1600000 in
theorem leaf_target (p : Pw) (i o : Nat) (w : World) (hp : Hid p.Ok) (h : Hid (Pr p w i o)) (hw : Hid (∀ x ∈ p.ws, x.length ≤ 1023)) :
    Calls Tryz.prog 70 #[.pointer (some ⟨p.P, 0, none⟩), .string (str [116, 97, 114, 103, 101, 116])] w (TermPost p i o (leaf [116, 97, 114, 103, 101, 116] (p.ws.drop i))) := by
  have HF := field_any [116, 97, 114, 103, 101, 116] w
  rw [show isField [116, 97, 114, 103, 101, 116] = false from rfl, show str [116, 97, 114, 103, 101, 116] = ⟨#[116, 97, 114, 103, 101, 116]⟩ from rfl] at HF
  rw [show str [116, 97, 114, 103, 101, 116] = ⟨#[116, 97, 114, 103, 101, 116]⟩ from rfl]
  have hpn := panics 191
  by_cases hlt : i < p.ws.length
  · obtain ⟨a, ha⟩ : ∃ a, p.ws[i] = a := ⟨_, rfl⟩
    have HR : Hid (leaf [116, 97, 114, 103, 101, 116] (p.ws.drop i) = if patErr a = 0 then .ok (.pattern [116, 97, 114, 103, 101, 116] a, 1) else .error (patErr a)) := by show _ = _; rw [List.drop_eq_getElem_cons hlt, ha]; rfl
    have HN := fun w h => next_word p i o w hp h a hlt ha
    have HL : Hid (a.length ≤ 1023) := by rw [← ha]; exact hw.out _ (List.getElem_mem hlt)
    rw [HR.out]
    clear hlt ha
    by_cases hk : patErr a = 0
    · rw [if_pos hk]
      have HK := Lib.hid hk
      clear hk
      go_enter Tryz.func70, Tryz.ntmps70
      go_wp2_with fail
      refine HF.mono ?_
      rintro e w2 ⟨rfl, hb⟩
      have h2 : Hid (Pr p w2 i o) := h.out.next hb.out
      go_wp2_with fail
      refine (HN w2 h2).mono ?_
      rintro e w3 ⟨rfl, h3⟩
      go_wp2_with fail
      refine (comp_any a w3).mono ?_
      rintro e w4 (⟨_, A, n, c, rfl, hb4⟩ | ⟨hne, _, _⟩)
      rotate_left
      · exact absurd HK.out hne
      have h4 : Hid (Pr p w4 (i + 1) o) := h3.out.next hb4.out
      go_wp2_with fail
      go_ret
      exact .inr ⟨_, _, _, rfl, rfl, .pattern _ a _ _ _, h4⟩
    · rw [if_neg hk]
      have HK := Lib.hid hk
      clear hk
      go_enter Tryz.func70, Tryz.ntmps70
      go_wp2_with fail
      refine HF.mono ?_
      rintro e w2 ⟨rfl, hb⟩
      have h2 : Hid (Pr p w2 i o) := h.out.next hb.out
      go_wp2_with fail
      refine (HN w2 h2).mono ?_
      rintro e w3 ⟨rfl, h3⟩
      go_wp2_with fail
      refine (comp_any a w3).mono ?_
      rintro e w4 (⟨he, _⟩ | ⟨_, he, hb4⟩)
      · exact absurd he HK.out
      have h4 : Hid (Pr p w4 (i + 1) o) := h3.out.next hb4.out
      unfold Threw at he
      subst he
      go_wp2_with fail
      exact ⟨rfl, .inl ⟨_, rfl, rfl, h4.out.1⟩⟩
  · have HR : Hid (leaf [116, 97, 114, 103, 101, 116] (p.ws.drop i) = .error 191) := by show _ = _; rw [List.drop_eq_nil_of_le (by omega)]; rfl
    rw [HR.out]
    have HN := fun w h => next_end p i o w hp h hlt
    clear hlt
    go_enter Tryz.func70, Tryz.ntmps70
    go_wp2_with fail
    refine HF.mono ?_
    rintro e w2 ⟨rfl, hb⟩
    have h2 : Hid (Pr p w2 i o) := h.out.next hb.out
    go_wp2_with fail
    refine (HN w2 h2).mono ?_
    rintro e w3 ⟨he, h3⟩
    unfold Threw at he
    subst he
    go_wp2_with fail
    exact ⟨rfl, .inl ⟨_, rfl, rfl, h3⟩⟩
set_option maxRecDepth 100000 in
set_option maxHeartbeats 1600000 in
theorem leaf_holds (p : Pw) (i o : Nat) (w : World) (hp : Hid p.Ok) (h : Hid (Pr p w i o)) (hw : Hid (∀ x ∈ p.ws, x.length ≤ 1023)) :
    Calls Tryz.prog 70 #[.pointer (some ⟨p.P, 0, none⟩), .string (str [104, 111, 108, 100, 115])] w (TermPost p i o (leaf [104, 111, 108, 100, 115] (p.ws.drop i))) := by
  have HF := field_any [104, 111, 108, 100, 115] w
  rw [show isField [104, 111, 108, 100, 115] = false from rfl, show str [104, 111, 108, 100, 115] = ⟨#[104, 111, 108, 100, 115]⟩ from rfl] at HF
  rw [show str [104, 111, 108, 100, 115] = ⟨#[104, 111, 108, 100, 115]⟩ from rfl]
  have hpn := panics 191
  by_cases hlt : i < p.ws.length
  · obtain ⟨a, ha⟩ : ∃ a, p.ws[i] = a := ⟨_, rfl⟩
    have HR : Hid (leaf [104, 111, 108, 100, 115] (p.ws.drop i) = if 255 < a.length then .error 7 else .ok (.content [104, 111, 108, 100, 115] a, 1)) := by show _ = _; rw [List.drop_eq_getElem_cons hlt, ha]; rfl
    have HN := fun w h => next_word p i o w hp h a hlt ha
    have HL : Hid (a.length ≤ 1023) := by rw [← ha]; exact hw.out _ (List.getElem_mem hlt)
    rw [HR.out]
    clear hlt ha
    have hpn7 := panics 7
    have hsz := str_size a
    by_cases hk : 255 < a.length
    · rw [if_pos hk]
      have t0 : decide ((255 : Int) < ((str a).size : Int)) = true := decide_eq_true (by omega)
      have t1 : (255 : Int) < ((str a).size : Int) := by omega
      clear hk hsz
      go_enter Tryz.func70, Tryz.ntmps70
      go_wp2_with fail
      refine HF.mono ?_
      rintro e w2 ⟨rfl, hb⟩
      have h2 : Hid (Pr p w2 i o) := h.out.next hb.out
      go_wp2_with fail
      refine (HN w2 h2).mono ?_
      rintro e w3 ⟨rfl, h3⟩
      go_wp2_with fail
      exact ⟨rfl, .inl ⟨_, rfl, rfl, h3.out.1⟩⟩
    · rw [if_neg hk]
      have t0 : decide ((255 : Int) < ((str a).size : Int)) = false := decide_eq_false (by omega)
      have t1 : ¬ ((255 : Int) < ((str a).size : Int)) := by omega
      clear hk hsz
      go_enter Tryz.func70, Tryz.ntmps70
      go_wp2_with fail
      refine HF.mono ?_
      rintro e w2 ⟨rfl, hb⟩
      have h2 : Hid (Pr p w2 i o) := h.out.next hb.out
      go_wp2_with fail
      refine (HN w2 h2).mono ?_
      rintro e w3 ⟨rfl, h3⟩
      go_wp2_with fail
      go_ret
      exact .inr ⟨_, _, _, rfl, rfl, .content _ a, h3⟩
  · have HR : Hid (leaf [104, 111, 108, 100, 115] (p.ws.drop i) = .error 191) := by show _ = _; rw [List.drop_eq_nil_of_le (by omega)]; rfl
    rw [HR.out]
    have HN := fun w h => next_end p i o w hp h hlt
    clear hlt
    go_enter Tryz.func70, Tryz.ntmps70
    go_wp2_with fail
    refine HF.mono ?_
    rintro e w2 ⟨rfl, hb⟩
    have h2 : Hid (Pr p w2 i o) := h.out.next hb.out
    go_wp2_with fail
    refine (HN w2 h2).mono ?_
    rintro e w3 ⟨he, h3⟩
    unfold Threw at he
    subst he
    go_wp2_with fail
    exact ⟨rfl, .inl ⟨_, rfl, rfl, h3⟩⟩
set_option maxRecDepth 100000 in
set_option maxHeartbeats 1600000 in
theorem leaf_begins (p : Pw) (i o : Nat) (w : World) (hp : Hid p.Ok) (h : Hid (Pr p w i o)) (hw : Hid (∀ x ∈ p.ws, x.length ≤ 1023)) :
    Calls Tryz.prog 70 #[.pointer (some ⟨p.P, 0, none⟩), .string (str [98, 101, 103, 105, 110, 115])] w (TermPost p i o (leaf [98, 101, 103, 105, 110, 115] (p.ws.drop i))) := by
  have HF := field_any [98, 101, 103, 105, 110, 115] w
  rw [show isField [98, 101, 103, 105, 110, 115] = false from rfl, show str [98, 101, 103, 105, 110, 115] = ⟨#[98, 101, 103, 105, 110, 115]⟩ from rfl] at HF
  rw [show str [98, 101, 103, 105, 110, 115] = ⟨#[98, 101, 103, 105, 110, 115]⟩ from rfl]
  have hpn := panics 191
  by_cases hlt : i < p.ws.length
  · obtain ⟨a, ha⟩ : ∃ a, p.ws[i] = a := ⟨_, rfl⟩
    have HR : Hid (leaf [98, 101, 103, 105, 110, 115] (p.ws.drop i) = if 255 < a.length then .error 7 else .ok (.content [98, 101, 103, 105, 110, 115] a, 1)) := by show _ = _; rw [List.drop_eq_getElem_cons hlt, ha]; rfl
    have HN := fun w h => next_word p i o w hp h a hlt ha
    have HL : Hid (a.length ≤ 1023) := by rw [← ha]; exact hw.out _ (List.getElem_mem hlt)
    rw [HR.out]
    clear hlt ha
    have hpn7 := panics 7
    have hsz := str_size a
    by_cases hk : 255 < a.length
    · rw [if_pos hk]
      have t0 : decide ((255 : Int) < ((str a).size : Int)) = true := decide_eq_true (by omega)
      have t1 : (255 : Int) < ((str a).size : Int) := by omega
      clear hk hsz
      go_enter Tryz.func70, Tryz.ntmps70
      go_wp2_with fail
      refine HF.mono ?_
      rintro e w2 ⟨rfl, hb⟩
      have h2 : Hid (Pr p w2 i o) := h.out.next hb.out
      go_wp2_with fail
      refine (HN w2 h2).mono ?_
      rintro e w3 ⟨rfl, h3⟩
      go_wp2_with fail
      exact ⟨rfl, .inl ⟨_, rfl, rfl, h3.out.1⟩⟩
    · rw [if_neg hk]
      have t0 : decide ((255 : Int) < ((str a).size : Int)) = false := decide_eq_false (by omega)
      have t1 : ¬ ((255 : Int) < ((str a).size : Int)) := by omega
      clear hk hsz
      go_enter Tryz.func70, Tryz.ntmps70
      go_wp2_with fail
      refine HF.mono ?_
      rintro e w2 ⟨rfl, hb⟩
      have h2 : Hid (Pr p w2 i o) := h.out.next hb.out
      go_wp2_with fail
      refine (HN w2 h2).mono ?_
      rintro e w3 ⟨rfl, h3⟩
      go_wp2_with fail
      go_ret
      exact .inr ⟨_, _, _, rfl, rfl, .content _ a, h3⟩
  · have HR : Hid (leaf [98, 101, 103, 105, 110, 115] (p.ws.drop i) = .error 191) := by show _ = _; rw [List.drop_eq_nil_of_le (by omega)]; rfl
    rw [HR.out]
    have HN := fun w h => next_end p i o w hp h hlt
    clear hlt
    go_enter Tryz.func70, Tryz.ntmps70
    go_wp2_with fail
    refine HF.mono ?_
    rintro e w2 ⟨rfl, hb⟩
    have h2 : Hid (Pr p w2 i o) := h.out.next hb.out
    go_wp2_with fail
    refine (HN w2 h2).mono ?_
    rintro e w3 ⟨he, h3⟩
    unfold Threw at he
    subst he
    go_wp2_with fail
    exact ⟨rfl, .inl ⟨_, rfl, rfl, h3⟩⟩
end Go.Proofs.YtcdhkeahcliefaaGreatDoor.TermC
