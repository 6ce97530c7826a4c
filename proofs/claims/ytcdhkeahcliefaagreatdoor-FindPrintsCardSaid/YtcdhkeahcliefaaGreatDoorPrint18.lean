/- The program's parser.term: under, same. The program's parser.term: a word that begins no term. -/
import Derived.Test.YtcdhkeahcliefaaGreatDoorPrint16
/- The program's parser.term: under, same. -/
namespace Go.Proofs.YtcdhkeahcliefaaGreatDoor.TermD
open Go.ChangeShapes Go.WideShapes Go.ChangeAt Go.RowKit
open Go.Proofs.YtcdhkeahcliefaaGreatDoor.Kit Go.Proofs.YtcdhkeahcliefaaGreatDoor.Base Go.Proofs.YtcdhkeahcliefaaGreatDoor.Pat Go.Proofs.YtcdhkeahcliefaaGreatDoor.PatA Go.Proofs.YtcdhkeahcliefaaGreatDoor.Tok Go.Proofs.YtcdhkeahcliefaaGreatDoor.TokB Go.Proofs.YtcdhkeahcliefaaGreatDoor.TokC Go.Proofs.YtcdhkeahcliefaaGreatDoor.TokD Go.Proofs.YtcdhkeahcliefaaGreatDoor.TokE Go.Proofs.YtcdhkeahcliefaaGreatDoor.Term Go.Proofs.YtcdhkeahcliefaaGreatDoor.TermB
set_option linter.unusedVariables false

set_option maxRecDepth 100000 in
set_option maxHeartbeats 1600000 in
theorem leaf_under (p : Pw) (i o : Nat) (w : World) (hp : Hid p.Ok) (h : Hid (Pr p w i o)) (hw : Hid (∀ x ∈ p.ws, x.length ≤ 1023)) :
    Calls Tryz.prog 70 #[.pointer (some ⟨p.P, 0, none⟩), .string (str [117, 110, 100, 101, 114])] w (TermPost p i o (leaf [117, 110, 100, 101, 114] (p.ws.drop i))) := by
  have HF := field_any [117, 110, 100, 101, 114] w
  rw [show isField [117, 110, 100, 101, 114] = false from rfl, show str [117, 110, 100, 101, 114] = ⟨#[117, 110, 100, 101, 114]⟩ from rfl] at HF
  rw [show str [117, 110, 100, 101, 114] = ⟨#[117, 110, 100, 101, 114]⟩ from rfl]
  have hpn := panics 191
  have HP0 := fun w h => place_any p i o true w hp h hw
  have HP : ∀ w, Hid (Pr p w i o) → Calls Tryz.prog 84 #[.pointer (some ⟨p.P, 0, none⟩), .string ⟨#[117, 110, 100, 101, 114]⟩] w (PlacePost p i o 61) := HP0
  have HPH := Lib.hid HP
  clear HP HP0
  go_enter Tryz.func70, Tryz.ntmps70
  go_wp2_with fail
  refine HF.mono ?_
  rintro e w2 ⟨rfl, hb⟩
  have h2 : Hid (Pr p w2 i o) := h.out.next hb.out
  go_wp2_with fail
  refine (HPH.out w2 h2).mono ?_
  rintro e w3 (⟨hlt, h0, rfl, h3⟩ | ⟨hlt, h0, he, h3⟩ | ⟨hlt, he, h3⟩)
  · have HR : Hid (leaf [117, 110, 100, 101, 114] (p.ws.drop i) = .ok (.under (PathF.pathText (Path.partsOf p.ws[i])), 1)) := by
      show _ = _
      rw [List.drop_eq_getElem_cons hlt]
      show (if PathB.splitErr p.ws[i] = 0 then _ else _) = _
      rw [if_pos h0]
    generalize PathF.pathText (Path.partsOf p.ws[i]) = tx at *
    clear h0 hlt
    go_wp2_with fail
    go_ret
    exact .inr ⟨_, _, _, HR.out, rfl, .under tx, h3⟩
  · have HR : Hid (leaf [117, 110, 100, 101, 114] (p.ws.drop i) = .error (PathB.splitErr p.ws[i])) := by
      show _ = _
      rw [List.drop_eq_getElem_cons hlt]
      show (if PathB.splitErr p.ws[i] = 0 then _ else _) = _
      rw [if_neg h0]
    rw [HR.out]
    generalize PathB.splitErr p.ws[i] = er at *
    unfold Threw at he
    subst he
    clear h0 hlt HR
    go_wp2_with fail
    exact ⟨rfl, .inl ⟨_, rfl, rfl, h3⟩⟩
  · have HR : Hid (leaf [117, 110, 100, 101, 114] (p.ws.drop i) = .error 191) := by show _ = _; rw [List.drop_eq_nil_of_le (by omega)]; rfl
    rw [HR.out]
    unfold Threw at he
    subst he
    clear hlt HR
    go_wp2_with fail
    exact ⟨rfl, .inl ⟨_, rfl, rfl, h3⟩⟩
set_option maxRecDepth 100000 in
set_option maxHeartbeats 1600000 in
theorem leaf_same (p : Pw) (i o : Nat) (w : World) (hp : Hid p.Ok) (h : Hid (Pr p w i o)) (hw : Hid (∀ x ∈ p.ws, x.length ≤ 1023)) :
    Calls Tryz.prog 70 #[.pointer (some ⟨p.P, 0, none⟩), .string (str [115, 97, 109, 101])] w (TermPost p i o (leaf [115, 97, 109, 101] (p.ws.drop i))) := by
  have HF := field_any [115, 97, 109, 101] w
  rw [show isField [115, 97, 109, 101] = false from rfl, show str [115, 97, 109, 101] = ⟨#[115, 97, 109, 101]⟩ from rfl] at HF
  rw [show str [115, 97, 109, 101] = ⟨#[115, 97, 109, 101]⟩ from rfl]
  have hpn := panics 191
  have HP0 := fun w h => place_any p i o false w hp h hw
  have HP : ∀ w, Hid (Pr p w i o) → Calls Tryz.prog 84 #[.pointer (some ⟨p.P, 0, none⟩), .string ⟨#[115, 97, 109, 101]⟩] w (PlacePost p i o 62) := HP0
  have HPH := Lib.hid HP
  clear HP HP0
  go_enter Tryz.func70, Tryz.ntmps70
  go_wp2_with fail
  refine HF.mono ?_
  rintro e w2 ⟨rfl, hb⟩
  have h2 : Hid (Pr p w2 i o) := h.out.next hb.out
  go_wp2_with fail
  refine (HPH.out w2 h2).mono ?_
  rintro e w3 (⟨hlt, h0, rfl, h3⟩ | ⟨hlt, h0, he, h3⟩ | ⟨hlt, he, h3⟩)
  · have HR : Hid (leaf [115, 97, 109, 101] (p.ws.drop i) = .ok (.same (PathF.pathText (Path.partsOf p.ws[i])), 1)) := by
      show _ = _
      rw [List.drop_eq_getElem_cons hlt]
      show (if PathB.splitErr p.ws[i] = 0 then _ else _) = _
      rw [if_pos h0]
    generalize PathF.pathText (Path.partsOf p.ws[i]) = tx at *
    clear h0 hlt
    go_wp2_with fail
    go_ret
    exact .inr ⟨_, _, _, HR.out, rfl, .same tx, h3⟩
  · have HR : Hid (leaf [115, 97, 109, 101] (p.ws.drop i) = .error (PathB.splitErr p.ws[i])) := by
      show _ = _
      rw [List.drop_eq_getElem_cons hlt]
      show (if PathB.splitErr p.ws[i] = 0 then _ else _) = _
      rw [if_neg h0]
    rw [HR.out]
    generalize PathB.splitErr p.ws[i] = er at *
    unfold Threw at he
    subst he
    clear h0 hlt HR
    go_wp2_with fail
    exact ⟨rfl, .inl ⟨_, rfl, rfl, h3⟩⟩
  · have HR : Hid (leaf [115, 97, 109, 101] (p.ws.drop i) = .error 191) := by show _ = _; rw [List.drop_eq_nil_of_le (by omega)]; rfl
    rw [HR.out]
    unfold Threw at he
    subst he
    clear hlt HR
    go_wp2_with fail
    exact ⟨rfl, .inl ⟨_, rfl, rfl, h3⟩⟩
end Go.Proofs.YtcdhkeahcliefaaGreatDoor.TermD
/- The program's parser.term: a word that begins no term. -/
namespace Go.Proofs.YtcdhkeahcliefaaGreatDoor.TermE
open Go.ChangeShapes Go.WideShapes Go.ChangeAt Go.RowKit
open Go.Proofs.YtcdhkeahcliefaaGreatDoor.Kit Go.Proofs.YtcdhkeahcliefaaGreatDoor.Base Go.Proofs.YtcdhkeahcliefaaGreatDoor.Pat Go.Proofs.YtcdhkeahcliefaaGreatDoor.PatA Go.Proofs.YtcdhkeahcliefaaGreatDoor.Tok Go.Proofs.YtcdhkeahcliefaaGreatDoor.TokB Go.Proofs.YtcdhkeahcliefaaGreatDoor.TokC Go.Proofs.YtcdhkeahcliefaaGreatDoor.TokD Go.Proofs.YtcdhkeahcliefaaGreatDoor.TokE Go.Proofs.YtcdhkeahcliefaaGreatDoor.Term Go.Proofs.YtcdhkeahcliefaaGreatDoor.TermB
set_option linter.unusedVariables false

def heads : List (List UInt8) := [[97, 108, 108], [101, 109, 112, 116, 121], [115, 112, 97, 114, 115, 101], [107, 105, 110, 100], [110, 97, 109, 101], [112, 97, 116, 104], [116, 97, 114, 103, 101, 116], [117, 110, 100, 101, 114], [115, 97, 109, 101], [104, 111, 108, 100, 115], [98, 101, 103, 105, 110, 115]]
theorem leaf_other {x : List UInt8} (r : List (List UInt8)) (hf : isField x = false) (h0 : x ≠ [97, 108, 108]) (h1 : x ≠ [101, 109, 112, 116, 121]) (h2 : x ≠ [115, 112, 97, 114, 115, 101]) (h3 : x ≠ [107, 105, 110, 100]) (h4 : x ≠ [110, 97, 109, 101]) (h5 : x ≠ [112, 97, 116, 104]) (h6 : x ≠ [116, 97, 114, 103, 101, 116]) (h7 : x ≠ [117, 110, 100, 101, 114]) (h8 : x ≠ [115, 97, 109, 101]) (h9 : x ≠ [104, 111, 108, 100, 115]) (h10 : x ≠ [98, 101, 103, 105, 110, 115]) : leaf x r = .error 191 := by
  unfold leaf
  rw [if_neg (by rw [hf]; simp), if_neg h0, if_neg h1, if_neg h2]
  cases r with
  | nil => rfl
  | cons a r =>
    show (if _ then _ else _) = _
    rw [if_neg h3, if_neg (by rintro (h | h | h); exact h4 h; exact h5 h; exact h6 h), if_neg h7, if_neg h8, if_neg (by rintro (h | h); exact h9 h; exact h10 h)]
set_option maxRecDepth 100000 in
set_option maxHeartbeats 1600000 in
theorem leaf_none (p : Pw) (i o : Nat) (x : List UInt8) (w : World) (h : Hid (Pr p w i o)) (hf : isField x = false) (h0 : x ≠ [97, 108, 108]) (h1 : x ≠ [101, 109, 112, 116, 121]) (h2 : x ≠ [115, 112, 97, 114, 115, 101]) (h3 : x ≠ [107, 105, 110, 100]) (h4 : x ≠ [110, 97, 109, 101]) (h5 : x ≠ [112, 97, 116, 104]) (h6 : x ≠ [116, 97, 114, 103, 101, 116]) (h7 : x ≠ [117, 110, 100, 101, 114]) (h8 : x ≠ [115, 97, 109, 101]) (h9 : x ≠ [104, 111, 108, 100, 115]) (h10 : x ≠ [98, 101, 103, 105, 110, 115]) :
    Calls Tryz.prog 70 #[.pointer (some ⟨p.P, 0, none⟩), .string (str x)] w (TermPost p i o (leaf x (p.ws.drop i))) := by
  have HR := Lib.hid (leaf_other (p.ws.drop i) hf h0 h1 h2 h3 h4 h5 h6 h7 h8 h9 h10)
  have HF := field_any x w
  rw [hf] at HF
  rw [HR.out]
  have hpn := panics 191
  have e0 := ne_list h0
  have e1 := ne_list h1
  have e2 := ne_list h2
  have e3 := ne_list h3
  have e4 := ne_list h4
  have e5 := ne_list h5
  have e6 := ne_list h6
  have e7 := ne_list h7
  have e8 := ne_list h8
  have e9 := ne_list h9
  have e10 := ne_list h10
  clear h0 h1 h2 h3 h4 h5 h6 h7 h8 h9 h10 hf
  go_enter Tryz.func70, Tryz.ntmps70
  go_wp2_with fail
  refine HF.mono ?_
  rintro e w2 ⟨rfl, hb⟩
  have h2 : Hid (Pr p w2 i o) := h.out.next hb.out
  go_wp2_with fail
  exact ⟨rfl, .inl ⟨_, rfl, rfl, h2.out.1⟩⟩
end Go.Proofs.YtcdhkeahcliefaaGreatDoor.TermE
