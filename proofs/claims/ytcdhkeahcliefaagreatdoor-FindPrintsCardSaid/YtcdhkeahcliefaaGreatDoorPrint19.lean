/- The program's parser.term: the five numbers. -/
import Derived.Test.YtcdhkeahcliefaaGreatDoorPrint16
namespace Go.Proofs.YtcdhkeahcliefaaGreatDoor.TermF
open Go.ChangeShapes Go.WideShapes Go.ChangeAt Go.RowKit
open Go.Proofs.YtcdhkeahcliefaaGreatDoor.Kit Go.Proofs.YtcdhkeahcliefaaGreatDoor.Base Go.Proofs.YtcdhkeahcliefaaGreatDoor.Pat Go.Proofs.YtcdhkeahcliefaaGreatDoor.PatA Go.Proofs.YtcdhkeahcliefaaGreatDoor.Tok Go.Proofs.YtcdhkeahcliefaaGreatDoor.TokB Go.Proofs.YtcdhkeahcliefaaGreatDoor.TokC Go.Proofs.YtcdhkeahcliefaaGreatDoor.TokD Go.Proofs.YtcdhkeahcliefaaGreatDoor.TokE Go.Proofs.YtcdhkeahcliefaaGreatDoor.Term Go.Proofs.YtcdhkeahcliefaaGreatDoor.TermB
set_option linter.unusedVariables false
theorem leaf_f {x : List UInt8} (hf : isField x = true) (r : List (List UInt8)) : leaf x r = (match r with
    | a :: b :: _ => if a ∈ TokB.cmps then (if TokC.isNum b = true then .ok (.field x a (TokC.numV b), 2) else .error 191) else .error 191
    | _ => .error 191) := by
  unfold leaf
  rw [if_pos hf]
  cases r with
  | nil => rfl
  | cons a r => cases r <;> rfl
theorem num_small {x : List UInt8} (h : isNum x = true) : numV x ≤ 999999999 := by
  have h1 := Bool.and_eq_true_iff.1 h
  have h2 := of_decide_eq_true h1.1
  have h3 := numV_lt x h1.2
  have h4 := pow_le9 h2.2
  omega
set_option maxRecDepth 100000 in
set_option maxHeartbeats 1600000 in
theorem leaf_field (p : Pw) (i o : Nat) (x : List UInt8) (w : World) (hp : Hid p.Ok) (h : Hid (Pr p w i o)) (hf : isField x = true) :
    Calls Tryz.prog 70 #[.pointer (some ⟨p.P, 0, none⟩), .string (str x)] w (TermPost p i o (leaf x (p.ws.drop i))) := by
  have HL := Lib.hid (leaf_f hf)
  have HF := field_any x w
  rw [hf] at HF
  have hpn := panics 191
  clear hf
  go_enter Tryz.func70, Tryz.ntmps70
  go_wp2_with fail
  refine HF.mono ?_
  rintro e w2 ⟨rfl, hb⟩
  have h2 : Hid (Pr p w2 i o) := h.out.next hb.out
  go_wp2_with fail
  refine (cmp_any p i o w2 hp h2).mono ?_
  rintro e w3 (⟨hlt, hc, rfl, h3⟩ | ⟨hno, he, h3⟩)
  · have HLT := Lib.hid hlt
    obtain ⟨a, ha⟩ : ∃ a, p.ws[i] = a := ⟨_, rfl⟩
    have HC : Hid (a ∈ cmps) := by rw [← ha]; exact hc
    have HA : Hid (∀ h : i < p.ws.length, p.ws[i] = a) := fun _ => ha
    rw [HA.out hlt]
    clear ha hc hlt
    go_wp2_with fail
    refine (num_any p (i + 1) o w3 hp h3).mono ?_
    rintro e w4 (⟨hlt2, hn, rfl, h4⟩ | ⟨hno, he, h4⟩)
    · have HR : Hid (leaf x (p.ws.drop i) = .ok (.field x a (numV p.ws[i + 1]), 2)) := by
        show _ = _
        rw [HL.out, List.drop_eq_getElem_cons HLT.out, List.drop_eq_getElem_cons hlt2]
        show (if p.ws[i]'HLT.out ∈ cmps then (if isNum p.ws[i + 1] = true then _ else _) else _) = _
        rw [if_pos (by rw [HA.out]; exact HC.out), if_pos hn, HA.out]
      have HV : Hid (numV p.ws[i + 1] ≤ 999999999) := num_small hn
      generalize numV p.ws[i + 1] = v at *
      clear hn hlt2
      go_wp2_with fail
      go_ret
      exact .inr ⟨_, _, _, HR.out, rfl, .field x a v HV.out, h4⟩
    · have HR : Hid (leaf x (p.ws.drop i) = .error 191) := by
        show _ = _
        rw [HL.out, List.drop_eq_getElem_cons HLT.out]
        by_cases hlt2 : i + 1 < p.ws.length
        · rw [List.drop_eq_getElem_cons hlt2]
          show (if _ then (if isNum p.ws[i + 1] = true then _ else _) else _) = _
          rw [hno hlt2]
          simp
        · rw [List.drop_eq_nil_of_le (by omega)]
      unfold Threw at he
      subst he
      clear hno
      go_wp2_with fail
      exact ⟨rfl, .inl ⟨_, HR.out, rfl, h4⟩⟩
  · have HR : Hid (leaf x (p.ws.drop i) = .error 191) := by
      show _ = _
      rw [HL.out]
      by_cases hlt : i < p.ws.length
      · rw [List.drop_eq_getElem_cons hlt]
        cases hd : p.ws.drop (i + 1) with
        | nil => rfl
        | cons b r =>
          show (if p.ws[i] ∈ cmps then _ else _) = _
          rw [if_neg (hno hlt)]
      · rw [List.drop_eq_nil_of_le (by omega)]
    unfold Threw at he
    subst he
    clear hno
    go_wp2_with fail
    exact ⟨rfl, .inl ⟨_, HR.out, rfl, h3⟩⟩
end Go.Proofs.YtcdhkeahcliefaaGreatDoor.TermF
