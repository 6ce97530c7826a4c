/- The program's parser: number; the document's number. The program's parser: a number's name. -/
import Derived.Test.YtcdhkeahcliefaaGreatDoorPrint10
import Derived.WalkMore
import Derived.Deep.CutBlock
/- The program's parser: number; the document's number. -/
namespace Go.Proofs.YtcdhkeahcliefaaGreatDoor.TokC
open Go.ChangeShapes Go.WideShapes Go.ChangeAt Go.RowKit
open Go.Proofs.YtcdhkeahcliefaaGreatDoor.Kit Go.Proofs.YtcdhkeahcliefaaGreatDoor.Base Go.Proofs.YtcdhkeahcliefaaGreatDoor.PatA Go.Proofs.YtcdhkeahcliefaaGreatDoor.Tok Go.Proofs.YtcdhkeahcliefaaGreatDoor.TokB
set_option linter.unusedVariables false

def isDig (y : UInt8) : Bool := decide (48 ≤ y.toNat ∧ y.toNat ≤ 57)
def numV (x : List UInt8) : Nat := x.foldl (fun n y => 10 * n + (y.toNat - 48)) 0
def isNum (x : List UInt8) : Bool := decide (1 ≤ x.length ∧ x.length ≤ 9) && x.all isDig
theorem numV_snoc (x : List UInt8) (y : UInt8) : numV (x ++ [y]) = 10 * numV x + (y.toNat - 48) := by
  unfold numV
  rw [List.foldl_append]
  rfl
theorem numV_lt (x : List UInt8) : x.all isDig = true → numV x < 10 ^ x.length := by
  have key : ∀ (r : List UInt8) (x : List UInt8), x = r.reverse → x.all isDig = true → numV x < 10 ^ x.length := by
    intro r
    induction r with
    | nil => intro x hx _; subst hx; decide
    | cons y r ih =>
      intro x hx hall
      rw [List.reverse_cons] at hx
      subst hx
      rw [List.all_append] at hall
      have h1 := ih r.reverse rfl (by have := Bool.and_eq_true_iff.1 hall; exact this.1)
      have h2 : isDig y = true := by have := (Bool.and_eq_true_iff.1 hall).2; simpa using this
      have h3 : 48 ≤ y.toNat ∧ y.toNat ≤ 57 := of_decide_eq_true h2
      rw [numV_snoc, List.length_append]
      show _ < 10 ^ (_ + 1)
      rw [Nat.pow_succ]
      omega
  exact key x.reverse x (by simp)
theorem pow_le9 {k : Nat} (h : k ≤ 9) : 10 ^ k ≤ 1000000000 := by
  have := Nat.pow_le_pow_right (show 0 < 10 by decide) h
  exact this
theorem all_take {x : List UInt8} {k : Nat} (hk : k < x.length) (h : (x.take k).all isDig = true) : (x.take (k + 1)).all isDig = isDig x[k] := by
  rw [List.take_succ_eq_append_getElem hk, List.all_append, h]
  simp
theorem not_all {x : List UInt8} {k : Nat} (hk : k < x.length) (h : isDig x[k] = false) : isNum x = false := by
  unfold isNum
  have : x.all isDig = false := by
    rw [List.all_eq_false]
    exact ⟨x[k], List.getElem_mem hk, by rw [h]; simp⟩
  rw [this, Bool.and_false]
def numR (x : List UInt8) : Int := if isNum x = true then (numV x : Int) else -1
theorem str_at (x : List UInt8) (k : Nat) (hk : k < x.length) (w : World) : (Instr.index 9 (.string (str x)) (.int .i64 k)).run Tryz.prog w = .ok (.int .u8 (x[k].toNat : Int)) w := by
  have hks : k < (str x).size := by rw [str_size]; exact hk
  have e : (str x)[k] = x[k] := by
    simp [str]
    rfl
  rw [run_index_string w 9 _ .i64 k Tryz.underlying9, dif_pos ⟨by omega, by omega⟩]
  simp [e]
  rfl
set_option maxRecDepth 100000 in
set_option maxHeartbeats 1600000 in
theorem numR_any (x : List UInt8) (w : World) : Calls Tryz.prog 44 #[.string (str x)] w fun e w' => e = .returned (.int .i64 (numR x)) ∧ w' = w := by
  by_cases hln : 1 ≤ x.length ∧ x.length ≤ 9
  · have H19 := Lib.hid hln
    obtain ⟨S, hS⟩ : ∃ S, str x = S := ⟨_, rfl⟩
    have HS := Lib.hid hS
    obtain ⟨n, hn⟩ : ∃ n, S.size = n := ⟨_, rfl⟩
    have HN : Hid (x.length = n) := by rw [← hn, ← hS, str_size]; exact rfl
    have HNS := Lib.hid hn
    have e1 : decide ((n : Int) < 1) = false := decide_eq_false (by have := HN.out; omega)
    have e2 : decide ((9 : Int) < (n : Int)) = false := decide_eq_false (by have := HN.out; omega)
    rw [hS]
    clear hS hln
    go_enter Tryz.func44, Tryz.ntmps44
    go_wp2_with fail
    go_loopg [3, 4] n (fun g nn ii wr => ∃ (k : Nat), g = n - k ∧ k ≤ n ∧ ii = .int .i64 k ∧ nn = .int .i64 (numV (x.take k) : Int) ∧ Hid ((x.take k).all isDig = true) ∧ wr = w)
    case atStart => exact ⟨0, rfl, Nat.zero_le _, rfl, rfl, rfl, rfl⟩
    case round =>
      obtain ⟨k, rfl, hk, rfl, rfl, hall, rfl⟩ := hrel
      have hn := HNS.out
      have hk9 : (k : Int) ≤ 9 := by have := H19.out; have := HN.out; omega
      have k0 : (0 : Int) ≤ (k : Int) := by omega
      by_cases hlt : k < n
      · have hkl : k < x.length := by rw [HN.out]; exact hlt
        have hlti : (k : Int) < (n : Int) := by omega
        have hix : (Instr.index 9 (.string S) (.int .i64 k)).run Tryz.prog wr = .ok (.int .u8 (x[k].toNat : Int)) wr := by
          rw [← HS.out]
          exact str_at x k hkl wr
        have HLT := Lib.hid hlt
        have HNA := Lib.hid (fun h => not_all hkl h)
        have HAT := Lib.hid (all_take hkl hall.out)
        have HSN : Hid (numV (x.take (k + 1)) = 10 * numV (x.take k) + (x[k].toNat - 48)) := by
          show _ = _
          rw [List.take_succ_eq_append_getElem hkl, numV_snoc]
        have hlt9 : numV (x.take k) < 1000000000 := by
          have h1 := numV_lt _ hall.out
          have h2 : (x.take k).length ≤ 9 := by simp; omega
          have := pow_le9 h2
          omega
        generalize numV (x.take k) = v at *
        generalize x[k] = y at *
        have y9 : y.toNat < 256 := y.toNat_lt
        by_cases hlo : y.toNat < 48
        · have HD : Hid (isNum x = false) := HNA.out (decide_eq_false (by omega))
          have t1 : decide ((y.toNat : Int) < 48) = true := decide_eq_true (by omega)
          have t2 : (y.toNat : Int) < 48 := by omega
          clear hlo hkl hlt
          go_wp2_with fail
          go_ret
          exact ⟨by unfold numR; rw [HD.out]; rfl, rfl⟩
        have t1 : decide ((y.toNat : Int) < 48) = false := decide_eq_false (by omega)
        have t2 : ¬ ((y.toNat : Int) < 48) := by omega
        by_cases hhi : 57 < y.toNat
        · have HD : Hid (isNum x = false) := HNA.out (decide_eq_false (by omega))
          have t3 : decide ((57 : Int) < (y.toNat : Int)) = true := decide_eq_true (by omega)
          have t4 : (57 : Int) < (y.toNat : Int) := by omega
          clear hlo hhi hkl hlt
          go_wp2_with fail
          go_ret
          exact ⟨by unfold numR; rw [HD.out]; rfl, rfl⟩
        have t3 : decide ((57 : Int) < (y.toNat : Int)) = false := decide_eq_false (by omega)
        have t4 : ¬ ((57 : Int) < (y.toNat : Int)) := by omega
        have HD : Hid (isDig y = true) := decide_eq_true ⟨by omega, by omega⟩
        have HY : Hid (((y.toNat - 48 : Nat) : Int) = (y.toNat : Int) - 48) := by show _ = _; omega
        have W1 : IntKind.u8.wrap ((y.toNat : Int) - 48) = (y.toNat : Int) - 48 := by show ((y.toNat : Int) - 48) % 256 = _; omega
        have W2 : IntKind.i64.wrap (10 * (v : Int)) = 10 * (v : Int) := IntWalk.i64_in _ (by omega)
        have W3 : IntKind.i64.wrap (10 * (v : Int) + ((y.toNat : Int) - 48)) = 10 * (v : Int) + ((y.toNat : Int) - 48) := IntWalk.i64_in _ (by omega)
        have W4 : IntKind.i64.wrap ((y.toNat : Int) - 48) = (y.toNat : Int) - 48 := IntWalk.i64_in _ (by omega)
        clear hlo hhi hkl hlt
        go_wp2_with fail
        go_roundg (n - (k + 1))
        case measure => have := HLT.out; omega
        case rel => exact ⟨k + 1, rfl, HLT.out, by go_num, by rw [HSN.out]; simp only [Int.natCast_add, Int.natCast_mul, HY.out]; rfl, HAT.out.trans HD.out, rfl⟩
      · have hlti : ¬ ((k : Int) < (n : Int)) := by omega
        have hxt : x.take k = x := List.take_of_length_le (by have := HN.out; omega)
        rw [hxt] at hall ⊢
        have HE : Hid (isNum x = true) := by
          show _ = _
          unfold isNum
          rw [hall.out, decide_eq_true H19.out]
          rfl
        clear hxt hlt
        go_wp2_with fail
        go_ret
        exact ⟨by unfold numR; rw [HE.out]; rfl, rfl⟩
  · have HE : Hid (numR x = -1) := by
      show _ = _
      unfold numR isNum
      rw [decide_eq_false hln]
      rfl
    rw [HE.out]
    have hsz := str_size x
    generalize str x = S at *
    by_cases h0 : x.length < 1
    · have e1 : decide ((S.size : Int) < 1) = true := decide_eq_true (by omega)
      clear h0 hln hsz
      go_enter Tryz.func44, Tryz.ntmps44
      go_wp2_with fail
      go_ret
      exact ⟨rfl, rfl⟩
    · have e1 : decide ((S.size : Int) < 1) = false := decide_eq_false (by omega)
      have e2 : decide ((9 : Int) < (S.size : Int)) = true := decide_eq_true (by omega)
      clear h0 hln hsz
      go_enter Tryz.func44, Tryz.ntmps44
      go_wp2_with fail
      go_ret
      exact ⟨rfl, rfl⟩
def NumPost (p : Pw) (i o : Nat) (e : Ending) (w' : World) : Prop :=
  (∃ h : i < p.ws.length, isNum p.ws[i] = true ∧ e = .returned (.int .i64 (numV p.ws[i] : Int)) ∧ Hid (Pr p w' (i + 1) o)) ∨
  ((∀ h : i < p.ws.length, isNum p.ws[i] = false) ∧ Threw 191 e ∧ Hid (Since p.P p.w0 w'))
set_option maxRecDepth 100000 in
set_option maxHeartbeats 1600000 in
theorem num_any (p : Pw) (i o : Nat) (w : World) (hp : Hid p.Ok) (h : Hid (Pr p w i o)) : Calls Tryz.prog 81 #[.pointer (some ⟨p.P, 0, none⟩)] w (NumPost p i o) := by
  have hpn := panics 191
  by_cases hlt : i < p.ws.length
  · have HLT0 := Lib.hid hlt
    obtain ⟨x, hx⟩ : ∃ x, p.ws[i] = x := ⟨_, rfl⟩
    have HX : Hid (∀ h : i < p.ws.length, p.ws[i] = x) := fun _ => hx
    have HNX : Hid (∀ Q : Ending → World → Prop, (∀ w', Hid (Pr p w' (i + 1) o) → Q (.returned (.string (str x))) w') → Calls Tryz.prog 67 #[.pointer (some ⟨p.P, 0, none⟩)] w Q) := fun Q hQ => by
      refine (next_any p i o w hp h).mono ?_
      rintro e w' (⟨hh, rfl, h2⟩ | ⟨he, _, _⟩)
      · rw [HX.out hh]; exact hQ w' h2
      · omega
    clear hlt hx
    by_cases hln : 1 ≤ x.length ∧ x.length ≤ 9
    · have H19 := Lib.hid hln
      obtain ⟨S, hS⟩ : ∃ S, str x = S := ⟨_, rfl⟩
      have HS := Lib.hid hS
      obtain ⟨n, hn⟩ : ∃ n, S.size = n := ⟨_, rfl⟩
      have HN : Hid (x.length = n) := by rw [← hn, ← hS, str_size]; exact rfl
      have HNS := Lib.hid hn
      have e1 : decide ((n : Int) < 1) = false := decide_eq_false (by have := HN.out; omega)
      have e2 : decide ((9 : Int) < (n : Int)) = false := decide_eq_false (by have := HN.out; omega)
      rw [hS] at HNX
      clear hS hln
      go_enter Tryz.func81, Tryz.ntmps81
      go_wp2_with fail
      refine HNX.out _ ?_
      rintro w2 h2
      go_wp2_with fail
      go_loopg [4, 19] n (fun g nn ii wr => ∃ (k : Nat), g = n - k ∧ k ≤ n ∧ ii = .int .i64 k ∧ nn = .int .i64 (numV (x.take k) : Int) ∧ Hid ((x.take k).all isDig = true) ∧ wr = w2)
      case atStart => exact ⟨0, rfl, Nat.zero_le _, rfl, rfl, rfl, rfl⟩
      case round =>
        obtain ⟨k, rfl, hk, rfl, rfl, hall, rfl⟩ := hrel
        have hn := HNS.out
        have hk9 : (k : Int) ≤ 9 := by have := H19.out; have := HN.out; omega
        have k0 : (0 : Int) ≤ (k : Int) := by omega
        by_cases hlt : k < n
        · have hkl : k < x.length := by rw [HN.out]; exact hlt
          have hlti : (k : Int) < (n : Int) := by omega
          have hix : (Instr.index 9 (.string S) (.int .i64 k)).run Tryz.prog wr = .ok (.int .u8 (x[k].toNat : Int)) wr := by
            rw [← HS.out]
            exact str_at x k hkl wr
          have HLT := Lib.hid hlt
          have HNA := Lib.hid (fun h => not_all hkl h)
          have HAT := Lib.hid (all_take hkl hall.out)
          have HSN : Hid (numV (x.take (k + 1)) = 10 * numV (x.take k) + (x[k].toNat - 48)) := by
            show _ = _
            rw [List.take_succ_eq_append_getElem hkl, numV_snoc]
          have hlt9 : numV (x.take k) < 1000000000 := by
            have h1 := numV_lt _ hall.out
            have h2 : (x.take k).length ≤ 9 := by simp; omega
            have := pow_le9 h2
            omega
          generalize numV (x.take k) = v at *
          generalize x[k] = y at *
          have y9 : y.toNat < 256 := y.toNat_lt
          by_cases hlo : y.toNat < 48
          · have HD : Hid (isNum x = false) := HNA.out (decide_eq_false (by omega))
            have t1 : decide ((y.toNat : Int) < 48) = true := decide_eq_true (by omega)
            have t2 : (y.toNat : Int) < 48 := by omega
            clear hlo hkl hlt
            go_wp2_with fail
            exact ⟨rfl, .inr ⟨fun hh => by rw [HX.out hh]; exact HD.out, rfl, h2.out.1⟩⟩
          have t1 : decide ((y.toNat : Int) < 48) = false := decide_eq_false (by omega)
          have t2 : ¬ ((y.toNat : Int) < 48) := by omega
          by_cases hhi : 57 < y.toNat
          · have HD : Hid (isNum x = false) := HNA.out (decide_eq_false (by omega))
            have t3 : decide ((57 : Int) < (y.toNat : Int)) = true := decide_eq_true (by omega)
            have t4 : (57 : Int) < (y.toNat : Int) := by omega
            clear hlo hhi hkl hlt
            go_wp2_with fail
            exact ⟨rfl, .inr ⟨fun hh => by rw [HX.out hh]; exact HD.out, rfl, h2.out.1⟩⟩
          have t3 : decide ((57 : Int) < (y.toNat : Int)) = false := decide_eq_false (by omega)
          have t4 : ¬ ((57 : Int) < (y.toNat : Int)) := by omega
          have HD : Hid (isDig y = true) := decide_eq_true ⟨by omega, by omega⟩
          have HY : Hid (((y.toNat - 48 : Nat) : Int) = (y.toNat : Int) - 48) := by show _ = _; omega
          have W1 : IntKind.u8.wrap ((y.toNat : Int) - 48) = (y.toNat : Int) - 48 := by show ((y.toNat : Int) - 48) % 256 = _; omega
          have W2 : IntKind.i64.wrap (10 * (v : Int)) = 10 * (v : Int) := IntWalk.i64_in _ (by omega)
          have W3 : IntKind.i64.wrap (10 * (v : Int) + ((y.toNat : Int) - 48)) = 10 * (v : Int) + ((y.toNat : Int) - 48) := IntWalk.i64_in _ (by omega)
          have W4 : IntKind.i64.wrap ((y.toNat : Int) - 48) = (y.toNat : Int) - 48 := IntWalk.i64_in _ (by omega)
          clear hlo hhi hkl hlt
          go_wp2_with fail
          go_roundg (n - (k + 1))
          case measure => have := HLT.out; omega
          case rel => exact ⟨k + 1, rfl, HLT.out, by go_num, by rw [HSN.out]; simp only [Int.natCast_add, Int.natCast_mul, HY.out]; rfl, HAT.out.trans HD.out, rfl⟩
        · have hlti : ¬ ((k : Int) < (n : Int)) := by omega
          have hxt : x.take k = x := List.take_of_length_le (by have := HN.out; omega)
          rw [hxt] at hall ⊢
          have HE : Hid (isNum x = true) := by
            show _ = _
            unfold isNum
            rw [hall.out, decide_eq_true H19.out]
            rfl
          clear hxt hlt
          go_wp2_with fail
          go_ret
          exact .inl ⟨HLT0.out, by rw [HX.out HLT0.out]; exact HE.out, by rw [HX.out HLT0.out]; rfl, h2⟩
    · have HE : Hid (isNum x = false) := by
        show _ = _
        unfold isNum
        rw [decide_eq_false hln]
        rfl
      have hsz := str_size x
      generalize str x = S at *
      by_cases h0 : x.length < 1
      · have e1 : decide ((S.size : Int) < 1) = true := decide_eq_true (by omega)
        clear h0 hln hsz
        go_enter Tryz.func81, Tryz.ntmps81
        go_wp2_with fail
        refine HNX.out _ ?_
        rintro w2 h2
        go_wp2_with fail
        exact ⟨rfl, .inr ⟨fun hh => by rw [HX.out hh]; exact HE.out, rfl, h2.out.1⟩⟩
      · have e1 : decide ((S.size : Int) < 1) = false := decide_eq_false (by omega)
        have e2 : decide ((9 : Int) < (S.size : Int)) = true := decide_eq_true (by omega)
        clear h0 hln hsz
        go_enter Tryz.func81, Tryz.ntmps81
        go_wp2_with fail
        refine HNX.out _ ?_
        rintro w2 h2
        go_wp2_with fail
        exact ⟨rfl, .inr ⟨fun hh => by rw [HX.out hh]; exact HE.out, rfl, h2.out.1⟩⟩
  · have HN : Hid (Calls Tryz.prog 67 #[.pointer (some ⟨p.P, 0, none⟩)] w fun e w' => Threw 191 e ∧ Hid (Since p.P p.w0 w')) := by
      refine (next_any p i o w hp h).mono ?_
      rintro e w' (⟨hh, _, _⟩ | ⟨_, h2, h3⟩)
      · exact absurd hh hlt
      · exact ⟨h2, h3⟩
    have HLT := Lib.hid hlt
    clear hlt
    go_enter Tryz.func81, Tryz.ntmps81
    go_wp2_with fail
    refine HN.out.mono ?_
    rintro e w2 ⟨he, h2⟩
    unfold Threw at he
    subst he
    go_wp2_with fail
    exact ⟨rfl, .inr ⟨fun hh => absurd hh HLT.out, rfl, h2⟩⟩
end Go.Proofs.YtcdhkeahcliefaaGreatDoor.TokC
/- The program's parser: a number's name. -/
namespace Go.Proofs.YtcdhkeahcliefaaGreatDoor.TokE
open Go.ChangeShapes Go.WideShapes Go.ChangeAt Go.RowKit
open Go.Proofs.YtcdhkeahcliefaaGreatDoor.Kit Go.Proofs.YtcdhkeahcliefaaGreatDoor.Base Go.Proofs.YtcdhkeahcliefaaGreatDoor.PatA Go.Proofs.YtcdhkeahcliefaaGreatDoor.Tok Go.Proofs.YtcdhkeahcliefaaGreatDoor.TokB
set_option linter.unusedVariables false
def fields : List (List UInt8) := [[115, 105, 122, 101], [111, 119, 110, 101, 100], [108, 105, 110, 107, 115], [110, 111, 100, 101], [100, 101, 112, 116, 104]]
def isField (x : List UInt8) : Bool := fields.contains x
theorem field_no {x : List UInt8} (h0 : x ≠ [115, 105, 122, 101]) (h1 : x ≠ [111, 119, 110, 101, 100]) (h2 : x ≠ [108, 105, 110, 107, 115]) (h3 : x ≠ [110, 111, 100, 101]) (h4 : x ≠ [100, 101, 112, 116, 104]) : isField x = false := by
  unfold isField fields
  simp only [List.contains_cons, List.contains_nil, Bool.or_false, Bool.or_eq_false_iff]
  exact ⟨beq_eq_false_iff_ne.2 h0, beq_eq_false_iff_ne.2 h1, beq_eq_false_iff_ne.2 h2, beq_eq_false_iff_ne.2 h3, beq_eq_false_iff_ne.2 h4⟩
set_option maxRecDepth 100000 in
set_option maxHeartbeats 1600000 in
theorem field_any (x : List UInt8) (w : World) :
    Calls Tryz.prog 79 #[.agg #[.string ⟨#[]⟩, .int .i64 0, .int .i64 0, .int .i64 0, .int .i64 0, .int .i64 0, .int .i64 0], .string (str x)] w fun e w' => e = .returned (.tuple #[.int .i64 0, .bool (isField x)]) ∧ Hid (Below w.heap.size w w') := by
  have hB : Hid (Below w.heap.size w (w.alloc (.cells #[.string ⟨#[]⟩, .int .i64 0, .int .i64 0, .int .i64 0, .int .i64 0, .int .i64 0, .int .i64 0] 146))) := (Below.refl _ _).alloc (Nat.le_refl _) _
  have hk := Blk.new w #[.string ⟨#[]⟩, .int .i64 0, .int .i64 0, .int .i64 0, .int .i64 0, .int .i64 0, .int .i64 0] 146
  have c1 := hk.cell 1
  have c2 := hk.cell 2
  have c3 := hk.cell 3
  have c4 := hk.cell 4
  have c5 := hk.cell 5
  have c6 := hk.cell 6
  clear hk
  by_cases h0 : x = [115, 105, 122, 101]
  · have HF : Hid (isField x = true) := by rw [h0]; exact (by decide : isField [115, 105, 122, 101] = true)
    rw [HF.out, h0, show str [115, 105, 122, 101] = ⟨#[115, 105, 122, 101]⟩ from rfl]
    clear h0
    go_enter Tryz.func79, Tryz.ntmps79
    go_wp2_with fail
    go_ret2
    exact ⟨rfl, hB⟩
  by_cases h1 : x = [111, 119, 110, 101, 100]
  · have HF : Hid (isField x = true) := by rw [h1]; exact (by decide : isField [111, 119, 110, 101, 100] = true)
    rw [HF.out, h1, show str [111, 119, 110, 101, 100] = ⟨#[111, 119, 110, 101, 100]⟩ from rfl]
    clear h0 h1
    go_enter Tryz.func79, Tryz.ntmps79
    go_wp2_with fail
    go_ret2
    exact ⟨rfl, hB⟩
  by_cases h2 : x = [108, 105, 110, 107, 115]
  · have HF : Hid (isField x = true) := by rw [h2]; exact (by decide : isField [108, 105, 110, 107, 115] = true)
    rw [HF.out, h2, show str [108, 105, 110, 107, 115] = ⟨#[108, 105, 110, 107, 115]⟩ from rfl]
    clear h0 h1 h2
    go_enter Tryz.func79, Tryz.ntmps79
    go_wp2_with fail
    go_ret2
    exact ⟨rfl, hB⟩
  by_cases h3 : x = [110, 111, 100, 101]
  · have HF : Hid (isField x = true) := by rw [h3]; exact (by decide : isField [110, 111, 100, 101] = true)
    rw [HF.out, h3, show str [110, 111, 100, 101] = ⟨#[110, 111, 100, 101]⟩ from rfl]
    clear h0 h1 h2 h3
    go_enter Tryz.func79, Tryz.ntmps79
    go_wp2_with fail
    go_ret2
    exact ⟨rfl, hB⟩
  by_cases h4 : x = [100, 101, 112, 116, 104]
  · have HF : Hid (isField x = true) := by rw [h4]; exact (by decide : isField [100, 101, 112, 116, 104] = true)
    rw [HF.out, h4, show str [100, 101, 112, 116, 104] = ⟨#[100, 101, 112, 116, 104]⟩ from rfl]
    clear h0 h1 h2 h3 h4
    go_enter Tryz.func79, Tryz.ntmps79
    go_wp2_with fail
    go_ret2
    exact ⟨rfl, hB⟩
  have e0 := ne_list h0
  have e1 := ne_list h1
  have e2 := ne_list h2
  have e3 := ne_list h3
  have e4 := ne_list h4
  have HF : Hid (isField x = false) := field_no h0 h1 h2 h3 h4
  rw [HF.out]
  clear h0 h1 h2 h3 h4
  go_enter Tryz.func79, Tryz.ntmps79
  go_wp2_with fail
  go_ret2
  exact ⟨rfl, hB⟩
end Go.Proofs.YtcdhkeahcliefaaGreatDoor.TokE
