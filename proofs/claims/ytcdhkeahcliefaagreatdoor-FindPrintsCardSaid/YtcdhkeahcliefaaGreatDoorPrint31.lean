/- The document's Quote: bytes as one quoted word, the same. -/
import Derived.Test.YtcdhkeahcliefaaGreatDoorPrint25
namespace Go.Proofs.YtcdhkeahcliefaaGreatDoor.QuoB
open Go.ChangeShapes Go.WideShapes Go.ChangeAt Go.RowKit
open Go.Proofs.YtcdhkeahcliefaaGreatDoor.Kit Go.Proofs.YtcdhkeahcliefaaGreatDoor.Base Go.Proofs.YtcdhkeahcliefaaGreatDoor.Bld Go.Proofs.YtcdhkeahcliefaaGreatDoor.Quo
set_option linter.unusedVariables false

theorem ofNat_toNat (y : UInt8) : UInt8.ofNat y.toNat = y := by simp
theorem u8_in {x : Int} (h0 : 0 ≤ x) (h1 : x < 256) : IntKind.u8.wrap x = x := by
  show x % 256 = x
  omega
def digits : ByteArray := ⟨#[48, 49, 50, 51, 52, 53, 54, 55, 56, 57, 97, 98, 99, 100, 101, 102]⟩
theorem q_self {y : UInt8} (h : y.toNat = 92 ∨ y.toNat = 34) : q1 y = [92, y] := by
  have e : sgn y.toNat = y.toNat := if_pos h
  unfold q1
  rw [e, if_pos (by omega), ofNat_toNat]
theorem q_nl {y : UInt8} (h : y.toNat = 10) : q1 y = [92, 110] := by
  unfold q1
  rw [h]
  rfl
theorem q_tab {y : UInt8} (h : y.toNat = 9) : q1 y = [92, 116] := by
  unfold q1
  rw [h]
  rfl
theorem sgn_no {c : Nat} (h1 : c ≠ 34) (h2 : c ≠ 92) (h3 : c ≠ 10) (h4 : c ≠ 9) : sgn c = 0 := by
  unfold sgn
  rw [if_neg (by omega), if_neg h3, if_neg h4]
theorem q_hex {y : UInt8} (h1 : y.toNat ≠ 34) (h2 : y.toNat ≠ 92) (h3 : y.toNat ≠ 10) (h4 : y.toNat ≠ 9) (h : y.toNat < 32 ∨ 126 < y.toNat) : q1 y = [92, 120, UInt8.ofNat (hexd (y.toNat / 16)), UInt8.ofNat (hexd (y.toNat % 16))] := by
  unfold q1
  rw [sgn_no h1 h2 h3 h4, if_neg (by simp), if_pos (by omega)]
theorem q_plain {y : UInt8} (h1 : y.toNat ≠ 34) (h2 : y.toNat ≠ 92) (h3 : y.toNat ≠ 10) (h4 : y.toNat ≠ 9) (h5 : 32 ≤ y.toNat) (h6 : y.toNat ≤ 126) : q1 y = [y] := by
  unfold q1
  rw [sgn_no h1 h2 h3 h4, if_neg (by simp), if_neg (by omega)]
/-- what the loop holds to -/
def Qs (Z : Nat) (w0 wr : World) (v : Value) (l : List UInt8) : Prop := Since Z w0 wr ∧ wr.ownsRow Z 5 1 v l.length (Lib.byteCells l)
theorem Qs.drew {Z : Nat} {w0 wr : World} {v : Value} {l : List UInt8} (h : Hid (Qs Z w0 wr v l)) : Hid (Since Z w0 wr.drew ∧ wr.drew.ownsRow Z 5 1 v l.length (Lib.byteCells l)) := ⟨h.out.1.drew, h.out.2⟩
theorem Qs.raw {Z : Nat} {w0 wr : World} {v : Value} {l : List UInt8} (h : Hid (Qs Z w0 wr v l)) : Hid (Since Z w0 wr ∧ wr.ownsRow Z 5 1 v l.length (Lib.byteCells l)) := h
theorem Qs.of {Z : Nat} {w0 wr : World} {v : Value} {l r : List UInt8} {xs : List Value} {n : Nat} (h : Since Z w0 wr ∧ wr.ownsRow Z 5 1 v n (Lib.byteCells l ++ xs)) (hx : xs = Lib.byteCells r) : Qs Z w0 wr v (l ++ r) := by
  subst hx
  refine ⟨h.1, ?_⟩
  rw [byteCells_append]
  have e : n = (l ++ r).length := by
    have := h.2.1
    rw [List.length_append, byteCells_length, byteCells_length] at this
    rw [List.length_append]
    omega
  rw [← e]
  exact h.2
set_option maxRecDepth 100000 in
set_option maxHeartbeats 1600000 in
theorem quoteR_any (A : Option Addr) (n c : Nat) (l : List UInt8) (w : World) (hn : l.length = n) (hl : n ≤ 65536) (H : Hid (Bytes w A l)) :
    Calls Tryz.prog 46 #[.slice A n c] w fun e w' => e = .returned (.string (str (quo l))) ∧ Hid (Below w.heap.size w w') := by
  have HN := Lib.hid (And.intro hn hl)
  obtain ⟨Z, hZ⟩ : ∃ Z, w.heap.size = Z := ⟨_, rfl⟩
  have HZ := Lib.hid hZ
  rw [hZ]
  have h1 : Hid (Since Z w w ∧ w.ownsRow Z 5 1 (.slice none 0 0) 0 (Lib.byteCells [])) := by
    subst hZ
    exact ⟨Since.refl w, rfl, .inl ⟨rfl, rfl⟩⟩
  clear hn hl hZ
  go_enter Tryz.func46, Tryz.ntmps46
  go_wp2_with (first | (at_builtin; go_loud (refine app_new el60 rfl (.tmp 6) (.tmp 7) rfl rfl h1 #[.int .u8 34] 1 1 rfl rfl (by decide) (by decide) ?_); intro v' w7 h7))
  have h2 : Hid (Qs Z w w7 v' [34]) := Qs.of (l := []) (r := [34]) h7.out rfl
  clear h1 h7
  go_loopg [4, 3] n (fun g i v wr => ∃ (k : Nat), g = n - k ∧ k ≤ n ∧ i = .int .i64 k ∧ Hid (Qs Z w wr v (34 :: (l.take k).flatMap q1)))
  case atStart => exact ⟨0, rfl, Nat.zero_le _, rfl, h2⟩
  case round =>
    clear h2 w7
    obtain ⟨k, rfl, hk, rfl, h1⟩ := hrel
    have hk9 : (k : Int) ≤ 65536 := by have := HN.out; omega
    have k0 : (0 : Int) ≤ (k : Int) := by omega
    by_cases hlt : k < n
    · have hlti : (k : Int) < (n : Int) := by omega
      have HLT := Lib.hid hlt
      obtain ⟨ad, rfl, hc⟩ := H.out k (by rw [HN.out.1]; exact hlt)
      have hcw : wr.cell? (ad.add k) = some (.int .u8 (l[k]'(by rw [HN.out.1]; exact hlt)).toNat) := (h1.out.1.1.cell (by rw [← HZ.out]; exact World.block_lt_of_cell? w _ hc)).trans hc
      have HSN : Hid ((l.take (k + 1)).flatMap q1 = (l.take k).flatMap q1 ++ q1 (l[k]'(by rw [HN.out.1]; exact hlt))) := by
        show _ = _
        rw [List.take_succ_eq_append_getElem (by rw [HN.out.1]; exact hlt), List.flatMap_append]
        simp
      have HTL : Hid ((34 :: (l.take k).flatMap q1).length ≤ 300001) := by
        show _ ≤ _
        have := flat_len (l.take k)
        rw [List.length_take] at this
        rw [List.length_cons]
        have := HN.out
        omega
      generalize (l[k]'(by rw [HN.out.1]; exact hlt)) = y at *
      have HY9 := Lib.hid y.toNat_lt
      have HSM : Hid (34 :: (l.take (k + 1)).flatMap q1 = 34 :: (l.take k).flatMap q1 ++ q1 y) := by
        show _ = _
        rw [HSN.out]
        rfl
      generalize hpre : 34 :: (l.take k).flatMap q1 = pre at *
      clear hpre hc hk hlt HSN
      have HFIN : Hid (∀ (wx : World) (vx : Value) (r : List UInt8) (xs : List Value) (m : Nat), (Since Z w wx ∧ wx.ownsRow Z 5 1 vx m (Lib.byteCells pre ++ xs)) → xs = Lib.byteCells r → q1 y = r → Hid (Qs Z w wx vx (34 :: (l.take (k + 1)).flatMap q1))) := fun wx vx r xs m h hx hr => by
        rw [HSM.out, hr]
        exact Qs.of h hx
      have hy9 : (y.toNat : Int) < 256 := by have := HY9.out; omega
      have HA : Hid (y.toNat = 34 ∨ y.toNat = 92 ∨ y.toNat = 10 ∨ y.toNat = 9 ∨ (y.toNat ≠ 34 ∧ y.toNat ≠ 92 ∧ y.toNat ≠ 10 ∧ y.toNat ≠ 9 ∧ (y.toNat < 32 ∨ 126 < y.toNat)) ∨ (y.toNat ≠ 34 ∧ y.toNat ≠ 92 ∧ y.toNat ≠ 10 ∧ y.toNat ≠ 9 ∧ 32 ≤ y.toNat ∧ y.toNat ≤ 126)) := by show _ ∨ _; omega
      rcases HA.out with h | h | h | h | ⟨g1, g2, g3, g4, g5⟩ | ⟨g1, g2, g3, g4, g5, g6⟩
      · have HQ := Lib.hid (q_self (.inr h))
        have e34 : ((y.toNat : Int) == 34) = true := beq_iff_eq.2 (by omega)
        clear h
        have HONE : Hid (∀ u ∈ (#[.int .u8 92, .int .u8 y.toNat] : Array Value).toList, u.oneCell' = true) := fun u hu => by
          simp at hu
          rcases hu with rfl | rfl <;> rfl
        go_wp2_with (first | (at_builtin; go_loud (refine app_new el60 rfl (.tmp 30) (.tmp 32) rfl rfl (Qs.raw h1) #[.int .u8 92, .int .u8 y.toNat] 2 2 rfl rfl HONE.out (by have := HTL.out; omega) ?_); intro v' w7 h7))
        go_roundg (n - (k + 1))
        case measure => have := HLT.out; omega
        case rel => exact ⟨k + 1, rfl, HLT.out, by go_num, HFIN.out _ _ [92, y] _ _ h7.out rfl HQ.out⟩
      · have HQ := Lib.hid (q_self (.inl h))
        have e34 : ((y.toNat : Int) == 34) = false := beq_eq_false_iff_ne.2 (by omega)
        have e92 : ((y.toNat : Int) == 92) = true := beq_iff_eq.2 (by omega)
        clear h
        have HONE : Hid (∀ u ∈ (#[.int .u8 92, .int .u8 y.toNat] : Array Value).toList, u.oneCell' = true) := fun u hu => by
          simp at hu
          rcases hu with rfl | rfl <;> rfl
        go_wp2_with (first | (at_builtin; go_loud (refine app_new el60 rfl (.tmp 30) (.tmp 32) rfl rfl (Qs.raw h1) #[.int .u8 92, .int .u8 y.toNat] 2 2 rfl rfl HONE.out (by have := HTL.out; omega) ?_); intro v' w7 h7))
        go_roundg (n - (k + 1))
        case measure => have := HLT.out; omega
        case rel => exact ⟨k + 1, rfl, HLT.out, by go_num, HFIN.out _ _ [92, y] _ _ h7.out rfl HQ.out⟩
      · have HQ := Lib.hid (q_nl h)
        have e34 : ((y.toNat : Int) == 34) = false := beq_eq_false_iff_ne.2 (by omega)
        have e92 : ((y.toNat : Int) == 92) = false := beq_eq_false_iff_ne.2 (by omega)
        have e10 : ((y.toNat : Int) == 10) = true := beq_iff_eq.2 (by omega)
        clear h
        have HONE : Hid (∀ u ∈ (#[.int .u8 92, .int .u8 110] : Array Value).toList, u.oneCell' = true) := fun u hu => by
          simp at hu
          rcases hu with rfl | rfl <;> rfl
        go_wp2_with (first | (at_builtin; go_loud (refine app_new el60 rfl (.tmp 37) (.tmp 38) rfl rfl (Qs.raw h1) #[.int .u8 92, .int .u8 110] 2 2 rfl rfl HONE.out (by have := HTL.out; omega) ?_); intro v' w7 h7))
        go_roundg (n - (k + 1))
        case measure => have := HLT.out; omega
        case rel => exact ⟨k + 1, rfl, HLT.out, by go_num, HFIN.out _ _ [92, 110] _ _ h7.out rfl HQ.out⟩
      · have HQ := Lib.hid (q_tab h)
        have e34 : ((y.toNat : Int) == 34) = false := beq_eq_false_iff_ne.2 (by omega)
        have e92 : ((y.toNat : Int) == 92) = false := beq_eq_false_iff_ne.2 (by omega)
        have e10 : ((y.toNat : Int) == 10) = false := beq_eq_false_iff_ne.2 (by omega)
        have e9 : ((y.toNat : Int) == 9) = true := beq_iff_eq.2 (by omega)
        clear h
        have HONE : Hid (∀ u ∈ (#[.int .u8 92, .int .u8 116] : Array Value).toList, u.oneCell' = true) := fun u hu => by
          simp at hu
          rcases hu with rfl | rfl <;> rfl
        go_wp2_with (first | (at_builtin; go_loud (refine app_new el60 rfl (.tmp 43) (.tmp 44) rfl rfl (Qs.raw h1) #[.int .u8 92, .int .u8 116] 2 2 rfl rfl HONE.out (by have := HTL.out; omega) ?_); intro v' w7 h7))
        go_roundg (n - (k + 1))
        case measure => have := HLT.out; omega
        case rel => exact ⟨k + 1, rfl, HLT.out, by go_num, HFIN.out _ _ [92, 116] _ _ h7.out rfl HQ.out⟩
      · have HQ := Lib.hid (q_hex g1 g2 g3 g4 g5)
        have e34 : ((y.toNat : Int) == 34) = false := beq_eq_false_iff_ne.2 (by omega)
        have e92 : ((y.toNat : Int) == 92) = false := beq_eq_false_iff_ne.2 (by omega)
        have e10 : ((y.toNat : Int) == 10) = false := beq_eq_false_iff_ne.2 (by omega)
        have e9 : ((y.toNat : Int) == 9) = false := beq_eq_false_iff_ne.2 (by omega)
        rcases g5 with g5 | g5
        · have h32 : (y.toNat : Int) < 32 := by omega
          have b1 : (y.toNat : Int) / 16 < 16 := by omega
          have b2 : (y.toNat : Int) % 16 < 16 := by omega
          clear g1 g2 g3 g4 g5
          have G1 : y.toNat / 16 < (⟨#[48, 49, 50, 51, 52, 53, 54, 55, 56, 57, 97, 98, 99, 100, 101, 102]⟩ : ByteArray).size := by show _ < 16; omega
          have G2 : y.toNat % 16 < (⟨#[48, 49, 50, 51, 52, 53, 54, 55, 56, 57, 97, 98, 99, 100, 101, 102]⟩ : ByteArray).size := by show _ < 16; omega
          have W1 : IntKind.u8.wrap ((y.toNat : Int) / 16) = (y.toNat : Int) / 16 := u8_in (by omega) (by omega)
          have W2 : IntKind.u8.wrap ((y.toNat : Int) % 16) = (y.toNat : Int) % 16 := u8_in (by omega) (by omega)
          have T3 : (0 : Int) ≤ (y.toNat : Int) / 16 := by omega
          have T4 : (0 : Int) ≤ (y.toNat : Int) % 16 := by omega
          have M2 : ((y.toNat : Int)).tmod 16 = (y.toNat : Int) % 16 := Int.tmod_eq_emod_of_nonneg (by omega)
          have T1 : ((y.toNat : Int) / 16).toNat = y.toNat / 16 := by omega
          have T2 : ((y.toNat : Int) % 16).toNat = y.toNat % 16 := by omega
          have HG := Lib.hid (And.intro (hex_at _ G1) (hex_at _ G2))
          have HONE : Hid (∀ u ∈ (#[.int .u8 92, .int .u8 120, .int .u8 (((⟨#[48, 49, 50, 51, 52, 53, 54, 55, 56, 57, 97, 98, 99, 100, 101, 102]⟩ : ByteArray)[y.toNat / 16]'G1).toNat : Int), .int .u8 (((⟨#[48, 49, 50, 51, 52, 53, 54, 55, 56, 57, 97, 98, 99, 100, 101, 102]⟩ : ByteArray)[y.toNat % 16]'G2).toNat : Int)] : Array Value).toList, u.oneCell' = true) := fun u hu => by
            simp at hu
            rcases hu with rfl | rfl | rfl | rfl <;> rfl
          go_upto_region 15 with (fail)
          go_region_law (first | (refine step_new (v := u3) el60 rfl (.tmp 53) (.tmp 60) rfl rfl (Qs.drew h1) #[.int .u8 92, .int .u8 120, .int .u8 (((⟨#[48, 49, 50, 51, 52, 53, 54, 55, 56, 57, 97, 98, 99, 100, 101, 102]⟩ : ByteArray)[y.toNat / 16]'G1).toNat : Int), .int .u8 (((⟨#[48, 49, 50, 51, 52, 53, 54, 55, 56, 57, 97, 98, 99, 100, 101, 102]⟩ : ByteArray)[y.toNat % 16]'G2).toNat : Int)] 4 4 rfl (by decide) rfl HONE.out (by have := HTL.out; omega) ?_; intro v' w7 h7))
          all_goals (
            go_wp2_with fail
            go_roundg (n - (k + 1))
            case measure => have := HLT.out; omega
            case rel => exact ⟨k + 1, rfl, HLT.out, by go_num, HFIN.out _ _ [92, 120, UInt8.ofNat (hexd (y.toNat / 16)), UInt8.ofNat (hexd (y.toNat % 16))] _ _ h7.out (by rw [HG.out.1, HG.out.2]; rfl) HQ.out⟩)
        · have h32 : ¬ ((y.toNat : Int) < 32) := by omega
          have h126 : (126 : Int) < (y.toNat : Int) := by omega
          have b1 : (y.toNat : Int) / 16 < 16 := by omega
          have b2 : (y.toNat : Int) % 16 < 16 := by omega
          clear g1 g2 g3 g4 g5
          have G1 : y.toNat / 16 < (⟨#[48, 49, 50, 51, 52, 53, 54, 55, 56, 57, 97, 98, 99, 100, 101, 102]⟩ : ByteArray).size := by show _ < 16; omega
          have G2 : y.toNat % 16 < (⟨#[48, 49, 50, 51, 52, 53, 54, 55, 56, 57, 97, 98, 99, 100, 101, 102]⟩ : ByteArray).size := by show _ < 16; omega
          have W1 : IntKind.u8.wrap ((y.toNat : Int) / 16) = (y.toNat : Int) / 16 := u8_in (by omega) (by omega)
          have W2 : IntKind.u8.wrap ((y.toNat : Int) % 16) = (y.toNat : Int) % 16 := u8_in (by omega) (by omega)
          have T3 : (0 : Int) ≤ (y.toNat : Int) / 16 := by omega
          have T4 : (0 : Int) ≤ (y.toNat : Int) % 16 := by omega
          have M2 : ((y.toNat : Int)).tmod 16 = (y.toNat : Int) % 16 := Int.tmod_eq_emod_of_nonneg (by omega)
          have T1 : ((y.toNat : Int) / 16).toNat = y.toNat / 16 := by omega
          have T2 : ((y.toNat : Int) % 16).toNat = y.toNat % 16 := by omega
          have HG := Lib.hid (And.intro (hex_at _ G1) (hex_at _ G2))
          have HONE : Hid (∀ u ∈ (#[.int .u8 92, .int .u8 120, .int .u8 (((⟨#[48, 49, 50, 51, 52, 53, 54, 55, 56, 57, 97, 98, 99, 100, 101, 102]⟩ : ByteArray)[y.toNat / 16]'G1).toNat : Int), .int .u8 (((⟨#[48, 49, 50, 51, 52, 53, 54, 55, 56, 57, 97, 98, 99, 100, 101, 102]⟩ : ByteArray)[y.toNat % 16]'G2).toNat : Int)] : Array Value).toList, u.oneCell' = true) := fun u hu => by
            simp at hu
            rcases hu with rfl | rfl | rfl | rfl <;> rfl
          go_upto_region 15 with (fail)
          go_region_law (first | (refine step_new (v := u3) el60 rfl (.tmp 53) (.tmp 60) rfl rfl (Qs.drew h1) #[.int .u8 92, .int .u8 120, .int .u8 (((⟨#[48, 49, 50, 51, 52, 53, 54, 55, 56, 57, 97, 98, 99, 100, 101, 102]⟩ : ByteArray)[y.toNat / 16]'G1).toNat : Int), .int .u8 (((⟨#[48, 49, 50, 51, 52, 53, 54, 55, 56, 57, 97, 98, 99, 100, 101, 102]⟩ : ByteArray)[y.toNat % 16]'G2).toNat : Int)] 4 4 rfl (by decide) rfl HONE.out (by have := HTL.out; omega) ?_; intro v' w7 h7))
          all_goals (
            go_wp2_with fail
            go_roundg (n - (k + 1))
            case measure => have := HLT.out; omega
            case rel => exact ⟨k + 1, rfl, HLT.out, by go_num, HFIN.out _ _ [92, 120, UInt8.ofNat (hexd (y.toNat / 16)), UInt8.ofNat (hexd (y.toNat % 16))] _ _ h7.out (by rw [HG.out.1, HG.out.2]; rfl) HQ.out⟩)
      · have HQ := Lib.hid (q_plain g1 g2 g3 g4 g5 g6)
        have e34 : ((y.toNat : Int) == 34) = false := beq_eq_false_iff_ne.2 (by omega)
        have e92 : ((y.toNat : Int) == 92) = false := beq_eq_false_iff_ne.2 (by omega)
        have e10 : ((y.toNat : Int) == 10) = false := beq_eq_false_iff_ne.2 (by omega)
        have e9 : ((y.toNat : Int) == 9) = false := beq_eq_false_iff_ne.2 (by omega)
        have h32 : ¬ ((y.toNat : Int) < 32) := by omega
        have h126 : ¬ ((126 : Int) < (y.toNat : Int)) := by omega
        clear g1 g2 g3 g4 g5 g6
        have HONE : Hid (∀ u ∈ (#[.int .u8 y.toNat] : Array Value).toList, u.oneCell' = true) := fun u hu => by
          simp at hu
          rcases hu with rfl <;> rfl
        go_wp2_with (first | (at_builtin; go_loud (refine app_new el60 rfl (.tmp 19) (.tmp 21) rfl rfl (Qs.raw h1) #[.int .u8 y.toNat] 1 1 rfl rfl HONE.out (by have := HTL.out; omega) ?_); intro v' w7 h7))
        go_roundg (n - (k + 1))
        case measure => have := HLT.out; omega
        case rel => exact ⟨k + 1, rfl, HLT.out, by go_num, HFIN.out _ _ [y] _ _ h7.out rfl HQ.out⟩
    · obtain rfl : n = k := by omega
      have hlti : ¬ ((n : Int) < (n : Int)) := by omega
      have HE : Hid ((l.take n).flatMap q1 = l.flatMap q1) := by
        show _ = _
        rw [List.take_of_length_le (by rw [HN.out.1]; exact Nat.le_refl _)]
      have h2 : Hid (Qs Z w wr u3 (34 :: l.flatMap q1)) := by rw [← HE.out]; exact h1
      have HTL : Hid ((34 :: l.flatMap q1).length ≤ 300001) := by
        show _ ≤ _
        have := flat_len l
        have := HN.out
        rw [List.length_cons]
        omega
      generalize hpre : 34 :: l.flatMap q1 = pre at *
      have HP : Hid (34 :: l.flatMap q1 = pre) := hpre
      clear h1 hk hlt hpre
      go_upto_region 17 with (first | (at_builtin; go_loud (refine app_new el60 rfl (.tmp 62) (.tmp 63) rfl rfl (Qs.raw h2) #[.int .u8 34] 1 1 rfl rfl (by decide) (by have := HTL.out; omega) ?_); intro v' w7 h7))
      have h8 : Hid (Qs Z w w7 v' (pre ++ [34])) := Qs.of h7.out rfl
      have hcv := str_own h8.out.2
      have HPS : Hid (str (pre ++ [34]) = str (quo l)) := by
        show _ = _
        rw [← HP.out]
        rfl
      rw [HPS.out] at hcv
      go_wp2_with fail
      go_ret
      exact ⟨rfl, h8.out.1.1⟩
end Go.Proofs.YtcdhkeahcliefaaGreatDoor.QuoB
