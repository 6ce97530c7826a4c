/- The document's NodeFits and pointer. -/
import Derived.Test.YtefmihbjboacdaaNodeFits
namespace Go.Proofs.Ytefmihbjboacdaa.NodeRefFits
open Go.ChangeShapes Go.WideShapes Go.ChangeAt Go.RowKit
open Go.Proofs.Ytefmihbjboacdaa.Kit Go.Proofs.Ytefmihbjboacdaa.Crc Go.Proofs.Ytefmihbjboacdaa.Reads Go.Proofs.Ytefmihbjboacdaa.Copy Go.Proofs.Ytefmihbjboacdaa.Lay Go.Proofs.Ytefmihbjboacdaa.NodeLay Go.Proofs.Ytefmihbjboacdaa.EntryEnc Go.Proofs.Ytefmihbjboacdaa.NodeEq Go.Proofs.Ytefmihbjboacdaa.NodeFits
set_option linter.unusedVariables false

set_option maxRecDepth 100000 in
set_option maxHeartbeats 1600000 in
theorem pointer_any (f : Nat → Int) (k : Nat) (w : World) (hk : k < 12) : Calls Try.prog 60 #[.agg #[.int .i64 (f 0), .int .i64 (f 1), .int .i64 (f 2), .int .i64 (f 3), .int .i64 (f 4), .int .i64 (f 5), .int .i64 (f 6), .int .i64 (f 7), .int .i64 (f 8), .int .i64 (f 9), .int .i64 (f 10), .int .i64 (f 11), .int .i64 (f 12), .int .i64 (f 13), .int .i64 (f 14), .int .i64 (f 15), .int .i64 (f 16)], .int .i64 k] w fun e w' => e = .returned (.int .i64 (f (5 + k))) ∧ Hid (Below w.heap.size w w') := by
  go_enter Try.func60, Try.ntmps60
  go_upto_region 1 with (fail)
  refine gen_world (fun w' => Hid (Below w.heap.size w w' ∧ Blk w' w.heap.size (ncs f) 51)) ?_ ?_
  · exact ⟨(Below.refl _ _).alloc (Nat.le_refl _) _, Blk.new w _ _⟩
  rintro w1 h1
  have hc : w1.cell? ⟨w.heap.size, 5 + k, none⟩ = some (.int .i64 (f (5 + k))) := (h1.out.2.cell (5 + k)).trans (ncs_get f (5 + k) (by omega))
  by_cases h10 : k = 10
  · subst h10
    have hc2 : w1.cell? ⟨w.heap.size, 15, none⟩ = some (.int .i64 (f 15)) := hc
    clear hc
    go_wp2_with fail
    go_ret
    exact ⟨rfl, h1.out.1⟩
  by_cases h11 : k = 11
  · subst h11
    have hc2 : w1.cell? ⟨w.heap.size, 16, none⟩ = some (.int .i64 (f 16)) := hc
    clear hc
    go_wp2_with fail
    go_ret
    exact ⟨rfl, h1.out.1⟩
  have hlt : k < 10 := by omega
  have t1 : ((k : Int) == 10) = false := beq_eq_false_iff_ne.2 (by omega)
  have t2 : ((k : Int) == 11) = false := beq_eq_false_iff_ne.2 (by omega)
  go_wp2_with fail
  go_ret
  exact ⟨rfl, h1.out.1⟩

set_option maxRecDepth 100000 in
set_option maxHeartbeats 1600000 in
theorem rfits_zero (f : Nat → Int) (w : World) (hz : NZero f) : Calls Try.prog 59 #[.agg #[.int .i64 (f 0), .int .i64 (f 1), .int .i64 (f 2), .int .i64 (f 3), .int .i64 (f 4), .int .i64 (f 5), .int .i64 (f 6), .int .i64 (f 7), .int .i64 (f 8), .int .i64 (f 9), .int .i64 (f 10), .int .i64 (f 11), .int .i64 (f 12), .int .i64 (f 13), .int .i64 (f 14), .int .i64 (f 15), .int .i64 (f 16)]] w fun e w' => e = .returned (.bool true) ∧ Below w.heap.size w w' := by
  have he := eq_node_yes f hz
  have HZ := Lib.hid hz
  clear hz
  go_enter Try.func59, Try.ntmps59
  go_wp2_with fail
  go_ret
  exact ⟨rfl, (Below.refl _ _).alloc (Nat.le_refl _) _⟩

def BoolPost (p : Bool) (w : World) (e : Ending) (w' : World) : Prop := e = .returned (.bool p) ∧ Hid (Below w.heap.size w w')
set_option maxRecDepth 100000 in
set_option maxHeartbeats 3200000 in
theorem rfits_else (f : Nat → Int) (w : World) (hz : ¬ NZero f) : Calls Try.prog 59 #[.agg #[.int .i64 (f 0), .int .i64 (f 1), .int .i64 (f 2), .int .i64 (f 3), .int .i64 (f 4), .int .i64 (f 5), .int .i64 (f 6), .int .i64 (f 7), .int .i64 (f 8), .int .i64 (f 9), .int .i64 (f 10), .int .i64 (f 11), .int .i64 (f 12), .int .i64 (f 13), .int .i64 (f 14), .int .i64 (f 15), .int .i64 (f 16)]] w (BoolPost (decide (NFits f)) w) := by
  have he := eq_node_no f hz
  have HZ := Lib.hid hz
  clear hz
  go_enter Try.func59, Try.ntmps59
  go_upto_region 3 with (fail)
  refine gen_world (fun w' => Hid (Below w.heap.size w w' ∧ Blk w' w.heap.size (ncs f) 51)) ?_ ?_
  · exact ⟨(Below.refl _ _).alloc (Nat.le_refl _) _, Blk.new w _ _⟩
  rintro w1 h1
  have c0 : w1.cell? ⟨w.heap.size, 0, none⟩ = some (.int .i64 (f 0)) := (h1.out.2.cell 0).trans rfl
  have c1 : w1.cell? ⟨w.heap.size, 1, none⟩ = some (.int .i64 (f 1)) := (h1.out.2.cell 1).trans rfl
  have c2 : w1.cell? ⟨w.heap.size, 2, none⟩ = some (.int .i64 (f 2)) := (h1.out.2.cell 2).trans rfl
  have c3 : w1.cell? ⟨w.heap.size, 3, none⟩ = some (.int .i64 (f 3)) := (h1.out.2.cell 3).trans rfl
  have c4 : w1.cell? ⟨w.heap.size, 4, none⟩ = some (.int .i64 (f 4)) := (h1.out.2.cell 4).trans rfl
  obtain ⟨q0, e0⟩ : ∃ x, f 0 = x := ⟨_, rfl⟩
  obtain ⟨q1, e1⟩ : ∃ x, f 1 = x := ⟨_, rfl⟩
  obtain ⟨q2, e2⟩ : ∃ x, f 2 = x := ⟨_, rfl⟩
  obtain ⟨q3, e3⟩ : ∃ x, f 3 = x := ⟨_, rfl⟩
  obtain ⟨q4, e4⟩ : ∃ x, f 4 = x := ⟨_, rfl⟩
  rw [e0] at c0
  rw [e1] at c1
  rw [e2] at c2
  rw [e3] at c3
  rw [e4] at c4
  have E0 := Lib.hid e0
  have E1 := Lib.hid e1
  have E2 := Lib.hid e2
  have E3 := Lib.hid e3
  have E4 := Lib.hid e4
  clear e0 e1 e2 e3 e4 he
  go_cut [45] (fun v wc => v = .bool (!decide (B3 f)) ∧ wc = w1)
  case first =>
    by_cases b0 : q0 < 1
    · have hd : decide (B3 f) = false := decide_eq_false (fun h : B3 f => by have h1 := h.1.1; rw [E0.out] at h1; omega)
      as_aux_lemma =>
        go_wp2_with fail
        go_meet
        exact ⟨by rw [hd]; rfl, rfl⟩
    by_cases b1 : 3 < q0
    · have hd : decide (B3 f) = false := decide_eq_false (fun h : B3 f => by have h1 := h.1.2; rw [E0.out] at h1; omega)
      as_aux_lemma =>
        go_wp2_with fail
        go_meet
        exact ⟨by rw [hd]; rfl, rfl⟩
    by_cases b2 : q1 < 0
    · have hd : decide (B3 f) = false := decide_eq_false (fun h : B3 f => by have h1 := h.2.1.1; rw [E1.out] at h1; omega)
      as_aux_lemma =>
        go_wp2_with fail
        go_meet
        exact ⟨by rw [hd]; rfl, rfl⟩
    by_cases b3 : 64 < q1
    · have hd : decide (B3 f) = false := decide_eq_false (fun h : B3 f => by have h1 := h.2.1.2; rw [E1.out] at h1; omega)
      as_aux_lemma =>
        go_wp2_with fail
        go_meet
        exact ⟨by rw [hd]; rfl, rfl⟩
    by_cases b4 : q3 < 0
    · have hd : decide (B3 f) = false := decide_eq_false (fun h : B3 f => by have h1 := h.2.2.1.1; rw [E3.out] at h1; omega)
      as_aux_lemma =>
        go_wp2_with fail
        go_meet
        exact ⟨by rw [hd]; rfl, rfl⟩
    by_cases b5 : 8459264 < q3
    · have hd : decide (B3 f) = false := decide_eq_false (fun h : B3 f => by have h1 := h.2.2.1.2; rw [E3.out] at h1; omega)
      as_aux_lemma =>
        go_wp2_with fail
        go_meet
        exact ⟨by rw [hd]; rfl, rfl⟩
    by_cases b6 : q4 < 0
    · have hd : decide (B3 f) = false := decide_eq_false (fun h : B3 f => by have h1 := h.2.2.2.1; rw [E4.out] at h1; omega)
      as_aux_lemma =>
        go_wp2_with fail
        go_meet
        exact ⟨by rw [hd]; rfl, rfl⟩
    by_cases b7 : 2048 < q4
    · have hd : decide (B3 f) = false := decide_eq_false (fun h : B3 f => by have h1 := h.2.2.2.2; rw [E4.out] at h1; omega)
      as_aux_lemma =>
        go_wp2_with fail
        go_meet
        exact ⟨by rw [hd]; rfl, rfl⟩
    have hd : decide (B3 f) = true := decide_eq_true (by
      unfold B3
      rw [E0.out, E1.out, E3.out, E4.out]
      omega)
    as_aux_lemma =>
      go_wp2_with fail
      go_meet
      exact ⟨by rw [hd]; rfl, rfl⟩
  case rest =>
    obtain ⟨rfl, rfl⟩ := hcut
    by_cases hb3 : B3 f
    case neg =>
      have HD := Lib.hid (decide_eq_false (fun h : NFits f => hb3 ⟨h.1, h.2.1, h.2.2.1, h.2.2.2.1⟩))
      rw [decide_eq_false hb3]
      clear c0 c1 c2 c3 c4
      as_aux_lemma =>
        go_wp2_with fail
        go_ret
        exact ⟨by rw [HD.out]; rfl, h1.out.1⟩
    rw [decide_eq_true hb3]
    have HB3 := Lib.hid hb3
    clear hb3 c1 c3 c4
    go_upto_region 5 with (fail)
    go_cut [68] (fun v wc2 => v = .bool (!decide (B5 f)) ∧ wc2 = wc)
    case first =>
      by_cases hk2 : q0 = 2
      · subst hk2
        by_cases d1 : q2 < 1
        · have hd : decide (B5 f) = false := decide_eq_false (fun h => by have h1 := (h.2.1 E0.out).1; rw [E2.out] at h1; omega)
          as_aux_lemma =>
            go_wp2_with fail
            go_meet
            exact ⟨by rw [hd]; rfl, rfl⟩
        by_cases d2 : 1024 < q2
        · have hd : decide (B5 f) = false := decide_eq_false (fun h => by have h1 := (h.2.1 E0.out).2; rw [E2.out] at h1; omega)
          as_aux_lemma =>
            go_wp2_with fail
            go_meet
            exact ⟨by rw [hd]; rfl, rfl⟩
        have hd : decide (B5 f) = true := decide_eq_true ⟨HB3.out, fun _ => by rw [E2.out]; omega, fun h => absurd E0.out h⟩
        as_aux_lemma =>
          go_wp2_with fail
          go_meet
          exact ⟨by rw [hd]; rfl, rfl⟩
      · have t2 : (q0 == 2) = false := by simp [hk2]
        have t3 : (q0 != 2) = true := by simp [hk2]
        by_cases d1 : q2 = 0
        · have hd : decide (B5 f) = true := decide_eq_true ⟨HB3.out, fun h => absurd (E0.out ▸ h) hk2, fun _ => by rw [E2.out]; exact d1⟩
          subst d1
          as_aux_lemma =>
            go_wp2_with fail
            go_meet
            exact ⟨by rw [hd]; rfl, rfl⟩
        · have hd : decide (B5 f) = false := decide_eq_false (fun h => by have h1 := h.2.2 (by rw [E0.out]; exact hk2); rw [E2.out] at h1; exact d1 h1)
          have t4 : (q2 != 0) = true := by simp [d1]
          as_aux_lemma =>
            go_wp2_with fail
            go_meet
            exact ⟨by rw [hd]; rfl, rfl⟩
    case rest =>
      obtain ⟨rfl, rfl⟩ := hcut
      clear c0 c2
      by_cases hb5 : B5 f
      case neg =>
        have HD := Lib.hid (decide_eq_false (fun h : NFits f => hb5 ((pk_all f).2 h).1))
        rw [decide_eq_false hb5]
        as_aux_lemma =>
          go_wp2_with fail
          go_ret
          exact ⟨by rw [HD.out]; rfl, h1.out.1⟩
      rw [decide_eq_true hb5]
      have HB5 := Lib.hid hb5
      clear hb5
      go_wp2_with fail
      go_loopw [3] (fun i wr => ∃ (k : Nat), i = .int .i64 k ∧ k ≤ 12 ∧ Hid (∀ j, j < k → 0 ≤ f (5 + j) ∧ f (5 + j) ≤ 2047) ∧ Hid (Below w.heap.size w wr ∧ Blk wr w.heap.size (ncs f) 51)) (fun i _ => 12 - (intOf i).toNat)
      case atStart => exact ⟨0, rfl, by omega, fun j hj => absurd hj (Nat.not_lt_zero j), h1⟩
      case round =>
        clear h1
        obtain ⟨k, rfl, hk, HA, HR⟩ := hrel
        have c0 : wr.cell? ⟨w.heap.size, 0, none⟩ = some (.int .i64 (f 0)) := (HR.out.2.cell 0).trans rfl
        have c1 : wr.cell? ⟨w.heap.size, 1, none⟩ = some (.int .i64 (f 1)) := (HR.out.2.cell 1).trans rfl
        have c2 : wr.cell? ⟨w.heap.size, 2, none⟩ = some (.int .i64 (f 2)) := (HR.out.2.cell 2).trans rfl
        have c3 : wr.cell? ⟨w.heap.size, 3, none⟩ = some (.int .i64 (f 3)) := (HR.out.2.cell 3).trans rfl
        have c4 : wr.cell? ⟨w.heap.size, 4, none⟩ = some (.int .i64 (f 4)) := (HR.out.2.cell 4).trans rfl
        have c5 : wr.cell? ⟨w.heap.size, 5, none⟩ = some (.int .i64 (f 5)) := (HR.out.2.cell 5).trans rfl
        have c6 : wr.cell? ⟨w.heap.size, 6, none⟩ = some (.int .i64 (f 6)) := (HR.out.2.cell 6).trans rfl
        have c7 : wr.cell? ⟨w.heap.size, 7, none⟩ = some (.int .i64 (f 7)) := (HR.out.2.cell 7).trans rfl
        have c8 : wr.cell? ⟨w.heap.size, 8, none⟩ = some (.int .i64 (f 8)) := (HR.out.2.cell 8).trans rfl
        have c9 : wr.cell? ⟨w.heap.size, 9, none⟩ = some (.int .i64 (f 9)) := (HR.out.2.cell 9).trans rfl
        have c10 : wr.cell? ⟨w.heap.size, 10, none⟩ = some (.int .i64 (f 10)) := (HR.out.2.cell 10).trans rfl
        have c11 : wr.cell? ⟨w.heap.size, 11, none⟩ = some (.int .i64 (f 11)) := (HR.out.2.cell 11).trans rfl
        have c12 : wr.cell? ⟨w.heap.size, 12, none⟩ = some (.int .i64 (f 12)) := (HR.out.2.cell 12).trans rfl
        have c13 : wr.cell? ⟨w.heap.size, 13, none⟩ = some (.int .i64 (f 13)) := (HR.out.2.cell 13).trans rfl
        have c14 : wr.cell? ⟨w.heap.size, 14, none⟩ = some (.int .i64 (f 14)) := (HR.out.2.cell 14).trans rfl
        have c15 : wr.cell? ⟨w.heap.size, 15, none⟩ = some (.int .i64 (f 15)) := (HR.out.2.cell 15).trans rfl
        have c16 : wr.cell? ⟨w.heap.size, 16, none⟩ = some (.int .i64 (f 16)) := (HR.out.2.cell 16).trans rfl
        by_cases hlt : k < 12
        · as_aux_lemma =>
            go_wp2_with fail
            refine (pointer_any f k _ hlt).mono ?_
            obtain ⟨q, hq⟩ : ∃ x, f (5 + k) = x := ⟨_, rfl⟩
            rw [hq]
            rintro e w5 ⟨rfl, hb5⟩
            have HQ := Lib.hid hq
            have HR5 : Hid (Below w.heap.size w w5 ∧ Blk w5 w.heap.size (ncs f) 51) := ⟨HR.out.1.trans (hb5.out.mono HR.out.1.size), HR.out.2.below hb5.out HR.out.2.lt⟩
            clear hq hb5 HR c0 c1 c2 c3 c4 c5 c6 c7 c8 c9 c10 c11 c12 c13 c14 c15 c16
            by_cases hq0 : q < 0
            · have HD := Lib.hid (decide_eq_false (fun h : NFits f => by have h1 := (h.2.2.2.2.2.2 k hlt).1; rw [HQ.out] at h1; omega))
              go_wp2_with fail
              go_ret
              exact ⟨by rw [HD.out]; rfl, HR5.out.1⟩
            · by_cases hq1 : 2048 ≤ q
              · have HD := Lib.hid (decide_eq_false (fun h : NFits f => by have h1 := (h.2.2.2.2.2.2 k hlt).2; rw [HQ.out] at h1; omega))
                go_wp2_with fail
                go_ret
                exact ⟨by rw [HD.out]; rfl, HR5.out.1⟩
              · have HA2 : Hid (∀ j, j < k + 1 → 0 ≤ f (5 + j) ∧ f (5 + j) ≤ 2047) := fun j hj => by
                  by_cases e : j = k
                  · subst e
                    rw [HQ.out]
                    omega
                  · exact HA.out j (by omega)
                go_wp2_with fail
                refine ⟨?_, by simp [intOf]; omega⟩
                (repeat apply Exists.intro)
                exact ⟨⟨k + 1, by go_num, by omega, HA2, HR5⟩, rfl⟩
        · obtain rfl : k = 12 := by omega
          clear c0 c1 c2 c3 c4 c5 c6 c7 c8 c9 c10 c11 c12 c13 c14 c15 c16
          have HD := Lib.hid (decide_eq_true (p := NFits f) ((pk_all f).1 ⟨HB5.out, HA.out⟩))
          as_aux_lemma =>
            go_wp2_with fail
            go_ret
            exact ⟨by rw [HD.out]; rfl, HR.out.1⟩
end Go.Proofs.Ytefmihbjboacdaa.NodeRefFits
