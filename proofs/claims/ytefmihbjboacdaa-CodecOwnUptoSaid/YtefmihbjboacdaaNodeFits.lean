/- nodeFits, the document's NodeFits and pointer. -/
import Derived.Test.YtefmihbjboacdaaNodeEq
namespace Go.Proofs.Ytefmihbjboacdaa.NodeFits
open Go.ChangeShapes Go.WideShapes Go.ChangeAt Go.RowKit
open Go.Proofs.Ytefmihbjboacdaa.Kit Go.Proofs.Ytefmihbjboacdaa.Crc Go.Proofs.Ytefmihbjboacdaa.Reads Go.Proofs.Ytefmihbjboacdaa.Copy Go.Proofs.Ytefmihbjboacdaa.Lay Go.Proofs.Ytefmihbjboacdaa.NodeLay Go.Proofs.Ytefmihbjboacdaa.EntryEnc Go.Proofs.Ytefmihbjboacdaa.NodeEq
set_option linter.unusedVariables false

theorem step_append_run {P : Program} {w w' : World} {ops : Array Oper} {o : Oper} {a : Act} {K : Act → World → Prop} {Q : Exit → Act → World → Prop} {E : Prop} (hgd : o.guard = none) (s x : Operand) (t : TypeId) (v u r : Value)
    (ho : o.op = .call { callee := .builtin .append, args := #[s, x], argTypes := #[t, t] }) (hs : a.eval s = v) (hx : a.eval x = u) (hr : (Builtin.append_ #[t, t] o.type #[v, u]).run P w = .ok r w') (h : K (a.put o.dst r) w') :
    if Region.wanted o (yielded ops a.tmps) = true then Oper.wp P o a w K Q else E := by
  have hw : Region.wanted o (yielded ops a.tmps) = true := by simp [Region.wanted, hgd]
  rw [if_pos hw]
  unfold Oper.wp execOp
  simp only [ho, resolve, invoke, builtin, Sem.run_bind, Sem.run_pure, Result.andThen_ok, List.map_toArray, List.map_cons, List.map_nil, hs, hx, hr]
  exact h

/-- so far: the fields' bounds, and the first k pointers' -/
def PK (f : Nat → Int) (k : Nat) : Prop := B5 f ∧ ∀ i, i < k → 0 ≤ f (5 + i) ∧ f (5 + i) ≤ 2047
instance (f : Nat → Int) (k : Nat) : Decidable (PK f k) := by unfold PK; infer_instance
theorem pk_zero (f : Nat → Int) : PK f 0 ↔ B5 f := ⟨fun h => h.1, fun h => ⟨h, fun i hi => absurd hi (Nat.not_lt_zero i)⟩⟩
theorem pk_yes {f : Nat → Int} {k : Nat} (h : PK f k) (hk : 0 ≤ f (5 + k) ∧ f (5 + k) ≤ 2047) : PK f (k + 1) := ⟨h.1, fun i hi => by
  by_cases e : i = k
  · subst e; exact hk
  · exact h.2 i (by omega)⟩
theorem pk_no {f : Nat → Int} {k : Nat} (h : ¬ (0 ≤ f (5 + k) ∧ f (5 + k) ≤ 2047)) : ¬ PK f (k + 1) := fun hp => h (hp.2 k (by omega))
theorem pk_down {f : Nat → Int} {k : Nat} (h : ¬ PK f k) : ¬ PK f (k + 1) := fun hp => h ⟨hp.1, fun i hi => hp.2 i (by omega)⟩
theorem pk_all (f : Nat → Int) : PK f 12 ↔ NFits f := by
  unfold PK B5 B3 NFits
  constructor
  · rintro ⟨⟨⟨a, b, c, d⟩, e, g⟩, h⟩
    exact ⟨a, b, c, d, e, g, h⟩
  · rintro ⟨a, b, c, d, e, g, h⟩
    exact ⟨⟨⟨a, b, c, d⟩, e, g⟩, h⟩

set_option maxRecDepth 100000 in
set_option maxHeartbeats 1600000 in
theorem fits_else (f : Nat → Int) (w : World) (hz : ¬ NZero f) : Calls Try.prog 58 #[.agg #[.int .i64 (f 0), .int .i64 (f 1), .int .i64 (f 2), .int .i64 (f 3), .int .i64 (f 4), .int .i64 (f 5), .int .i64 (f 6), .int .i64 (f 7), .int .i64 (f 8), .int .i64 (f 9), .int .i64 (f 10), .int .i64 (f 11), .int .i64 (f 12), .int .i64 (f 13), .int .i64 (f 14), .int .i64 (f 15), .int .i64 (f 16)]] w fun e w' => e = .returned (.bool (decide (NFits f))) ∧ Below w.heap.size w w' := by
  have he := eq_node_no f hz
  have HZ := Lib.hid hz
  clear hz
  go_enter Try.func58, Try.ntmps58
  go_upto_region 3 with (fail)
  refine gen_world (fun w' => Hid (Below w.heap.size w w' ∧ Blk w' w.heap.size (ncs f) 51)) ?_ ?_
  · exact ⟨(Below.refl _ _).alloc (Nat.le_refl _) _, Blk.new w _ _⟩
  rintro w1 h1
  have c0 : w1.cell? ⟨w.heap.size, 0, none⟩ = some (.int .i64 (f 0)) := (h1.out.2.cell 0).trans rfl
  have c1 : w1.cell? ⟨w.heap.size, 1, none⟩ = some (.int .i64 (f 1)) := (h1.out.2.cell 1).trans rfl
  have c3 : w1.cell? ⟨w.heap.size, 3, none⟩ = some (.int .i64 (f 3)) := (h1.out.2.cell 3).trans rfl
  have c4 : w1.cell? ⟨w.heap.size, 4, none⟩ = some (.int .i64 (f 4)) := (h1.out.2.cell 4).trans rfl
  go_cut [3] (fun v wc => v = .bool (decide (B3 f)) ∧ wc = w1)
  case first =>
    go_wp2_with fail
    by_cases h0 : 1 ≤ f 0 ∧ f 0 ≤ 3
    · refine (between_yes _ _ _ _ h0).mono ?_
      rintro e w2 ⟨rfl, rfl⟩
      go_wp2_with fail
      by_cases h1 : 0 ≤ f 1 ∧ f 1 ≤ 64
      · refine (between_yes _ _ _ _ h1).mono ?_
        rintro e w2 ⟨rfl, rfl⟩
        go_wp2_with fail
        by_cases h3 : 0 ≤ f 3 ∧ f 3 ≤ 8459264
        · refine (between_yes _ _ _ _ h3).mono ?_
          rintro e w2 ⟨rfl, rfl⟩
          go_wp2_with fail
          by_cases h4 : 0 ≤ f 4 ∧ f 4 ≤ 2048
          · have hd : decide (B3 f) = true := decide_eq_true ⟨h0, h1, h3, h4⟩
            refine (between_yes _ _ _ _ h4).mono ?_
            rintro e w2 ⟨rfl, rfl⟩
            go_wp2_with fail
            go_meet
            exact ⟨by rw [hd], rfl⟩
          · have hd : decide (B3 f) = false := decide_eq_false (fun h => h4 h.2.2.2)
            refine (between_no _ _ _ _ h4).mono ?_
            rintro e w2 ⟨rfl, rfl⟩
            go_wp2_with fail
            go_meet
            exact ⟨by rw [hd], rfl⟩
        · have hd : decide (B3 f) = false := decide_eq_false (fun h => h3 h.2.2.1)
          refine (between_no _ _ _ _ h3).mono ?_
          rintro e w2 ⟨rfl, rfl⟩
          go_wp2_with fail
          go_meet
          exact ⟨by rw [hd], rfl⟩
      · have hd : decide (B3 f) = false := decide_eq_false (fun h => h1 h.2.1)
        refine (between_no _ _ _ _ h1).mono ?_
        rintro e w2 ⟨rfl, rfl⟩
        go_wp2_with fail
        go_meet
        exact ⟨by rw [hd], rfl⟩
    · have hd : decide (B3 f) = false := decide_eq_false (fun h => h0 h.1)
      refine (between_no _ _ _ _ h0).mono ?_
      rintro e w2 ⟨rfl, rfl⟩
      go_wp2_with fail
      go_meet
      exact ⟨by rw [hd], rfl⟩
  case rest =>
    obtain ⟨rfl, rfl⟩ := hcut
    clear c1 c3 c4
    have c2 : wc.cell? ⟨w.heap.size, 2, none⟩ = some (.int .i64 (f 2)) := (h1.out.2.cell 2).trans rfl
    go_upto_if 29 with (fail)
    go_cut [3] (fun v wc2 => v = .bool (decide (B5 f)) ∧ wc2 = wc)
    case first =>
      by_cases hb : B3 f
      · rw [decide_eq_true hb]
        by_cases hk : f 0 = 2
        · have t2 : (f 0 == 2) = true := by simp [hk]
          have HK := Lib.hid hk
          clear hk
          go_wp2_with fail
          by_cases h2 : 1 ≤ f 2 ∧ f 2 ≤ 1024
          · have hd : decide (B5 f) = true := decide_eq_true ⟨hb, fun _ => h2, fun h => absurd HK.out h⟩
            refine (between_yes _ _ _ _ h2).mono ?_
            rintro e w2 ⟨rfl, rfl⟩
            go_wp2_with fail
            go_meet
            case rel => exact ⟨by rw [hd], rfl⟩
          · have hd : decide (B5 f) = false := decide_eq_false (fun h => h2 (h.2.1 HK.out))
            refine (between_no _ _ _ _ h2).mono ?_
            rintro e w2 ⟨rfl, rfl⟩
            go_wp2_with fail
            go_meet
            case rel => exact ⟨by rw [hd], rfl⟩
        · have t2 : (f 0 == 2) = false := by simp [hk]
          by_cases h2 : f 2 = 0
          · have hd : decide (B5 f) = true := decide_eq_true ⟨hb, fun h => absurd h hk, fun _ => h2⟩
            rw [h2] at c2
            go_wp2_with fail
            go_meet
            case rel => exact ⟨by rw [hd], rfl⟩
          · have hd : decide (B5 f) = false := decide_eq_false (fun h => h2 (h.2.2 hk))
            have t3 : (f 2 == 0) = false := by simp [h2]
            go_wp2_with fail
            go_meet
            case rel => exact ⟨by rw [hd], rfl⟩
      · rw [decide_eq_false hb]
        have hd : decide (B5 f) = false := decide_eq_false (fun h => hb h.1)
        by_cases hk : f 0 = 2
        · have t2 : (f 0 == 2) = true := by simp [hk]
          go_wp2_with fail
          go_meet
          case rel => exact ⟨by rw [hd], rfl⟩
        · have t2 : (f 0 == 2) = false := by simp [hk]
          go_wp2_with fail
          go_meet
          case rel => exact ⟨by rw [hd], rfl⟩
    case rest =>
      obtain ⟨rfl, rfl⟩ := hcut
      clear c0 c2
      have hK := h1.out.2.alloc (.cells #[.int .i64 (f 15), .int .i64 (f 16)] 3)
      obtain ⟨g, cap, w3, hrun, HB3, HC3⟩ := ptr_append (ty := 101) (W := (wc.alloc (.cells #[.int .i64 (f 15), .int .i64 (f 16)] 3)).drew) hK (Blk.new wc _ _)
      clear hK
      have hbw : Below w.heap.size w w3 := ((h1.out.1.alloc h1.out.1.size _).drew).trans (HB3.out.mono (by have := h1.out.1.size; simp; omega))
      have HBW := Lib.hid hbw
      clear hbw HB3
      have c15 : wc.cell? ⟨w.heap.size, 15, none⟩ = some (.int .i64 (f 15)) := (h1.out.2.cell 15).trans rfl
      have c16 : wc.cell? ⟨w.heap.size, 16, none⟩ = some (.int .i64 (f 16)) := (h1.out.2.cell 16).trans rfl
      go_upto_region 7 with (fail)
      go_region_law (first | (refine step_append_run rfl (.tmp 43) (.tmp 48) 101 _ _ _ rfl rfl rfl hrun ?_))
      all_goals
        clear hrun c15 c16 he h1
        simp only [List.getElem_toArray, List.getElem_cons_succ, List.getElem_cons_zero, Act.put, List.setIfInBounds_toArray, List.set_cons_zero, List.set_cons_succ]
        go_wp2_with fail
        go_loop [3, 51] (fun v i => ∃ (k : Nat), i = .int .i64 k ∧ v = .bool (decide (PK f k)) ∧ k ≤ 12) (fun _ i => 12 - (intOf i).toNat)
        case atStart => exact ⟨0, rfl, congrArg Value.bool (by rw [decide_eq_decide]; exact (pk_zero f).symm), by omega⟩
        case round =>
          obtain ⟨k, rfl, rfl, hk⟩ := hrel
          by_cases hlt : k < 12
          · have hc := HC3.out k hlt
            by_cases hp : PK f k
            · rw [decide_eq_true hp]
              have HP := Lib.hid hp
              clear hp
              generalize hq : f (5 + k) = q at hc
              have HQ := Lib.hid hq
              clear hq
              go_wp2_with fail
              by_cases hb : 0 ≤ q ∧ q ≤ 2047
              · have hd : decide (PK f (k + 1)) = true := decide_eq_true (pk_yes HP.out (by rw [HQ.out]; exact hb))
                have HD := Lib.hid hd
                clear hd
                refine (between_yes _ _ _ _ hb).mono ?_
                rintro e w2 ⟨rfl, rfl⟩
                go_wp2_with fail
                exact ⟨⟨k + 1, by go_num, by rw [HD.out], by omega⟩, by simp [intOf]; omega⟩
              · have hd : decide (PK f (k + 1)) = false := decide_eq_false (pk_no (by rw [HQ.out]; exact hb))
                have HD := Lib.hid hd
                clear hd
                refine (between_no _ _ _ _ hb).mono ?_
                rintro e w2 ⟨rfl, rfl⟩
                go_wp2_with fail
                exact ⟨⟨k + 1, by go_num, by rw [HD.out], by omega⟩, by simp [intOf]; omega⟩
            · rw [decide_eq_false hp]
              have hd : decide (PK f (k + 1)) = false := decide_eq_false (pk_down hp)
              have HD := Lib.hid hd
              clear hd hp
              go_wp2_with fail
              exact ⟨⟨k + 1, by go_num, by rw [HD.out], by omega⟩, by simp [intOf]; omega⟩
          · obtain rfl : k = 12 := by omega
            go_wp2_with fail
            go_ret
            exact ⟨congrArg (fun b => Ending.returned (.bool b)) (by rw [decide_eq_decide]; exact pk_all f), HBW.out⟩
end Go.Proofs.Ytefmihbjboacdaa.NodeFits
