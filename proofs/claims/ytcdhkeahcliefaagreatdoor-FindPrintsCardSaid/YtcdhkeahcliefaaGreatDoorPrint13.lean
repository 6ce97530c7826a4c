/- The compiler's pieces: one, and all of them. The compiler: all pieces of a pattern, or what it throws. The document's small parts: unit; a piece's cells. -/
import Derived.Test.YtcdhkeahcliefaaGreatDoorPrint12
import Derived.Great.BuildSlice
import Derived.Great.Walk
import Derived.Laws.AppendOwn
import Derived.OwnWalk
/- The compiler's pieces: one, and all of them. -/
namespace Go.Proofs.YtcdhkeahcliefaaGreatDoor.PatPiece
open Go.ChangeShapes Go.WideShapes Go.ChangeAt Go.RowKit
open Go.Proofs.YtcdhkeahcliefaaGreatDoor.Kit Go.Proofs.YtcdhkeahcliefaaGreatDoor.Pat Go.Proofs.YtcdhkeahcliefaaGreatDoor.PatA Go.Proofs.YtcdhkeahcliefaaGreatDoor.PatSet
set_option linter.unusedVariables false

def zrow : Array Value := rowA 0 fun _ => false
theorem gen_body {P : Program} {fn : Func} {R : Ending → World → Prop} {x : Exit} {a : Act} {w : World} (S : World → Prop) (h : S w) (k : ∀ w', S w' → bodyPost P fn R x a w') : bodyPost P fn R x a w := k w h

theorem R_lt {s : ByteArray} {i lo hi j : Nat} (h : R s i = some (lo, hi, j)) : i < j := by
  unfold R at h
  cases hu : U s i with
  | none => rw [hu] at h; cases h
  | some q =>
    obtain ⟨x, k⟩ := q
    have h1 := U_lt hu
    rw [hu] at h
    simp only at h
    split at h
    · cases hu2 : U s (k + 1) with
      | none => rw [hu2] at h; cases h
      | some q2 =>
        obtain ⟨y, k2⟩ := q2
        have h2 := U_lt hu2
        rw [hu2] at h
        simp only at h
        split at h
        · cases h
        · cases h; omega
    · cases h; omega
theorem run_le {s : ByteArray} {i : Nat} {M : Nat → Bool} {k : Nat} {r : Option ((Nat → Bool) × Nat)} (h : SetRun s i M k r) : ∀ M' j, r = some (M', j) → i ≤ j := by
  induction h with
  | stop h => intro M' j e; cases e; exact Nat.le_refl _
  | bad => intro M' j e; cases e
  | step h hr _ ih => intro M' j e; have := ih M' j e; have := R_lt hr; omega
theorem rowA_one (k : Int) (M : Nat → Bool) : (rowA k M).all (·.oneCell') = true := by
  rw [Array.all_eq_true_iff_forall_mem]
  intro v hv
  unfold rowA bools at hv
  simp at hv
  rcases hv with rfl | ⟨c, _, rfl⟩ <;> rfl
def kindA : Pc → Int
  | .star => 1
  | .stars => 2
  | _ => 0
def memA : Pc → Nat → Bool
  | .byte b => fun c => c == b
  | .any1 => fun c => c != 47
  | .set M => M
  | _ => fun _ => false
def rowOf (p : Pc) : Array Value := rowA (kindA p) (memA p)
/-- what a piece comes to -/
def PiecePost (C : Nat) (s : ByteArray) (i : Nat) (w : World) (e : Ending) (w' : World) : Prop :=
  (∃ p j, Piece s i (some (p, j)) ∧ i < j ∧ j ≤ s.size ∧ e = .returned (.agg (rowOf p)) ∧ Hid (Chg (fun k => k = C) w w' ∧ Cp w' C s j)) ∨
  (Piece s i none ∧ Threw 190 e ∧ Hid (Chg (fun k => k = C) w w'))
/-- what is known in the middle of a piece -/
def Half (C B Q : Nat) (s : ByteArray) (w wr : World) (i : Nat) (k : Int) (M : Nat → Bool) : Prop := Chg (fun k => k = C) w wr ∧ Cp wr C s i ∧ Blk wr B zrow 161 ∧ Blk wr Q (rowA k M) 161
def Ranks (C B Q : Nat) (w : World) : Prop := C < w.heap.size ∧ w.heap.size ≤ B ∧ w.heap.size ≤ Q ∧ B ≠ Q
theorem Chg.above {S : Nat → Prop} {Q : Nat} {w a b : World} (h : Chg S w a) (ho : Only Q a b) (hq : w.heap.size ≤ Q) : Chg S w b :=
  ⟨ho.os.trans h.os, ho.tape.trans h.tape, ho.output.trans h.output, by rw [ho.size]; exact h.size, fun k hk hn => (ho.block k (by omega)).trans (h.block k hk hn)⟩
theorem Half.drewN {C B Q : Nat} {s : ByteArray} {w wr : World} {i : Nat} {k : Int} {M : Nat → Bool} (h : Half C B Q s w wr i k M) (m : Nat) : Half C B Q s w (wr.drewN m) i k M :=
  ⟨h.1.trans (Chg.still ((Still.refl _).drewN m)), h.2⟩
theorem Half.step {C B Q : Nat} {s : ByteArray} {w wr w' : World} {i j : Nat} {k : Int} {M : Nat → Bool} (h : Half C B Q s w wr i k M) (hr : Ranks C B Q w) (ho : Only C wr w') (hc : Cp w' C s j) : Half C B Q s w w' j k M :=
  ⟨h.1.trans (Chg.only ho rfl), hc, ho.blk h.2.2.1 (by have := hr.1; have := hr.2.1; omega), ho.blk h.2.2.2 (by have := hr.1; have := hr.2.2.1; omega)⟩
theorem Half.put {C B Q : Nat} {s : ByteArray} {w wr : World} {i : Nat} {k : Int} {M : Nat → Bool} (h : Half C B Q s w wr i k M) (hr : Ranks C B Q w) (j : Nat) : Half C B Q s w (wr.setCell ⟨C, 1, none⟩ (.int .i64 (j : Int))) j k M :=
  h.step hr ((Only.refl C wr).setCell ⟨C, 1, none⟩ rfl _) (h.2.1.put 1 _)
theorem Half.fill {C B Q : Nat} {s : ByteArray} {w wr w' : World} {i : Nat} {k k' : Int} {M M' : Nat → Bool} (h : Half C B Q s w wr i k M) (hr : Ranks C B Q w) (ho : Only Q wr w') (hk : Blk w' Q (rowA k' M') 161) : Half C B Q s w w' i k' M' :=
  ⟨Chg.above h.1 ho hr.2.2.1, ho.blk h.2.1 (by have := hr.1; have := hr.2.2.1; omega), ho.blk h.2.2.1 hr.2.2.2, hk⟩
theorem Half.setKind {C B Q : Nat} {s : ByteArray} {w wr : World} {i : Nat} {k : Int} {M : Nat → Bool} (h : Half C B Q s w wr i k M) (hr : Ranks C B Q w) (k' : Int) : Half C B Q s w (wr.setCell ⟨Q, 0, none⟩ (.int .i64 k')) i k' M := by
  refine h.fill hr ((Only.refl Q wr).setCell ⟨Q, 0, none⟩ rfl _) ?_
  have := h.2.2.2.put 0 (.int .i64 k')
  rw [rowA_setKind] at this
  exact this
theorem Half.member {C B Q : Nat} {s : ByteArray} {w wr : World} {i : Nat} {k : Int} {M : Nat → Bool} (h : Half C B Q s w wr i k M) (hr : Ranks C B Q w) (c : Nat) (v : Bool) : Half C B Q s w (wr.setCell ⟨Q, 1 + c, none⟩ (.bool v)) i k (upd M c v) := by
  refine h.fill hr ((Only.refl Q wr).setCell ⟨Q, 1 + c, none⟩ rfl _) ?_
  have := h.2.2.2.put (1 + c) (.bool v)
  rw [rowA_put] at this
  exact this

set_option maxRecDepth 100000 in
set_option maxHeartbeats 3200000 in
theorem piece_any (C : Nat) (s : ByteArray) (i : Nat) (w : World) (hi : i < s.size) (hs9 : s.size ≤ 1000) (H : Hid (Cp w C s i)) :
    Calls Tryz.prog 90 #[.pointer (some ⟨C, 0, none⟩)] w (PiecePost C s i w) := by
  have hz : ∀ w, (zeroValue 161).run Tryz.prog w = .ok (.agg zrow) w := fun w => by kernel_rfl
  go_enter Tryz.func90, Tryz.ntmps90
  go_upto_region 1 with (fail)
  obtain ⟨B, hB⟩ : ∃ B, w.heap.size = B := ⟨_, rfl⟩
  rw [hB]
  refine gen_world (fun w' => Hid (Below B w w' ∧ Cp w' C s i ∧ Blk w' B zrow 161 ∧ w'.heap.size = B + 1)) ?_ ?_
  · subst hB
    exact ⟨(Below.refl _ _).alloc (Nat.le_refl _) _, H.out.alloc _, Blk.new _ _ _, by simp⟩
  rintro w1 h1
  go_upto_region 2 with (first | (refine wpList_buildTo rfl 161 _ rfl (some 5) rfl zrow (by kernel_rfl) ?_) | (refine wpList_store_row rfl 161 _ _ rfl w1.heap.size zrow rfl rfl 161 zrow (Blk.new _ _ _) (by kernel_rfl) rfl (by kernel_rfl) ?_))
  obtain ⟨Q, hQ⟩ : ∃ B, w1.heap.size = B := ⟨_, rfl⟩
  rw [hQ]
  refine gen_world (fun w' => Hid (Half C B Q s w w' i 0 fun _ => false)) ?_ ?_
  · have hlt := h1.out.2.2.1.lt
    subst hB
    have hsr := setRow_heap (w1.alloc (.cells zrow 161)) w1.heap.size zrow zrow 161 (0, 0) (Blk.new w1 zrow 161)
    have hon : Only Q (w1.alloc (.cells zrow 161)) ((w1.alloc (.cells zrow 161)).setRow Q zrow) := ⟨rfl, rfl, rfl, by simp [World.setRow], fun k hk => setRow_other _ Q k _ (by omega)⟩
    have hcl := h1.out.2.1.lt
    have hq : Q = w.heap.size + 1 := by rw [← hQ]; exact h1.out.2.2.2
    refine ⟨Chg.above ((Chg.ofBelow h1.out.1).trans (Chg.ofBelow ((Below.refl _ _).alloc (Nat.le_refl _) _))) hon (by omega), hon.blk (h1.out.2.1.alloc _) (by omega), hon.blk (h1.out.2.2.1.alloc _) (by omega), ?_⟩
    rw [hQ] at hsr
    exact hsr
  have HR : Hid (Ranks C B Q w) := by
    have hcl := H.out.lt
    have h2 := h1.out.2.2.2
    exact ⟨hcl, by omega, by omega, by omega⟩
  clear hQ hB h1 w1
  rintro w1 h1
  have HLT := Lib.hid hi
  have HS9 := Lib.hid hs9
  clear hi hs9 H hz
  go_wp2_with fail
  refine (next_yes C s i _ HLT.out HS9.out h1.out.2.1).mono ?_
  rintro e w2 ⟨rfl, hk⟩
  have h2 : Hid (Half C B Q s w w2 (i + 1) 0 fun _ => false) := h1.out.step HR.out hk.out.1 hk.out.2
  clear hk h1 w1
  go_upto_block 0 with (fail)
  obtain ⟨y, hy⟩ : ∃ y, gb s i = y := ⟨_, rfl⟩
  rw [hy]
  have HY := Lib.hid hy
  have hy9 : (y : Int) < 256 := by have := gb_lt s i; omega
  clear hy
  go_cut [] (fun wc => ∃ p j, Piece s i (some (p, j)) ∧ i < j ∧ j ≤ s.size ∧ Hid (Half C B Q s w wc j (kindA p) (memA p)))
  case first =>
    by_cases q1 : y = 42
    · have e1 : ((y : Int) == 42) = true := beq_iff_eq.2 (by omega)
      have HY1 : Hid (gb s i = 42) := HY.out.trans q1
      clear q1 HY
      have c0 : w2.cell? ⟨Q, 0, none⟩ = some (.int .i64 0) := (h2.out.2.2.2.cell 0).trans rfl
      have f0 := h2.out.2.2.2.frozen 0
      go_upto_region 7 with (fail)
      refine gen_world (fun w' => Hid (Half C B Q s w w' (i + 1) 1 fun _ => false)) (h2.out.setKind HR.out 1) ?_
      clear c0 f0 h2 w2
      rintro w2 h2
      go_loopg [] (s.size - (i + 1)) (fun g wr => ∃ (j : Nat), g = s.size - j ∧ i + 1 ≤ j ∧ j ≤ s.size ∧ Hid (Half C B Q s w wr j (if i + 1 < j then 2 else 1) fun _ => false) ∧ Hid (∀ r, StarRun s j r → StarRun s (i + 1) r))
      case atStart => exact ⟨i + 1, rfl, Nat.le_refl _, HLT.out, by rw [if_neg (Nat.lt_irrefl _)]; exact h2, fun r h => h⟩
      case round =>
        clear h2
        obtain ⟨j, rfl, hj1, hj2, h2, HS⟩ := hrel
        have j9 : (j : Int) ≤ 1000 := by have := HS9.out; omega
        have HJ := Lib.hid (And.intro hj1 hj2)
        clear hj1 hj2
        obtain ⟨d, hd⟩ : ∃ d, decide (j < s.size ∧ gb s j = 42) = d := ⟨_, rfl⟩
        have HD := Lib.hid hd
        clear hd
        go_upto_region 7 with (fail)
        go_cut [28] (fun v wc => v = .bool d ∧ ∃ m, wc = wr.drewN m)
        case first =>
          have c0 : wr.cell? ⟨C, 0, none⟩ = some (.string s) := (h2.out.2.1.cell 0).trans rfl
          have c1 : wr.cell? ⟨C, 1, none⟩ = some (.int .i64 (j : Int)) := (h2.out.2.1.cell 1).trans rfl
          by_cases hjs : j < s.size
          · have hx := index_gb s j hjs
            have HL := Lib.hid (decide_eq_true hjs)
            have HQ : Hid (((gb s j : Int) == 42) = d) := by
              show _ = _
              rw [← HD.out]
              by_cases h : gb s j = 42
              · simp [h, hjs]
              · simp [h, beq_eq_false_iff_ne.2 (show (gb s j : Int) ≠ 42 by omega)]
            generalize gb s j = z at hx HQ
            clear hjs
            go_wp2_with fail
            go_quiet (first | (go_at_call 89; refine Calls.quiet_of (more_at C s j true _ HL.out h2.out.2.1)))
            go_wp2_with fail
            go_meet
            case rel => exact ⟨by rw [HQ.out], _, rfl⟩
          · have HL := Lib.hid (decide_eq_false hjs)
            have HQ : Hid (false = d) := by
              show _ = _
              rw [← HD.out]
              simp [hjs]
            clear hjs
            go_wp2_with fail
            go_quiet (first | (go_at_call 89; refine Calls.quiet_of (more_at C s j false _ HL.out h2.out.2.1)))
            go_wp2_with fail
            go_meet
            case rel => exact ⟨by rw [HQ.out], _, rfl⟩
        case rest =>
          obtain ⟨rfl, m, rfl⟩ := hcut
          have h3 := Lib.hid (h2.out.drewN m)
          clear h2
          generalize wr.drewN m = w3 at *
          cases d
          · have HND := Lib.hid (of_decide_eq_false HD.out)
            clear HD
            go_wp2_with fail
            go_meet
            case rel =>
              have hs := HS.out _ (.stop HND.out)
              by_cases hj : i + 1 < j
              · have h := h3.out
                rw [if_pos hj] at h
                exact ⟨.stars, j, .stars HY1.out hs hj, by omega, HJ.out.2, h⟩
              · have h := h3.out
                rw [if_neg hj] at h
                obtain rfl : j = i + 1 := by have := HJ.out.1; omega
                exact ⟨.star, i + 1, .star HY1.out hs, by omega, HJ.out.2, h⟩
          · have HDD := Lib.hid (of_decide_eq_true HD.out)
            clear HD
            obtain ⟨kd, hkd⟩ : ∃ k : Int, (if i + 1 < j then 2 else 1) = k := ⟨_, rfl⟩
            rw [hkd] at h3
            clear hkd
            have c0 : w3.cell? ⟨Q, 0, none⟩ = some (.int .i64 kd) := (h3.out.2.2.2.cell 0).trans rfl
            have f0 := h3.out.2.2.2.frozen 0
            go_upto_region 9 with (fail)
            refine gen_world (fun w' => Hid (Half C B Q s w w' j 2 fun _ => false)) (h3.out.setKind HR.out 2) ?_
            clear c0 f0 h3 w3
            rintro w3 h3
            have c1 : w3.cell? ⟨C, 1, none⟩ = some (.int .i64 (j : Int)) := (h3.out.2.1.cell 1).trans rfl
            have f1 := h3.out.2.1.frozen 1
            go_wp2_with fail
            go_roundg (s.size - (j + 1))
            case measure => have := HDD.out.1; omega
            case rel =>
              refine ⟨j + 1, rfl, by have := HJ.out.1; omega, HDD.out.1, ?_, fun r h => HS.out r (.step HDD.out h)⟩
              rw [if_pos (by have := HJ.out.1; omega)]
              exact h3.out.put HR.out (j + 1)
    have e1 : ((y : Int) == 42) = false := beq_eq_false_iff_ne.2 (by omega)
    by_cases q2 : y = 63
    · have e2 : ((y : Int) == 63) = true := beq_iff_eq.2 (by omega)
      have HY2 : Hid (gb s i = 63) := HY.out.trans q2
      clear q1 q2 HY
      go_wp2_with fail
      refine (fill_any Q 0 _ 0 255 _ (by decide) (by decide) h2.out.2.2.2).mono ?_
      rintro e w3 ⟨rfl, hk⟩
      have h3 := Lib.hid (h2.out.fill HR.out hk.out.1 hk.out.2)
      clear hk h2
      have hc : w3.cell? ⟨Q, 1 + 47, none⟩ = some (.bool true) := (h3.out.2.2.2.cell _).trans (rowA_get 0 _ 47 (by decide))
      have hf := h3.out.2.2.2.frozen (1 + 47)
      go_wp2_with fail
      go_meet
      case rel =>
        refine ⟨.any1, i + 1, .any1 HY2.out, by omega, HLT.out, ?_⟩
        have h := h3.out.member HR.out 47 false
        refine ⟨h.1, h.2.1, h.2.2.1, ?_⟩
        rw [show rowA (kindA .any1) (memA .any1) = rowA 0 (upd (add (fun _ => false) 0 255) 47 false) from rowA_congr fun c hc => ?_]
        · exact h.2.2.2
        · show (c != 47) = upd (add (fun _ => false) 0 255) 47 false c
          unfold upd add
          by_cases h : c = 47
          · subst h; rfl
          · have h255 : c ≤ 255 := by omega
            rw [if_neg h]
            simp [h, h255]
    have e2 : ((y : Int) == 63) = false := beq_eq_false_iff_ne.2 (by omega)
    by_cases q3 : y = 91
    · have e3 : ((y : Int) == 91) = true := beq_iff_eq.2 (by omega)
      have HY3 : Hid (gb s i = 91) := HY.out.trans q3
      clear q1 q2 q3 HY
      go_wp2_with fail
      have hmid : Mid C Q s w2 w2 (i + 1) fun _ => false := ⟨Chg.refl _ _, h2.out.2.1, h2.out.2.2.2⟩
      refine (set_any C Q s (i + 1) w2 (by have := HR.out.1; have := HR.out.2.2.1; omega) (by have := HR.out.1; have := HR.out.2.2.1; omega) HLT.out HS9.out hmid).mono ?_
      clear hmid
      have HB2 : Hid (∀ w3, Chg (fun k => k = C ∨ k = Q) w2 w3 → Chg (fun k => k = C) w w3 ∧ Blk w3 B zrow 161) := fun w3 hc => by
        have hr := HR.out
        refine ⟨⟨hc.os.trans h2.out.1.os, hc.tape.trans h2.out.1.tape, hc.output.trans h2.out.1.output, Nat.le_trans h2.out.1.size hc.size, fun k hk hn => ?_⟩, hc.blk h2.out.2.2.1 ?_⟩
        · refine (hc.block k (Nat.lt_of_lt_of_le hk h2.out.1.size) ?_).trans (h2.out.1.block k hk hn)
          rintro (h | h)
          · exact hn h
          · have := hr.2.2.1; omega
        · rintro (h | h)
          · have := hr.1; have := hr.2.1; omega
          · exact hr.2.2.2 h
      clear h2
      rintro e w3 (⟨M, j, hrun, hj, rfl, hk⟩ | ⟨hrun, he, hk⟩)
      · have HRUN := Lib.hid hrun
        have HJ := Lib.hid hj
        clear hrun hj
        go_wp2_with fail
        go_meet
        case rel =>
          have hi : i + 1 ≤ j := by
            have h1 := run_le HRUN.out M j rfl
            have h2 : i + 1 ≤ past s (i + 1) := by unfold past; split <;> omega
            omega
          refine ⟨_, j + 1, .set HY3.out HRUN.out, by omega, HJ.out, ?_⟩
          have h := HB2.out _ hk.out.1
          exact ⟨h.1, hk.out.2.1, h.2, hk.out.2.2⟩
      · unfold Threw at he
        subst he
        exact ⟨rfl, .inr ⟨.noset HY3.out hrun, rfl, (HB2.out _ hk.out).1⟩⟩
    have e3 : ((y : Int) == 91) = false := beq_eq_false_iff_ne.2 (by omega)
    by_cases q4 : y = 92
    · have e4 : ((y : Int) == 92) = true := beq_iff_eq.2 (by omega)
      have HY4 : Hid (gb s i = 92) := HY.out.trans q4
      clear q1 q2 q3 q4 HY
      go_wp2_with fail
      by_cases hl : i + 1 < s.size
      · refine (next_yes C s (i + 1) _ hl HS9.out h2.out.2.1).mono ?_
        have HL := Lib.hid hl
        clear hl
        obtain ⟨z, hz⟩ : ∃ z, gb s (i + 1) = z := ⟨_, rfl⟩
        rw [hz]
        have hz9 : z < 256 := by rw [← hz]; exact gb_lt _ _
        have HZ := Lib.hid hz
        clear hz
        rintro e w3 ⟨rfl, hk⟩
        have h3 := Lib.hid (h2.out.step HR.out hk.out.1 hk.out.2)
        clear hk h2 w2
        have hc : w3.cell? ⟨Q, 1 + z, none⟩ = some (.bool false) := (h3.out.2.2.2.cell _).trans (rowA_get 0 _ z hz9)
        have hf := h3.out.2.2.2.frozen (1 + z)
        have hz8 : (z : Int) < 256 := by omega
        go_wp2_with fail
        go_meet
        case rel =>
          refine ⟨.byte z, i + 2, by rw [← HZ.out]; exact .esc HY4.out HL.out, by omega, HL.out, ?_⟩
          have h := h3.out.member HR.out z true
          refine ⟨h.1, h.2.1, h.2.2.1, ?_⟩
          rw [show rowA (kindA (.byte z)) (memA (.byte z)) = rowA 0 (upd (fun _ => false) z true) from rowA_congr fun c hc => ?_]
          · exact h.2.2.2
          · show (c == z) = upd (fun _ => false) z true c
            unfold upd
            by_cases h : c = z
            · subst h; simp
            · simp [h]
      · have HL := Lib.hid (Nat.le_of_not_lt hl)
        refine (next_no C s (i + 1) _ HL.out h2.out.2.1).mono ?_
        rintro e w3 ⟨he, hs⟩
        unfold Threw at he
        subst he
        exact ⟨rfl, .inr ⟨.noesc HY4.out HL.out, rfl, h2.out.1.trans (Chg.still hs)⟩⟩
    · have e4 : ((y : Int) == 92) = false := beq_eq_false_iff_ne.2 (by omega)
      have HQ : Hid (y ≠ 42 ∧ y ≠ 63 ∧ y ≠ 91 ∧ y ≠ 92) := ⟨q1, q2, q3, q4⟩
      clear q1 q2 q3 q4
      have hc : w2.cell? ⟨Q, 1 + y, none⟩ = some (.bool false) := (h2.out.2.2.2.cell _).trans (rowA_get 0 _ y (by omega))
      have hf := h2.out.2.2.2.frozen (1 + y)
      go_wp2_with fail
      go_meet
      case rel =>
        refine ⟨.byte y, i + 1, ?_, by omega, HLT.out, ?_⟩
        · have hq := HQ.out
          have hy := HY.out
          rw [← hy] at hq ⊢
          exact .byte hq.1 hq.2.1 hq.2.2.1 hq.2.2.2
        have h := h2.out.member HR.out y true
        refine ⟨h.1, h.2.1, h.2.2.1, ?_⟩
        rw [show rowA (kindA (.byte y)) (memA (.byte y)) = rowA 0 (upd (fun _ => false) y true) from rowA_congr fun c hc => ?_]
        · exact h.2.2.2
        · show (c == y) = upd (fun _ => false) y true c
          unfold upd
          by_cases h : c = y
          · subst h; simp
          · simp [h]
  case rest =>
    obtain ⟨p, j, hp, hij, hj, h3⟩ := hcut
    have HP : Hid (Piece s i (some (p, j)) ∧ i < j ∧ j ≤ s.size) := ⟨hp, hij, hj⟩
    clear hp hij hj h2 HY
    obtain ⟨cs, hcs⟩ : ∃ cs, rowA (kindA p) (memA p) = cs := ⟨_, rfl⟩
    have hkQ : Blk wc Q cs 161 := by rw [← hcs]; exact h3.out.2.2.2
    have hkB := h3.out.2.2.1
    have hsz : cs.size = 257 := by rw [← hcs]; exact rowA_size _ _
    have hone : cs.all (·.oneCell') = true := by rw [← hcs]; exact rowA_one _ _
    have hold : zrow.size = cs.size := by rw [hsz]; exact rowA_size _ _
    have hi66 : (Tryz.prog.info? 161).map (·.size) = some cs.size := by rw [hsz]; kernel_rfl
    go_wp2_with (first | (refine wpList_load_row rfl 161 _ rfl Q rfl 161 cs (0, 0) _ hkQ Tryz.underlying161 rfl hi66 ?_) | (refine wpList_store_row rfl 161 _ _ rfl B cs rfl rfl 161 zrow hkB hi66 hold hone ?_))
    refine gen_body (fun w9 => Hid (Chg (fun k => k = C) w w9 ∧ Cp w9 C s j ∧ Blk w9 B cs 161)) ?_ ?_
    · have hr := HR.out
      have hon : Only B wc (wc.setRow B cs) := ⟨rfl, rfl, rfl, by simp [World.setRow], fun k hk => setRow_other _ B k _ (by omega)⟩
      exact ⟨Chg.above h3.out.1 hon hr.2.1, hon.blk h3.out.2.1 (by have := hr.1; have := hr.2.1; omega), setRow_heap _ _ _ _ _ _ hkB⟩
    rintro w9 h9
    refine bodyPost_ret (v := .agg cs) (results_cell_row (P := Tryz.prog) (fn := Tryz.f90) (p := 2) (ty := 161) Tryz.results90 _ w9 B 161 cs (0, 0) _ rfl h9.out.2.2 Tryz.underlying161 rfl hi66) rfl ?_
    refine .inl ⟨p, j, HP.out.1, HP.out.2.1, HP.out.2.2, ?_, h9.out.1, h9.out.2.1⟩
    rw [← hcs]
    rfl
end Go.Proofs.YtcdhkeahcliefaaGreatDoor.PatPiece
/- The compiler: all pieces of a pattern, or what it throws. -/
namespace Go.Proofs.YtcdhkeahcliefaaGreatDoor.PatCompile
open Go.ChangeShapes Go.WideShapes Go.ChangeAt Go.RowKit
open Go.Proofs.YtcdhkeahcliefaaGreatDoor.Kit Go.Proofs.YtcdhkeahcliefaaGreatDoor.Pat Go.Proofs.YtcdhkeahcliefaaGreatDoor.PatA Go.Proofs.YtcdhkeahcliefaaGreatDoor.PatSet Go.Proofs.YtcdhkeahcliefaaGreatDoor.PatPiece
set_option linter.unusedVariables false

set_option maxRecDepth 100000 in
theorem info66 : (Tryz.prog.info? 161).map (fun i => (i.zero, i.size, i.bytes)) = some (some (.agg zrow), 257, 264) := by kernel_rfl
/-- a slice literal of one struct -/
theorem build_one {P : Program} {t e : TypeId} {i : TypeInfo} {z : Value} {n : Nat} (hu : P.underlying t = some (.slice e)) (hi : P.info? e = some i) (hz : i.zero = some z) (hs : i.size = n) (h0 : 0 < n) (hn : n ≤ 1000)
    (cs : Array Value) (hcs : cs.size = n) (w : World) : (Instr.buildSlice t 1 #[(0, .agg cs)]).run P w = .ok (.slice (some ⟨w.heap.size, 0, none⟩) 1 1) (w.alloc (.cells cs e)) := by
  subst hs
  refine run_buildSlice w t e 1 _ cs i z hu hi hz (by omega) (by omega) ?_
  have h   := Great.fill_whole (s := i.size) h0 [.agg cs] ((Array.range (1 * i.size)).map (z.cells[· % z.cells.size]!)) (by simpa [Value.cells] using hcs) (by simp)
  simpa [Value.cells] using h
theorem wpList_build_one {P : Program} {ops : Array Oper} {rest : List Oper} {o : Oper} {a : Act} {w : World} {Q : Exit → Act → World → Prop} (hg : o.guard = none) (t e : TypeId) (x : Operand) (ho : o.op = .buildSlice t 1 #[(0, x)])
    (i : TypeInfo) (z : Value) (n : Nat) (hu : P.underlying t = some (.slice e)) (hi : P.info? e = some i) (hz : i.zero = some z) (hs : i.size = n) (h0 : 0 < n) (hn : n ≤ 1000)
    (cs : Array Value) (hx : a.eval x = .agg cs) (hcs : cs.size = n) (d : Option Tmp) (hd : o.dst = d)
    (h : wpList P ops Q rest (a.put d (.slice (some ⟨w.heap.size, 0, none⟩) 1 1)) (w.alloc (.cells cs e))) : wpList P ops Q (o :: rest) a w := by
  subst hs hd
  refine wpList_buildSlice hg t e 1 _ ho cs i z hu hi hz (by omega) (by omega) ?_ h
  have h2 := Great.fill_whole (s := i.size) h0 [.agg cs] ((Array.range (1 * i.size)).map (z.cells[· % z.cells.size]!)) (by simpa [Value.cells] using hcs) (by simp)
  simpa [Value.cells, hx] using h2
theorem add_block (b i : Nat) : (⟨b, 0, none⟩ : Addr).add i = ⟨b, i, none⟩ := by
  unfold Addr.add
  by_cases h : i = 0
  · subst h; simp
  · simp [h]
/-- the pieces' cells, side by side -/
def cellsA (l : List Pc) : List Value := l.flatMap fun p => (rowOf p).toList
theorem cellsA_length (l : List Pc) : (cellsA l).length = l.length * 257 := by
  induction l with
  | nil => rfl
  | cons p l ih =>
    show ((rowOf p).toList ++ cellsA l).length = _
    rw [List.length_append, ih, Array.length_toList, List.length_cons, show (rowOf p).size = 257 from rowA_size _ _]
    omega
theorem cellsA_snoc (l : List Pc) (p : Pc) : cellsA (l ++ [p]) = cellsA l ++ (rowOf p).toList := by
  unfold cellsA
  rw [List.flatMap_append]
  simp
theorem rowOf_one (p : Pc) : ∀ u ∈ (rowOf p).toList, u.oneCell' = true := by
  intro u hu
  have := rowA_one (kindA p) (memA p)
  rw [Array.all_eq_true_iff_forall_mem] at this
  exact this u (Array.mem_toList_iff.1 hu)
theorem owns_apart {w : World} {base size n : Nat} {e : TypeId} {v : Value} {xs : List Value} (h : w.ownsRow base e size v n xs) : ∀ k, k < base → some k ≠ v.ownBlock := by
  intro k hk
  rcases h.2 with ⟨rfl, _⟩ | ⟨g, cap, cur, rfl, hb, _⟩
  · intro e; cases e
  · intro e
    have : k = g := by cases e; rfl
    omega
/-- what the compiler comes to -/
def CompPost (s : ByteArray) (w : World) (e : Ending) (w' : World) : Prop :=
  (∃ l v, s.size ≤ 255 ∧ Run s 0 [] (some l) ∧ l.length ≤ s.size ∧ e = .returned v ∧ Hid (Below w.heap.size w w') ∧ Hid (w'.ownsRow w.heap.size 161 257 v l.length (cellsA l))) ∨
  (s.size ≤ 255 ∧ Run s 0 [] none ∧ Threw 190 e ∧ Hid (Below w.heap.size w w')) ∨ (255 < s.size ∧ Threw 7 e ∧ Hid (Below w.heap.size w w'))
theorem below_chg {w a b : World} {C : Nat} (h : Below w.heap.size w a) (hc : Chg (fun k => k = C) a b) (hC : w.heap.size ≤ C) : Below w.heap.size w b :=
  ⟨hc.os.trans h.os, hc.tape.trans h.tape, hc.output.trans h.output, Nat.le_trans h.size hc.size, fun k hk => (hc.block k (Nat.lt_of_lt_of_le hk h.size) (by omega)).trans (h.block k hk)⟩
/-- a row of one's own stays where other blocks are written -/
theorem owns_chg {w w' : World} {S : Nat → Prop} {base size n : Nat} {e : TypeId} {v : Value} {xs : List Value} (h : w.ownsRow base e size v n xs) (hc : Chg S w w') (hS : ∀ k, base ≤ k → ¬ S k) : w'.ownsRow base e size v n xs := by
  refine ⟨h.1, ?_⟩
  rcases h.2 with h | ⟨g, cap, cur, hv, hb, hg, h1, h2, h3, h4⟩
  · exact .inl h
  · exact .inr ⟨g, cap, cur, hv, hb, (hc.block g ((Array.getElem?_eq_some_iff.1 hg).1) (hS g hb)).trans hg, h1, h2, h3, h4⟩

set_option maxRecDepth 100000 in
set_option maxHeartbeats 3200000 in
theorem compile_any (s : ByteArray) (w : World) : Calls Tryz.prog 83 #[.string s] w (CompPost s w) := by
  obtain ⟨i66, hi, hz0, hz1, hz2⟩ := info_parts info66
  obtain ⟨z66, hzz⟩ : ∃ z, z = Value.agg zrow := ⟨_, rfl⟩
  rw [← hzz] at hz0
  have hzc : z66.cells.size = 257 := by rw [hzz]; exact rowA_size _ _
  have HI := Lib.hid (And.intro hi (And.intro hz0 (And.intro hz1 (And.intro hz2 hzc))))
  clear hzz hzc
  by_cases hlong : 255 < s.size
  · have HL := Lib.hid hlong
    have hpn := panics 7
    clear hi hz0 hz1 hz2
    go_enter Tryz.func83, Tryz.ntmps83
    go_wp2_with fail
    exact ⟨rfl, .inr (.inr ⟨HL.out, rfl, Below.refl _ _⟩)⟩
  have hlen : s.size ≤ 255 := by omega
  clear hlong
  clear hi hz0 hz1 hz2
  go_enter Tryz.func83, Tryz.ntmps83
  go_upto_region 4 with (fail)
  obtain ⟨C, hC⟩ : ∃ C, w.heap.size = C := ⟨_, rfl⟩
  rw [hC]
  refine gen_world (fun w' => Hid (Below C w w' ∧ Cp w' C s 0)) ?_ ?_
  · subst hC
    exact ⟨(Below.refl _ _).alloc (Nat.le_refl _) _, Blk.new _ _ _⟩
  rintro w1 h1
  have HC := Lib.hid hC
  have HLEN := Lib.hid hlen
  clear hC hlen
  go_wp2_with fail
  go_loopg [4] s.size (fun g v wr => ∃ (j : Nat) (l : List Pc), g = s.size - j ∧ j ≤ s.size ∧ l.length ≤ j ∧ Hid (Below C w wr ∧ Cp wr C s j) ∧ Hid (wr.ownsRow (C + 1) 161 257 v l.length (cellsA l)) ∧ Hid (∀ r, Run s j l r → Run s 0 [] r))
  case atStart => exact ⟨0, [], rfl, Nat.zero_le _, Nat.le_refl _, h1, ⟨rfl, .inl ⟨rfl, rfl⟩⟩, fun r h => h⟩
  case round =>
    clear h1 w1
    obtain ⟨j, l, rfl, hj, hlj, h1, HO, HR⟩ := hrel
    have HJ := Lib.hid (And.intro hj hlj)
    clear hj hlj
    by_cases hlt : j < s.size
    · have HL := Lib.hid (decide_eq_true hlt)
      have HLT := Lib.hid hlt
      clear hlt
      go_wp2_with fail
      refine (more_at C s j true _ HL.out h1.out.2).mono ?_
      rintro e w2 ⟨rfl, m, rfl⟩
      have h2 : Hid (Below C w (wr.drewN m) ∧ Cp (wr.drewN m) C s j) := ⟨h1.out.1.trans (((Still.refl wr).drewN m).below C), h1.out.2⟩
      have HO2 : Hid ((wr.drewN m).ownsRow (C + 1) 161 257 u4 l.length (cellsA l)) := HO.out
      clear h1 HO
      generalize wr.drewN m = w2 at *
      go_wp2_with fail
      refine (piece_any C s j _ HLT.out (by have := HLEN.out; omega) h2.out.2).mono ?_
      rintro e w3 (⟨p, j2, hp, hj1, hj2, rfl, hk⟩ | ⟨hp, he, hk⟩)
      · have HP : Hid (Piece s j (some (p, j2)) ∧ j < j2 ∧ j2 ≤ s.size) := ⟨hp, hj1, hj2⟩
        clear hp hj1 hj2
        have h3 : Hid (Below C w w3 ∧ Cp w3 C s j2) := ⟨by have h := HC.out; subst h; exact below_chg h2.out.1 hk.out.1 (Nat.le_refl _), hk.out.2⟩
        have HO3 : Hid (w3.ownsRow (C + 1) 161 257 u4 l.length (cellsA l)) := owns_chg HO2.out hk.out.1 (fun k h1 h2 => by omega)
        clear hk HO2 h2 w2
        obtain ⟨cs, hcs⟩ : ∃ cs, rowOf p = cs := ⟨_, rfl⟩
        rw [hcs]
        have hsz : cs.size = 257 := by rw [← hcs]; exact rowA_size _ _
        have HN : Hid (cs.toList.length = 1 * 257) := by show _ = _; rw [Array.length_toList, hsz]
        have HONE : Hid (∀ u ∈ cs.toList, u.oneCell' = true) := by rw [← hcs]; exact rowOf_one p
        have HSNOC : Hid (cellsA l ++ cs.toList = cellsA (l ++ [p])) := by show _ = _; rw [cellsA_snoc, hcs]
        clear hcs
        generalize cellsA l = xs at HO3 HSNOC
        have C1 : Hid (∀ j u, cs.toList[j]? = some u → (w3.alloc (.cells cs 161)).cell? ((⟨w3.heap.size, 0, none⟩ : Addr).add j) = some u) := fun j u hu => by
          rw [add_block, (Blk.new w3 cs 161).cell j, ← Array.getElem?_toList]
          exact hu
        have C3 : Hid (l.length + 1 ≤ maxLen) := by have := HJ.out; have := HLEN.out; show _ ≤ _; unfold maxLen; omega
        have C4 : Hid ((l.length + 1) * 264 ≤ 140737488355328) := by have := HJ.out; have := HLEN.out; show _ ≤ _; omega
        have C5 : Hid (C + 1 ≤ (w3.alloc (.cells cs 161)).heap.size) := by have := h3.out.2.lt; show _ ≤ _; simp; omega
        have C6 : Hid ((w3.alloc (.cells cs 161)).ownsRow (C + 1) 161 257 u4 l.length xs) := owns_chg HO3.out (Chg.ofBelow (S := fun _ => False) ((Below.refl _ _).alloc (Nat.le_refl _) _)) (fun _ _ h => h)
        go_wp2_with (first | (refine wpList_build_one rfl 56 161 (.tmp 16) rfl i66 z66 257 Tryz.underlying56 HI.out.1 HI.out.2.1 HI.out.2.2.1 (by decide) (by decide) cs rfl hsz (some 17) rfl ?_; simp only [Act.put, List.setIfInBounds_toArray, List.set_cons_succ, List.set_cons_zero]) | (at_builtin; go_loud (refine wpList_append_own _ rfl (.tmp 14) (.tmp 17) 56 rfl (C + 1) 161 i66 z66 257 264 Tryz.underlying56 HI.out.1 HI.out.2.1 HI.out.2.2.1 HI.out.2.2.2.1 HI.out.2.2.2.2 (by decide) u4 l.length xs rfl C6.out ⟨w3.heap.size, 0, none⟩ 1 1 cs.toList rfl HN.out C1.out HONE.out C3.out C4.out C5.out ?_); intro v' w7 hown7 hgrow7 _; have HOWN7 := Lib.hid hown7; have HGROW7 := Lib.hid hgrow7; clear hown7 hgrow7))
        have hchg : Chg (fun k => C < k) (w3.alloc (.cells cs 161)) w7 := by
          have h := HGROW7.out
          exact ⟨h.os, h.tape, h.output, h.size, fun k hk hn => h.block k hk (owns_apart C6.out k (by omega))⟩
        have hal : Below C w3 (w3.alloc (.cells cs 161)) := (Below.refl _ _).alloc (Nat.le_of_lt h3.out.2.lt) _
        have hb7 : Below C w w7 := h3.out.1.trans (hal.trans ⟨hchg.os, hchg.tape, hchg.output, hchg.size, fun k hk => hchg.block k (by have := h3.out.2.lt; simp; omega) (by omega)⟩)
        have hc7 : Cp w7 C s j2 := hchg.blk (h3.out.2.alloc _) (by omega)
        go_roundg (s.size - j2)
        case measure => have := HP.out; omega
        case rel =>
          refine ⟨j2, l ++ [p], rfl, HP.out.2.2, by have := HP.out; have := HJ.out; simp; omega, ⟨hb7, hc7⟩, ?_, fun r h => HR.out r (.step HLT.out HP.out.1 h)⟩
          have h := HOWN7.out
          rw [HSNOC.out] at h
          rw [List.length_append]
          exact h
      · unfold Threw at he
        subst he
        exact ⟨rfl, .inr (.inl ⟨HLEN.out, HR.out _ (.bad HLT.out hp), rfl, by have h := HC.out; subst h; exact below_chg h2.out.1 hk.out (Nat.le_refl _)⟩)⟩
    · have HL := Lib.hid (decide_eq_false hlt)
      have HLT := Lib.hid (Nat.le_of_not_lt hlt)
      clear hlt
      go_wp2_with fail
      refine (more_at C s j false _ HL.out h1.out.2).mono ?_
      rintro e w2 ⟨rfl, m, rfl⟩
      go_wp2_with fail
      go_ret
      refine .inl ⟨l, _, HLEN.out, HR.out _ (.stop HLT.out), by have := HJ.out; omega, rfl, ?_, ?_⟩
      · have h := HC.out
        subst h
        exact h1.out.1.trans (((Still.refl wr).drewN m).below _)
      · have h := HO.out
        have hc := HC.out
        subst hc
        refine ⟨h.1, ?_⟩
        rcases h.2 with h | ⟨g, cap, cur, hv, hb, h⟩
        · exact .inl h
        · exact .inr ⟨g, cap, cur, hv, by omega, h⟩
end Go.Proofs.YtcdhkeahcliefaaGreatDoor.PatCompile
/- The document's small parts: unit; a piece's cells. -/
namespace Go.Proofs.YtcdhkeahcliefaaGreatDoor.PatB
open Go.ChangeShapes Go.WideShapes Go.ChangeAt Go.RowKit
open Go.Proofs.YtcdhkeahcliefaaGreatDoor.Kit Go.Proofs.YtcdhkeahcliefaaGreatDoor.Pat Go.Proofs.YtcdhkeahcliefaaGreatDoor.PatA Go.Proofs.YtcdhkeahcliefaaGreatDoor.PatSet Go.Proofs.YtcdhkeahcliefaaGreatDoor.PatPiece Go.Proofs.YtcdhkeahcliefaaGreatDoor.PatCompile
set_option linter.unusedVariables false

theorem only_row (w : World) (P : Nat) (cs : Array Value) : Only P w (w.setRow P cs) := ⟨rfl, rfl, rfl, by simp [World.setRow], fun k hk => setRow_other _ _ k _ hk⟩
def rowB (k : Int) (b : Nat) (M : Nat → Bool) : Array Value := (.int .i64 k :: .int .u8 b :: bools 256 M).toArray
theorem rowB_size (k : Int) (b : Nat) (M : Nat → Bool) : (rowB k b M).size = 258 := by
  show (Value.int .i64 k :: Value.int .u8 b :: bools 256 M).length = 258
  rw [List.length_cons, List.length_cons, bools_length]
theorem rowB_get (k : Int) (b : Nat) (M : Nat → Bool) (c : Nat) (h : c < 256) : (rowB k b M)[2 + c]? = some (.bool (M c)) := by
  unfold rowB
  rw [Nat.add_comm, List.getElem?_toArray, List.getElem?_cons_succ, List.getElem?_cons_succ, bools_get 256 M c h]
theorem rowB_put (k : Int) (b : Nat) (M : Nat → Bool) (c : Nat) (v : Bool) : (rowB k b M).setIfInBounds (2 + c) (.bool v) = rowB k b (upd M c v) := by
  unfold rowB
  rw [Nat.add_comm, List.setIfInBounds_toArray, List.set_cons_succ, List.set_cons_succ, bools_set]
theorem rowB_congr {k : Int} {b : Nat} {M M' : Nat → Bool} (h : ∀ c, c < 256 → M c = M' c) : rowB k b M = rowB k b M' := by
  unfold rowB
  rw [bools_congr h]
theorem rowB_one (k : Int) (b : Nat) (M : Nat → Bool) : (rowB k b M).all (·.oneCell') = true := by
  rw [Array.all_eq_true_iff_forall_mem]
  intro v hv
  unfold rowB bools at hv
  simp at hv
  rcases hv with rfl | rfl | ⟨c, _, rfl⟩ <;> rfl
def zrowB : Array Value := rowB 0 0 fun _ => false
def rowRef : Pc → Array Value
  | .byte b => rowB 1 b fun _ => false
  | .any1 => rowB 2 0 fun _ => false
  | .star => rowB 3 0 fun _ => false
  | .stars => rowB 4 0 fun _ => false
  | .set M => rowB 5 0 M
theorem rowRef_size (p : Pc) : (rowRef p).size = 258 := by cases p <;> exact rowB_size _ _ _
theorem rowRef_one (p : Pc) : (rowRef p).all (·.oneCell') = true := by cases p <;> exact rowB_one _ _ _

def UnitPost (r : Option (Nat × Nat)) (i : Nat) (w : World) (e : Ending) (w' : World) : Prop :=
  w = w' ∧ (match r with
  | none => e = .returned (.tuple #[.int .u8 0, .int .i64 0])
  | some (x, j) => e = .returned (.tuple #[.int .u8 x, .int .i64 ((j - i : Nat) : Int)]))
set_option maxRecDepth 100000 in
set_option maxHeartbeats 1600000 in
theorem unit_any (s : ByteArray) (i : Nat) (w : World) (hs9 : s.size ≤ 1000) (hi9 : i ≤ 1001) : Calls Tryz.prog 93 #[.string s, .int .i64 i] w (UnitPost (U s i) i w) := by
  have hi9i : (i : Int) ≤ 1001 := by omega
  unfold U
  by_cases h1 : s.size ≤ i
  · rw [if_pos h1]
    have q1 : (s.size : Int) ≤ (i : Int) := by omega
    clear h1
    go_enter Tryz.func93, Tryz.ntmps93
    go_wp2_with fail
    exact bodyPost_ret (v := .tuple #[.int .u8 0, .int .i64 0]) (by simp [results, Tryz.results93]) rfl ⟨rfl, rfl⟩
  rw [if_neg h1]
  have hx := index_gb s i (by omega)
  have q1 : ¬ ((s.size : Int) ≤ (i : Int)) := by omega
  obtain ⟨y, hy⟩ : ∃ y, gb s i = y := ⟨_, rfl⟩
  rw [hy] at hx ⊢
  clear hy
  by_cases h2 : y = 93
  · subst h2
    rw [if_pos (.inl rfl)]
    clear h1
    go_enter Tryz.func93, Tryz.ntmps93
    go_wp2_with fail
    exact bodyPost_ret (v := .tuple #[.int .u8 0, .int .i64 0]) (by simp [results, Tryz.results93]) rfl ⟨rfl, rfl⟩
  have e2 : ((y : Int) == 93) = false := beq_eq_false_iff_ne.2 (by omega)
  by_cases h3 : y = 45
  · subst h3
    rw [if_pos (.inr rfl)]
    clear h1 h2
    go_enter Tryz.func93, Tryz.ntmps93
    go_wp2_with fail
    exact bodyPost_ret (v := .tuple #[.int .u8 0, .int .i64 0]) (by simp [results, Tryz.results93]) rfl ⟨rfl, rfl⟩
  have e3 : ((y : Int) == 45) = false := beq_eq_false_iff_ne.2 (by omega)
  rw [if_neg (by omega)]
  by_cases h4 : y = 92
  · subst h4
    rw [if_pos rfl]
    by_cases h5 : s.size ≤ i + 1
    · rw [if_pos h5]
      have q5 : (s.size : Int) ≤ (i : Int) + 1 := by omega
      clear h1 h2 h3 h5
      go_enter Tryz.func93, Tryz.ntmps93
      go_wp2_with fail
      exact bodyPost_ret (v := .tuple #[.int .u8 0, .int .i64 0]) (by simp [results, Tryz.results93]) rfl ⟨rfl, rfl⟩
    · rw [if_neg h5]
      have q5 : ¬ ((s.size : Int) ≤ (i : Int) + 1) := by omega
      have hx1 : ∀ w, (Instr.index 9 (.string s) (.int .i64 ((i : Int) + 1))).run Tryz.prog w = .ok (.int .u8 (gb s (i + 1))) w := index_gb s (i + 1) (by omega)
      have E : Hid (i + 2 - i = 2) := by show _ = _; omega
      obtain ⟨z, hz⟩ : ∃ z, gb s (i + 1) = z := ⟨_, rfl⟩
      rw [hz] at hx1 ⊢
      clear h1 h2 h3 h5 hz
      go_enter Tryz.func93, Tryz.ntmps93
      go_wp2_with fail
      exact bodyPost_ret (v := .tuple #[.int .u8 z, .int .i64 2]) (by simp [results, Tryz.results93]) rfl ⟨rfl, by show Ending.returned _ = Ending.returned _; rw [E.out]; rfl⟩
  · rw [if_neg h4]
    have e4 : ((y : Int) != 92) = true := bne_iff_ne.2 (by omega)
    have E : Hid (i + 1 - i = 1) := by show _ = _; omega
    clear h1 h2 h3 h4
    go_enter Tryz.func93, Tryz.ntmps93
    go_wp2_with fail
    exact bodyPost_ret (v := .tuple #[.int .u8 y, .int .i64 1]) (by simp [results, Tryz.results93]) rfl ⟨rfl, by show Ending.returned _ = Ending.returned _; rw [E.out]; rfl⟩
end Go.Proofs.YtcdhkeahcliefaaGreatDoor.PatB
