/- The document's set: its ranges, one by one. -/
import Derived.Test.YtcdhkeahcliefaaGreatDoorPrint13
namespace Go.Proofs.YtcdhkeahcliefaaGreatDoor.PatSets
open Go.ChangeShapes Go.WideShapes Go.ChangeAt Go.RowKit
open Go.Proofs.YtcdhkeahcliefaaGreatDoor.Kit Go.Proofs.YtcdhkeahcliefaaGreatDoor.Pat Go.Proofs.YtcdhkeahcliefaaGreatDoor.PatA Go.Proofs.YtcdhkeahcliefaaGreatDoor.PatSet Go.Proofs.YtcdhkeahcliefaaGreatDoor.PatPiece Go.Proofs.YtcdhkeahcliefaaGreatDoor.PatCompile Go.Proofs.YtcdhkeahcliefaaGreatDoor.PatB
set_option linter.unusedVariables false

/-- what a set comes to -/
def SetsPost (s : ByteArray) (i : Nat) (w : World) (e : Ending) (w' : World) : Prop :=
  (∃ M j, SetRun s (past s (i + 1)) (fun _ => false) 0 (some (M, j)) ∧ j < s.size ∧ e = .returned (.tuple #[.agg (rowB 5 0 (last (Turned s (i + 1)) M)), .int .i64 ((j + 1 : Nat) : Int)]) ∧ Hid (Below w.heap.size w w')) ∨
  (SetRun s (past s (i + 1)) (fun _ => false) 0 none ∧ ∃ cs, cs.size = 258 ∧ cs.all (·.oneCell') = true ∧ e = .returned (.tuple #[.agg cs, .int .i64 0]) ∧ Hid (Below w.heap.size w w'))
/-- what is known in the middle of a set -/
def Sm (B Q : Nat) (w wr : World) (M : Nat → Bool) : Prop := Below w.heap.size w wr ∧ Blk wr B zrowB 152 ∧ Blk wr Q (rowB 5 0 M) 152
theorem Sm.put {B Q : Nat} {w wr : World} {M : Nat → Bool} (h : Sm B Q w wr M) (hr : w.heap.size ≤ Q ∧ B ≠ Q) (c : Nat) (v : Bool) : Sm B Q w (wr.setCell ⟨Q, 2 + c, none⟩ (.bool v)) (upd M c v) := by
  refine ⟨h.1.setCell hr.1 _, h.2.1.far hr.2 _, ?_⟩
  have := h.2.2.put (2 + c) (.bool v)
  rw [rowB_put] at this
  exact this

theorem ret36 (tmps : Array Value) (w : World) (B : Nat) (cs : Array Value) (v : Value) (h4 : tmps.getD 4 undef = .pointer (some ⟨B, 0, none⟩)) (h5 : tmps.getD 5 undef = v) (hk : Blk w B cs 152) (hi : (Tryz.prog.info? 152).map (·.size) = some cs.size) :
    (results Tryz.f85 tmps).run Tryz.prog w = .ok (.tuple #[.agg cs, v]) w := by
  have h4' : tmps[4]?.getD undef = .pointer (some ⟨B, 0, none⟩) := by simpa using h4
  have h5' : tmps[5]?.getD undef = v := by simpa using h5
  simp [results, Tryz.results85, h4', h5', asAddr, run_loadVar_row (P := Tryz.prog) w B 152 152 cs (0, 0) _ hk Tryz.underlying152 rfl hi]

set_option maxRecDepth 100000 in
set_option maxHeartbeats 6400000 in
theorem sets_any (s : ByteArray) (i : Nat) (w : World) (hi : i < s.size) (hs9 : s.size ≤ 1000) : Calls Tryz.prog 85 #[.string s, .int .i64 i] w (SetsPost s i w) := by
  have hz : ∀ w, (zeroValue 152).run Tryz.prog w = .ok (.agg zrowB) w := fun w => by kernel_rfl
  have hi9 : (i : Int) ≤ 1000 := by omega
  have HS9 := Lib.hid hs9
  have HI := Lib.hid hi
  clear hs9 hi
  obtain ⟨W, hW⟩ : ∃ W, w.heap.size = W := ⟨_, rfl⟩
  have HW := Lib.hid hW
  clear hW
  go_enter Tryz.func85, Tryz.ntmps85
  go_upto_region 1 with (fail)
  rw [HW.out]
  refine gen_world (fun w' => Hid (Below w.heap.size w w' ∧ Blk w' W zrowB 152 ∧ w'.heap.size = W + 1)) ?_ ?_
  · have h := HW.out
    subst h
    exact ⟨(Below.refl _ _).alloc (Nat.le_refl _) _, Blk.new _ _ _, by simp⟩
  rintro w1 h1
  go_upto_region 2 with (first | (refine wpList_buildTo rfl 152 _ rfl (some 16) rfl (rowB 5 0 fun _ => false) (by kernel_rfl) ?_) | (refine wpList_store_row rfl 152 _ _ rfl w1.heap.size (rowB 5 0 fun _ => false) rfl rfl 152 zrowB (Blk.new _ _ _) (by kernel_rfl) rfl (by kernel_rfl) ?_))
  obtain ⟨Q, hQ⟩ : ∃ B, w1.heap.size = B := ⟨_, rfl⟩
  rw [hQ]
  refine gen_world (fun w' => Hid (Sm W Q w w' fun _ => false)) ?_ ?_
  · have h := HW.out
    have hlt := h1.out.2.1.lt
    have hsr := setRow_heap (w1.alloc (.cells zrowB 152)) w1.heap.size zrowB (rowB 5 0 fun _ => false) 152 (0, 0) (Blk.new w1 zrowB 152)
    have hon := only_row (w1.alloc (.cells zrowB 152)) Q (rowB 5 0 fun _ => false)
    rw [hQ] at hsr hlt
    exact ⟨(h1.out.1.alloc h1.out.1.size _).trans (hon.below (by omega)), hon.blk (h1.out.2.1.alloc _) (by omega), hsr⟩
  have HRK : Hid (w.heap.size ≤ Q ∧ W ≠ Q) := by
    have h := HW.out
    have h2 := h1.out.2.2
    exact ⟨by omega, by omega⟩
  clear hQ h1 w1 hz
  rintro w1 h1
  obtain ⟨tn, htn⟩ : ∃ tn, Turned s (i + 1) = tn := ⟨_, rfl⟩
  have HTN := Lib.hid htn
  clear htn
  obtain ⟨p0, hp0⟩ : ∃ p, past s (i + 1) = p := ⟨_, rfl⟩
  have HP0 := Lib.hid hp0
  clear hp0
  have HP : Hid (p0 ≤ s.size) := by
    show _ ≤ _
    rw [← HP0.out]
    have := HI.out
    unfold past
    split
    · rename_i h
      unfold Turned at h
      simp at h
      omega
    · omega
  go_upto_region 3 with (fail)
  go_cut [7] (fun v wc => v = .bool tn ∧ w1 = wc)
  case first =>
    by_cases hlt : i + 1 < s.size
    · have hlti : (i : Int) + 1 < (s.size : Int) := by omega
      have hx : ∀ w, (Instr.index 9 (.string s) (.int .i64 ((i : Int) + 1))).run Tryz.prog w = .ok (.int .u8 (gb s (i + 1))) w := index_gb s (i + 1) hlt
      have HN := Lib.hid (turned_in hlt)
      clear hlt
      obtain ⟨y, hy⟩ : ∃ y, gb s (i + 1) = y := ⟨_, rfl⟩
      rw [hy] at hx HN
      clear hy
      go_wp2_with fail
      go_meet
      case rel => exact ⟨by rw [← HTN.out, HN.out]; exact congrArg _ (int_beq y 33), rfl⟩
    · have hlti : ¬ ((i : Int) + 1 < (s.size : Int)) := by omega
      have HN := Lib.hid (turned_out hlt)
      clear hlt
      go_wp2_with fail
      go_meet
      case rel => exact ⟨by rw [← HTN.out, HN.out], rfl⟩
  case rest =>
    obtain ⟨rfl, rfl⟩ := hcut
    go_upto_if 29 with (fail)
    go_cut [1] (fun v wc => v = .int .i64 p0 ∧ w1 = wc)
    case first =>
      cases tn
      · have HQ : Hid (p0 = i + 1) := by show _ = _; rw [← HP0.out]; unfold past; rw [if_neg (by rw [HTN.out]; decide)]
        go_wp2_with fail
        go_meet
        case rel => exact ⟨by rw [HQ.out]; rfl, rfl⟩
      · have HQ : Hid (p0 = i + 1 + 1) := by show _ = _; rw [← HP0.out]; unfold past; rw [if_pos HTN.out]
        go_wp2_with fail
        go_meet
        case rel => exact ⟨by rw [HQ.out]; rfl, rfl⟩
    case rest =>
      obtain ⟨rfl, rfl⟩ := hcut
      have H1 := h1
      clear h1 HI
      go_wp2_with fail
      go_loopg [1, 8] (s.size + 1 - p0) (fun g at' mem wr => ∃ (k j : Nat) (M : Nat → Bool), g = s.size + 1 - j ∧ at' = .int .i64 j ∧ mem = .int .i64 k ∧ k ≤ j ∧ j ≤ s.size ∧ Hid (Sm W Q w wr M) ∧ Hid (∀ r, SetRun s j M k r → SetRun s p0 (fun _ => false) 0 r))
      case atStart => exact ⟨0, p0, _, rfl, rfl, rfl, Nat.zero_le _, HP.out, H1, fun r h => h⟩
      case round =>
        clear H1
        obtain ⟨k, j, M, rfl, rfl, rfl, hkj, hj, HM, HR⟩ := hrel
        have hk9 : (k : Int) ≤ 1000 := by have := HS9.out; omega
        have hj9 : (j : Int) ≤ 1000 := by have := HS9.out; omega
        have HKJ := Lib.hid (And.intro hkj hj)
        clear hkj hj
        obtain ⟨d, hd⟩ : ∃ d, decide (j < s.size ∧ gb s j ≠ 93) = d := ⟨_, rfl⟩
        have HD := Lib.hid hd
        clear hd
        go_upto_region 7 with (fail)
        go_cut [41] (fun v wc => v = .bool d ∧ wr = wc)
        case first =>
          by_cases hjs : j < s.size
          · have hx := index_gb s j hjs
            have hjsi : (j : Int) < (s.size : Int) := by omega
            have HQ : Hid (((gb s j : Int) != 93) = d) := by
              show _ = _
              rw [← HD.out]
              by_cases h : gb s j = 93
              · simp [h]
              · simp [h, hjs, bne_iff_ne.2 (show (gb s j : Int) ≠ 93 by omega)]
            generalize gb s j = y at hx HQ
            clear hjs
            go_wp2_with fail
            go_meet
            case rel => exact ⟨by rw [← HQ.out], rfl⟩
          · have hjsi : ¬ ((j : Int) < (s.size : Int)) := by omega
            have HQ : Hid (false = d) := by
              show _ = _
              rw [← HD.out]
              simp [hjs]
            clear hjs
            go_wp2_with fail
            go_meet
            case rel => exact ⟨by rw [← HQ.out], rfl⟩
        case rest =>
          obtain ⟨rfl, rfl⟩ := hcut
          cases d
          · have HND := Lib.hid (of_decide_eq_false HD.out)
            clear HD
            by_cases hend : AtEnd s j k
            · have HE := Lib.hid hend
              have k0 : ((k : Int) == 0) = false := beq_eq_false_iff_ne.2 (by have := hend.1; omega)
              have jn : ¬ ((s.size : Int) ≤ (j : Int)) := by have := hend.2.1; omega
              clear hend
              have HFIN : Hid (∀ M', (∀ c, c < 256 → M' c = last tn M c) → rowB 5 0 M' = rowB 5 0 (last (Turned s (i + 1)) M)) := fun M' h => by rw [HTN.out]; exact rowB_congr h
              have HRUN : Hid (SetRun s (past s (i + 1)) (fun _ => false) 0 (some (M, j))) := by
                show SetRun _ _ _ _ _
                rw [HP0.out]
                exact HR.out _ (.stop HE.out)
              clear HTN HR
              go_upto_if 107 with (fail)
              go_cut [] (fun wc => ∃ M', Hid (Sm W Q w wc M') ∧ ∀ c, c < 256 → c ≠ 47 → M' c = (M c != tn))
              case first =>
                cases tn
                · go_wp2_with fail
                  go_meet
                  case rel => exact ⟨M, HM, fun c _ _ => by simp⟩
                · go_wp2_with fail
                  go_loopg [15] 256 (fun g i wq => ∃ (b : Nat), g = 256 - b ∧ i = .int .i64 b ∧ b ≤ 256 ∧ Hid (Sm W Q w wq (PatSet.flip M b)))
                  case atStart => exact ⟨0, rfl, rfl, by decide, by rw [flip_start]; exact HM⟩
                  case round =>
                    clear HM
                    obtain ⟨b, rfl, rfl, hb, h2⟩ := hrel
                    by_cases hlt : b < 256
                    · have hc : wr.cell? ⟨Q, 2 + b, none⟩ = some (.bool (PatSet.flip M b b)) := (h2.out.2.2.cell _).trans (rowB_get 5 0 _ b hlt)
                      have hf := h2.out.2.2.frozen (2 + b)
                      have HST := Lib.hid (flip_step M b)
                      have hbi : (b : Int) < 256 := by omega
                      generalize PatSet.flip M b b = y at hc HST
                      go_wp2_with fail
                      go_roundg (256 - (b + 1))
                      case measure => omega
                      case rel => exact ⟨b + 1, rfl, by go_num, by omega, by rw [← HST.out]; exact h2.out.put HRK.out b (!y)⟩
                    · obtain rfl : b = 256 := by omega
                      go_wp2_with fail
                      go_meet
                      case rel => exact ⟨PatSet.flip M 256, h2, fun c hc _ => by unfold PatSet.flip; simp [hc]⟩
              case rest =>
                clear HM
                obtain ⟨M', hM', hm'⟩ := hcut
                have HM' := Lib.hid hm'
                clear hm'
                have hc : wc.cell? ⟨Q, 2 + 47, none⟩ = some (.bool (M' 47)) := (hM'.out.2.2.cell _).trans (rowB_get 5 0 _ 47 (by decide))
                have hf := hM'.out.2.2.frozen (2 + 47)
                generalize M' 47 = y at hc
                go_upto_region 32 with (fail)
                refine gen_world (fun w' => Hid (Sm W Q w w' (upd M' 47 false))) (hM'.out.put HRK.out 47 false) ?_
                have hrow : rowB 5 0 (upd M' 47 false) = rowB 5 0 (last (Turned s (i + 1)) M) := HFIN.out _ fun c hc => by
                  unfold upd last
                  by_cases h : c = 47
                  · subst h; simp
                  · rw [if_neg h, HM'.out c hc h]
                    simp [h]
                clear hc hf hM' wc
                rintro wx hx
                obtain ⟨cs, hcs⟩ : ∃ cs, rowB 5 0 (upd M' 47 false) = cs := ⟨_, rfl⟩
                have hkQ : Blk wx Q cs 152 := by rw [← hcs]; exact hx.out.2.2
                have hkB := hx.out.2.1
                have hsz : cs.size = 258 := by rw [← hcs]; exact rowB_size _ _ _
                have hone : cs.all (·.oneCell') = true := by rw [← hcs]; exact rowB_one _ _ _
                have hold : zrowB.size = cs.size := by rw [hsz]; exact rowB_size _ _ _
                have hi69 : (Tryz.prog.info? 152).map (·.size) = some cs.size := by rw [hsz]; kernel_rfl
                rw [hcs] at hrow
                have HROW := Lib.hid hrow
                clear hcs hrow
                go_wp2_with (first | (refine wpList_load_row rfl 152 _ rfl Q rfl 152 cs (0, 0) _ hkQ Tryz.underlying152 rfl hi69 ?_) | (refine wpList_store_row rfl 152 _ _ rfl W cs rfl rfl 152 zrowB hkB hi69 hold hone ?_))
                have hk9 := setRow_heap wx W zrowB cs 152 (0, 0) hkB
                refine bodyPost_ret (v := .tuple #[.agg cs, .int .i64 ((j : Int) + 1)]) (ret36 _ _ W cs _ rfl rfl hk9 hi69) rfl (.inl ⟨M, j, HRUN.out, HE.out.2.1, ?_, hx.out.1.trans ((only_row _ _ _).below (by have := HW.out; omega))⟩)
                rw [HROW.out]
                rfl
            · have HBAD : Hid (SetRun s p0 (fun _ => false) 0 none) := by
                refine HR.out _ (.bad hend (R_u ?_))
                unfold U
                by_cases hjs : s.size ≤ j
                · rw [if_pos hjs]
                · rw [if_neg hjs, if_pos]
                  refine .inl (Classical.byContradiction fun h => HND.out ⟨by omega, h⟩)
              have hcase : k = 0 ∨ (k ≠ 0 ∧ s.size ≤ j) := by
                by_cases h0 : k = 0
                · exact .inl h0
                · refine .inr ⟨h0, Nat.le_of_not_lt fun hlt => ?_⟩
                  exact hend ⟨h0, hlt, Classical.byContradiction fun h => HND.out ⟨hlt, h⟩⟩
              clear hend HR HND
              go_upto_region 24 with (fail)
              go_cut [105] (fun v wc => v = .bool true ∧ wr = wc)
              case first =>
                rcases hcase with rfl | ⟨h0, hn⟩
                · go_wp2_with fail
                  go_meet
                  case rel => exact ⟨rfl, rfl⟩
                · have k0 : ((k : Int) == 0) = false := beq_eq_false_iff_ne.2 (by omega)
                  have jn : (s.size : Int) ≤ (j : Int) := by omega
                  clear h0 hn
                  go_wp2_with fail
                  go_meet
                  case rel => exact ⟨rfl, rfl⟩
              case rest =>
                obtain ⟨rfl, rfl⟩ := hcut
                clear hcase
                go_upto_region 25 with (fail)
                obtain ⟨cs, hcs⟩ : ∃ cs, rowB 5 0 M = cs := ⟨_, rfl⟩
                have hkQ : Blk wr Q cs 152 := by rw [← hcs]; exact HM.out.2.2
                have hkB := HM.out.2.1
                have hsz : cs.size = 258 := by rw [← hcs]; exact rowB_size _ _ _
                have hone : cs.all (·.oneCell') = true := by rw [← hcs]; exact rowB_one _ _ _
                have hold : zrowB.size = cs.size := by rw [hsz]; exact rowB_size _ _ _
                have hi69 : (Tryz.prog.info? 152).map (·.size) = some cs.size := by rw [hsz]; kernel_rfl
                clear hcs
                go_wp2_with (first | (refine wpList_load_row rfl 152 _ rfl Q rfl 152 cs (0, 0) _ hkQ Tryz.underlying152 rfl hi69 ?_) | (refine wpList_store_row rfl 152 _ _ rfl W cs rfl rfl 152 zrowB hkB hi69 hold hone ?_))
                have hk9 := setRow_heap wr W zrowB cs 152 (0, 0) hkB
                refine bodyPost_ret (v := .tuple #[.agg cs, .int .i64 0]) (ret36 _ _ W cs _ rfl rfl hk9 hi69) rfl (.inr ⟨by rw [HP0.out]; exact HBAD.out, cs, hsz, hone, rfl, HM.out.1.trans ((only_row _ _ _).below (by have := HW.out; omega))⟩)
          · have HDD := Lib.hid (of_decide_eq_true HD.out)
            clear HD
            have HNE : Hid (¬ AtEnd s j k) := fun h => HDD.out.2 h.2.2
            have HBAD : Hid (R s j = none → SetRun s p0 (fun _ => false) 0 none) := fun hr => HR.out _ (.bad HNE.out hr)
            have HSTEP : Hid (∀ lo hi j', R s j = some (lo, hi, j') → ∀ r, SetRun s j' (add M lo hi) (k + 1) r → SetRun s p0 (fun _ => false) 0 r) := fun lo hi j' hr r h => HR.out _ (.step HNE.out hr h)
            clear HR HNE
            go_wp2_with fail
            refine (unit_any s j _ HS9.out (by have := HS9.out; have := HKJ.out; omega)).mono ?_
            unfold UnitPost
            cases hu : U s j with
            | none =>
              have HBB := Lib.hid (HBAD.out (R_u hu))
              rintro e _ ⟨rfl, rfl⟩
              clear hu HBAD HSTEP HDD
              go_upto_region 10 with (fail)
              obtain ⟨cs, hcs⟩ : ∃ cs, rowB 5 0 M = cs := ⟨_, rfl⟩
              have hkQ : Blk wr Q cs 152 := by rw [← hcs]; exact HM.out.2.2
              have hkB := HM.out.2.1
              have hsz : cs.size = 258 := by rw [← hcs]; exact rowB_size _ _ _
              have hone : cs.all (·.oneCell') = true := by rw [← hcs]; exact rowB_one _ _ _
              have hold : zrowB.size = cs.size := by rw [hsz]; exact rowB_size _ _ _
              have hi69 : (Tryz.prog.info? 152).map (·.size) = some cs.size := by rw [hsz]; kernel_rfl
              clear hcs
              go_wp2_with (first | (refine wpList_load_row rfl 152 _ rfl Q rfl 152 cs (0, 0) _ hkQ Tryz.underlying152 rfl hi69 ?_) | (refine wpList_store_row rfl 152 _ _ rfl W cs rfl rfl 152 zrowB hkB hi69 hold hone ?_))
              have hk9 := setRow_heap wr W zrowB cs 152 (0, 0) hkB
              refine bodyPost_ret (v := .tuple #[.agg cs, .int .i64 0]) (ret36 _ _ W cs _ rfl rfl hk9 hi69) rfl (.inr ⟨by rw [HP0.out]; exact HBB.out, cs, hsz, hone, rfl, HM.out.1.trans ((only_row _ _ _).below (by have := HW.out; omega))⟩)
            | some q =>
              obtain ⟨lo, j1⟩ := q
              obtain ⟨hj1, hj2, hlo⟩ := U_lt hu
              have HU := Lib.hid hu
              clear hu
              rintro e _ ⟨rfl, rfl⟩
              obtain ⟨d1, hd1⟩ : ∃ d1, j1 - j = d1 := ⟨_, rfl⟩
              simp only [hd1]
              have lo9 : (lo : Int) ≤ 255 := by omega
              have d10 : ((d1 : Int) == 0) = false := beq_eq_false_iff_ne.2 (by omega)
              have hsum : (j : Int) + (d1 : Int) = (j1 : Int) := by omega
              have j19 : (j1 : Int) ≤ 1000 := by have := HS9.out; omega
              have HJ1 : Hid (j < j1 ∧ j1 ≤ s.size ∧ lo ≤ 255) := ⟨hj1, hj2, hlo⟩
              have HSUM := Lib.hid hsum
              clear hj1 hj2 hlo hd1
              go_upto_region 13 with (fail)
              clear hsum
              obtain ⟨d2, hd2⟩ : ∃ d, decide (j1 < s.size ∧ gb s j1 = 45) = d := ⟨_, rfl⟩
              have HD := Lib.hid hd2
              clear hd2
              go_cut [64] (fun v wc => v = .bool d2 ∧ wr = wc)
              case first =>
                by_cases hjs : j1 < s.size
                · have hx := index_gb s j1 hjs
                  have hjsi : (j1 : Int) < (s.size : Int) := by omega
                  have HQ : Hid (((gb s j1 : Int) == 45) = d2) := by
                    show _ = _
                    rw [← HD.out]
                    by_cases h : gb s j1 = 45
                    · simp [h, hjs]
                    · simp [h, beq_eq_false_iff_ne.2 (show (gb s j1 : Int) ≠ 45 by omega)]
                  generalize gb s j1 = y at hx HQ
                  clear hjs
                  go_wp2_with fail
                  go_meet
                  case rel => exact ⟨by rw [← HQ.out], rfl⟩
                · have hjsi : ¬ ((j1 : Int) < (s.size : Int)) := by omega
                  have HQ : Hid (false = d2) := by
                    show _ = _
                    rw [← HD.out]
                    simp [hjs]
                  clear hjs
                  go_wp2_with fail
                  go_meet
                  case rel => exact ⟨by rw [← HQ.out], rfl⟩
              case rest =>
                obtain ⟨rfl, rfl⟩ := hcut
                cases d2
                · have HR1 := Lib.hid (R_one HU.out (of_decide_eq_false HD.out))
                  clear HU HD HBAD
                  go_wp2_with fail
                  go_loopg [14] (lo + 1 - lo) (fun g i wq => ∃ (b : Nat), g = lo + 1 - b ∧ i = .int .i64 b ∧ lo ≤ b ∧ b ≤ lo + 1 ∧ Hid (Sm W Q w wq (PatA.part M lo b)))
                  case atStart => exact ⟨lo, rfl, rfl, Nat.le_refl _, by have := Nat.le_refl lo; omega, by rw [part_start]; exact HM⟩
                  case round =>
                    clear HM
                    obtain ⟨b, rfl, rfl, hb1, hb2, h2⟩ := hrel
                    have hb9 : b ≤ 256 := by have := HJ1.out; omega
                    have hb9i : (b : Int) ≤ 256 := by omega
                    by_cases hlt : b ≤ lo
                    · have hlti : (b : Int) ≤ (lo : Int) := by omega
                      have hbi : (b : Int) < 256 := by have := HJ1.out; omega
                      have hc : wr.cell? ⟨Q, 2 + b, none⟩ = some (.bool (PatA.part M lo b b)) := (h2.out.2.2.cell _).trans (rowB_get 5 0 _ b (by omega))
                      have hf := h2.out.2.2.frozen (2 + b)
                      have HST := Lib.hid (part_step M lo b hb1)
                      generalize PatA.part M lo b b = y at hc
                      go_wp2_with fail
                      go_roundg (lo + 1 - (b + 1))
                      case measure => omega
                      case rel => exact ⟨b + 1, rfl, by go_num, by omega, by omega, by rw [← HST.out]; exact h2.out.put HRK.out b true⟩
                    · have hlti : ¬ ((b : Int) ≤ (lo : Int)) := by omega
                      have HB : Hid (b = lo + 1) := by show _ = _; omega
                      clear hlt hb1 hb2 hb9
                      go_wp2_with fail
                      go_roundg (s.size + 1 - j1)
                      case measure => have := HJ1.out; omega
                      case rel =>
                        refine ⟨k + 1, j1, add M lo lo, rfl, rfl, by go_num, by have := HJ1.out; have := HKJ.out; omega, HJ1.out.2.1, ?_, HSTEP.out _ _ _ HR1.out⟩
                        rw [← part_end M lo lo (Nat.le_refl _), ← HB.out]
                        exact h2
                · have HDD2 := Lib.hid (of_decide_eq_true HD.out)
                  clear HD
                  go_wp2_with fail
                  refine (unit_any s (j1 + 1) _ HS9.out (by have := HS9.out; have := HJ1.out; omega)).mono ?_
                  unfold UnitPost
                  cases hu : U s (j1 + 1) with
                  | none =>
                    have HBB := Lib.hid (HBAD.out (R_u2 HU.out HDD2.out hu))
                    rintro e _ ⟨rfl, rfl⟩
                    clear hu HBAD HSTEP HDD
                    go_upto_region 16 with (fail)
                    obtain ⟨cs, hcs⟩ : ∃ cs, rowB 5 0 M = cs := ⟨_, rfl⟩
                    have hkQ : Blk wr Q cs 152 := by rw [← hcs]; exact HM.out.2.2
                    have hkB := HM.out.2.1
                    have hsz : cs.size = 258 := by rw [← hcs]; exact rowB_size _ _ _
                    have hone : cs.all (·.oneCell') = true := by rw [← hcs]; exact rowB_one _ _ _
                    have hold : zrowB.size = cs.size := by rw [hsz]; exact rowB_size _ _ _
                    have hi69 : (Tryz.prog.info? 152).map (·.size) = some cs.size := by rw [hsz]; kernel_rfl
                    clear hcs
                    go_wp2_with (first | (refine wpList_load_row rfl 152 _ rfl Q rfl 152 cs (0, 0) _ hkQ Tryz.underlying152 rfl hi69 ?_) | (refine wpList_store_row rfl 152 _ _ rfl W cs rfl rfl 152 zrowB hkB hi69 hold hone ?_))
                    have hk9 := setRow_heap wr W zrowB cs 152 (0, 0) hkB
                    refine bodyPost_ret (v := .tuple #[.agg cs, .int .i64 0]) (ret36 _ _ W cs _ rfl rfl hk9 hi69) rfl (.inr ⟨by rw [HP0.out]; exact HBB.out, cs, hsz, hone, rfl, HM.out.1.trans ((only_row _ _ _).below (by have := HW.out; omega))⟩)
                  | some q =>
                    obtain ⟨hi, k2⟩ := q
                    obtain ⟨hk1, hk2, hhi⟩ := U_lt hu
                    have HU2 := Lib.hid hu
                    clear hu
                    rintro e _ ⟨rfl, rfl⟩
                    obtain ⟨d3, hd3⟩ : ∃ d3, k2 - (j1 + 1) = d3 := ⟨_, rfl⟩
                    simp only [hd3]
                    have hi9 : (hi : Int) ≤ 255 := by omega
                    have d30 : ((d3 : Int) == 0) = false := beq_eq_false_iff_ne.2 (by omega)
                    have hsum : (j1 : Int) + 1 + (d3 : Int) = (k2 : Int) := by omega
                    have k29 : (k2 : Int) ≤ 1000 := by have := HS9.out; omega
                    have HK2 : Hid (j1 < k2 ∧ k2 ≤ s.size ∧ hi ≤ 255) := ⟨by omega, hk2, hhi⟩
                    clear hk1 hk2 hhi hd3
                    by_cases hl : hi < lo
                    · have hli : (hi : Int) < (lo : Int) := by omega
                      have HBB := Lib.hid (HBAD.out (R_bad HU.out HDD2.out HU2.out hl))
                      clear hl HBAD HSTEP HDD
                      go_upto_region 16 with (fail)
                      obtain ⟨cs, hcs⟩ : ∃ cs, rowB 5 0 M = cs := ⟨_, rfl⟩
                      have hkQ : Blk wr Q cs 152 := by rw [← hcs]; exact HM.out.2.2
                      have hkB := HM.out.2.1
                      have hsz : cs.size = 258 := by rw [← hcs]; exact rowB_size _ _ _
                      have hone : cs.all (·.oneCell') = true := by rw [← hcs]; exact rowB_one _ _ _
                      have hold : zrowB.size = cs.size := by rw [hsz]; exact rowB_size _ _ _
                      have hi69 : (Tryz.prog.info? 152).map (·.size) = some cs.size := by rw [hsz]; kernel_rfl
                      clear hcs
                      go_wp2_with (first | (refine wpList_load_row rfl 152 _ rfl Q rfl 152 cs (0, 0) _ hkQ Tryz.underlying152 rfl hi69 ?_) | (refine wpList_store_row rfl 152 _ _ rfl W cs rfl rfl 152 zrowB hkB hi69 hold hone ?_))
                      have hk9 := setRow_heap wr W zrowB cs 152 (0, 0) hkB
                      refine bodyPost_ret (v := .tuple #[.agg cs, .int .i64 0]) (ret36 _ _ W cs _ rfl rfl hk9 hi69) rfl (.inr ⟨by rw [HP0.out]; exact HBB.out, cs, hsz, hone, rfl, HM.out.1.trans ((only_row _ _ _).below (by have := HW.out; omega))⟩)
                    · have hli : ¬ ((hi : Int) < (lo : Int)) := by omega
                      have HR2 := Lib.hid (R_two HU.out HDD2.out HU2.out hl)
                      have HLE := Lib.hid (Nat.le_of_not_lt hl)
                      clear hl HBAD
                      go_upto_region 19 with (fail)
                      clear hsum
                      go_wp2_with fail
                      go_loopg [14] (hi + 1 - lo) (fun g i wq => ∃ (b : Nat), g = hi + 1 - b ∧ i = .int .i64 b ∧ lo ≤ b ∧ b ≤ hi + 1 ∧ Hid (Sm W Q w wq (PatA.part M lo b)))
                      case atStart => exact ⟨lo, rfl, rfl, Nat.le_refl _, by have := HLE.out; omega, by rw [part_start]; exact HM⟩
                      case round =>
                        clear HM
                        obtain ⟨b, rfl, rfl, hb1, hb2, h2⟩ := hrel
                        have hb9 : b ≤ 256 := by have := HK2.out; omega
                        have hb9i : (b : Int) ≤ 256 := by omega
                        by_cases hlt : b ≤ hi
                        · have hlti : (b : Int) ≤ (hi : Int) := by omega
                          have hbi : (b : Int) < 256 := by have := HK2.out; omega
                          have hc : wr.cell? ⟨Q, 2 + b, none⟩ = some (.bool (PatA.part M lo b b)) := (h2.out.2.2.cell _).trans (rowB_get 5 0 _ b (by omega))
                          have hf := h2.out.2.2.frozen (2 + b)
                          have HST := Lib.hid (part_step M lo b hb1)
                          generalize PatA.part M lo b b = y at hc
                          go_wp2_with fail
                          go_roundg (hi + 1 - (b + 1))
                          case measure => omega
                          case rel => exact ⟨b + 1, rfl, by go_num, by omega, by omega, by rw [← HST.out]; exact h2.out.put HRK.out b true⟩
                        · have hlti : ¬ ((b : Int) ≤ (hi : Int)) := by omega
                          have HB : Hid (b = hi + 1) := by show _ = _; omega
                          clear hlt hb1 hb2 hb9
                          go_wp2_with fail
                          go_roundg (s.size + 1 - k2)
                          case measure => have := HK2.out; have := HJ1.out; omega
                          case rel =>
                            refine ⟨k + 1, k2, add M lo hi, rfl, rfl, by go_num, by have := HK2.out; have := HJ1.out; have := HKJ.out; omega, HK2.out.2.1, ?_, HSTEP.out _ _ _ HR2.out⟩
                            rw [← part_end M lo hi HLE.out, ← HB.out]
                            exact h2
end Go.Proofs.YtcdhkeahcliefaaGreatDoor.PatSets
