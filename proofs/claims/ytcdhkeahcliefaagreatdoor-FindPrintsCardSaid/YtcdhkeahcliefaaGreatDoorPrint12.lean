/- The compiler's set: its ranges, one by one. -/
import Derived.Test.YtcdhkeahcliefaaGreatDoorPrint01
import Derived.Deep.CutBlock
import Derived.Deep.QuietTactic
import Derived.BigQuiet
import Derived.Deep.LoopGhost
import Derived.Deep.DeepCutAuto
namespace Go.Proofs.YtcdhkeahcliefaaGreatDoor.PatSet
open Go.ChangeShapes Go.WideShapes Go.ChangeAt Go.RowKit
open Go.Proofs.YtcdhkeahcliefaaGreatDoor.Kit Go.Proofs.YtcdhkeahcliefaaGreatDoor.Pat Go.Proofs.YtcdhkeahcliefaaGreatDoor.PatA
set_option linter.unusedVariables false

/-- the blocks of S alone may have been written -/
structure Chg (S : Nat → Prop) (w w' : World) : Prop where
  os : w'.os = w.os
  tape : w'.tape = w.tape
  output : w'.output = w.output
  size : w.heap.size ≤ w'.heap.size
  block : ∀ k, k < w.heap.size → ¬ S k → w'.heap[k]? = w.heap[k]?
theorem Chg.refl (S : Nat → Prop) (w : World) : Chg S w w := ⟨rfl, rfl, rfl, Nat.le_refl _, fun _ _ _ => rfl⟩
theorem Chg.trans {S : Nat → Prop} {a b c : World} (h : Chg S a b) (k : Chg S b c) : Chg S a c :=
  ⟨k.os.trans h.os, k.tape.trans h.tape, k.output.trans h.output, Nat.le_trans h.size k.size, fun j hj hn => (k.block j (Nat.lt_of_lt_of_le hj h.size) hn).trans (h.block j hj hn)⟩
theorem Chg.mono {S T : Nat → Prop} {a b : World} (h : Chg S a b) (k : ∀ j, S j → T j) : Chg T a b := ⟨h.os, h.tape, h.output, h.size, fun j hj hn => h.block j hj fun hs => hn (k j hs)⟩
theorem Chg.only {C : Nat} {S : Nat → Prop} {a b : World} (h : Only C a b) (hc : S C) : Chg S a b := ⟨h.os, h.tape, h.output, by rw [h.size]; exact Nat.le_refl _, fun j _ hn => h.block j fun e => by subst e; exact hn hc⟩
theorem Chg.still {S : Nat → Prop} {a b : World} (h : Still a b) : Chg S a b := ⟨h.os, h.tape, h.output, by rw [h.heap]; exact Nat.le_refl _, fun j _ _ => by rw [h.heap]⟩
theorem Chg.ofBelow {S : Nat → Prop} {a b : World} (h : Below a.heap.size a b) : Chg S a b := ⟨h.os, h.tape, h.output, h.size, fun j hj _ => h.block j hj⟩
theorem Chg.blk {S : Nat → Prop} {a b : World} (h : Chg S a b) {k : Nat} {cs : Array Value} {t : TypeId} (hk : Blk a k cs t) (hn : ¬ S k) : Blk b k cs t := (h.block k hk.lt hn).trans hk

/-- what a set comes to -/
def SetPost (C Q : Nat) (s : ByteArray) (i : Nat) (w : World) (e : Ending) (w' : World) : Prop :=
  (∃ M j, SetRun s (past s i) (fun _ => false) 0 (some (M, j)) ∧ j < s.size ∧ e = .returned (.tuple #[]) ∧ Hid (Chg (fun k => k = C ∨ k = Q) w w' ∧ Cp w' C s (j + 1) ∧ Blk w' Q (rowA 0 (last (Turned s i) M)) 161)) ∨
  (SetRun s (past s i) (fun _ => false) 0 none ∧ Threw 190 e ∧ Hid (Chg (fun k => k = C ∨ k = Q) w w'))
/-- what is known in the middle of a set -/
def Mid (C Q : Nat) (s : ByteArray) (w wr : World) (i : Nat) (M : Nat → Bool) : Prop := Chg (fun k => k = C ∨ k = Q) w wr ∧ Cp wr C s i ∧ Blk wr Q (rowA 0 M) 161
theorem Mid.drewN {C Q : Nat} {s : ByteArray} {w wr : World} {i : Nat} {M : Nat → Bool} (h : Mid C Q s w wr i M) (m : Nat) : Mid C Q s w (wr.drewN m) i M :=
  ⟨h.1.trans (Chg.still ((Still.refl _).drewN m)), h.2.1, h.2.2⟩
theorem Mid.step {C Q : Nat} {s : ByteArray} {w wr w' : World} {i j : Nat} {M : Nat → Bool} (h : Mid C Q s w wr i M) (hne : Q ≠ C) (ho : Only C wr w') (hc : Cp w' C s j) : Mid C Q s w w' j M :=
  ⟨h.1.trans (Chg.only ho (.inl rfl)), hc, ho.blk h.2.2 hne⟩
theorem Mid.put {C Q : Nat} {s : ByteArray} {w wr : World} {i : Nat} {M : Nat → Bool} (h : Mid C Q s w wr i M) (hne : Q ≠ C) (j : Nat) : Mid C Q s w (wr.setCell ⟨C, 1, none⟩ (.int .i64 (j : Int))) j M :=
  h.step hne ((Only.refl C wr).setCell ⟨C, 1, none⟩ rfl _) (h.2.1.put 1 _)
theorem Mid.fill {C Q : Nat} {s : ByteArray} {w wr w' : World} {i : Nat} {M M' : Nat → Bool} (h : Mid C Q s w wr i M) (hne : C ≠ Q) (ho : Only Q wr w') (hk : Blk w' Q (rowA 0 M') 161) : Mid C Q s w w' i M' :=
  ⟨h.1.trans (Chg.only ho (.inr rfl)), ho.blk h.2.1 hne, hk⟩
theorem int_beq (y k : Nat) : ((y : Int) == (k : Int)) = (y == k) := by
  by_cases h : y = k
  · subst h; simp
  · rw [beq_eq_false_iff_ne.2 h, beq_eq_false_iff_ne.2 (by omega)]
theorem turned_in {s : ByteArray} {i : Nat} (h : i < s.size) : Turned s i = (gb s i == 33) := by unfold Turned; simp [h]
theorem turned_out {s : ByteArray} {i : Nat} (h : ¬ i < s.size) : Turned s i = false := by unfold Turned; simp [h]
theorem R_u {s : ByteArray} {i : Nat} (h : U s i = none) : R s i = none := by unfold R; rw [h]
theorem R_one {s : ByteArray} {i lo j : Nat} (h : U s i = some (lo, j)) (hd : ¬ (j < s.size ∧ gb s j = 45)) : R s i = some (lo, lo, j) := by
  unfold R; rw [h]; simp only; rw [if_neg hd]
theorem R_u2 {s : ByteArray} {i lo j : Nat} (h : U s i = some (lo, j)) (hd : j < s.size ∧ gb s j = 45) (h2 : U s (j + 1) = none) : R s i = none := by
  unfold R; rw [h]; simp only; rw [if_pos hd, h2]
theorem R_bad {s : ByteArray} {i lo j hi k : Nat} (h : U s i = some (lo, j)) (hd : j < s.size ∧ gb s j = 45) (h2 : U s (j + 1) = some (hi, k)) (hl : hi < lo) : R s i = none := by
  unfold R; rw [h]; simp only; rw [if_pos hd, h2]; simp only; rw [if_pos hl]
theorem R_two {s : ByteArray} {i lo j hi k : Nat} (h : U s i = some (lo, j)) (hd : j < s.size ∧ gb s j = 45) (h2 : U s (j + 1) = some (hi, k)) (hl : ¬ hi < lo) : R s i = some (lo, hi, k) := by
  unfold R; rw [h]; simp only; rw [if_pos hd, h2]; simp only; rw [if_neg hl]
def flip (M : Nat → Bool) (b : Nat) : Nat → Bool := fun c => if c < b then !M c else M c
theorem flip_start (M : Nat → Bool) : flip M 0 = M := by
  funext c
  exact if_neg (Nat.not_lt_zero c)
theorem flip_step (M : Nat → Bool) (b : Nat) : upd (flip M b) b (!flip M b b) = flip M (b + 1) := by
  funext c
  unfold upd flip
  by_cases h : c = b
  · subst h; simp
  · rw [if_neg h]
    by_cases h2 : c < b
    · rw [if_pos h2, if_pos (by omega)]
    · rw [if_neg h2, if_neg (by omega)]
theorem U_lt {s : ByteArray} {i x j : Nat} (h : U s i = some (x, j)) : i < j ∧ j ≤ s.size ∧ x ≤ 255 := by
  unfold U at h
  have h1 := gb_lt s i
  have h2 := gb_lt s (i + 1)
  split at h
  · cases h
  split at h
  · cases h
  split at h
  · split at h
    · cases h
    · cases h; omega
  · cases h; omega

set_option maxRecDepth 100000 in
set_option maxHeartbeats 3200000 in
theorem set_any (C Q : Nat) (s : ByteArray) (i : Nat) (w : World) (hCQ : C ≠ Q) (hQC : Q ≠ C) (hi : i ≤ s.size) (hs9 : s.size ≤ 1000) (H : Hid (Mid C Q s w w i fun _ => false)) :
    Calls Tryz.prog 96 #[.pointer (some ⟨C, 0, none⟩), .pointer (some ⟨Q, 0, none⟩)] w (SetPost C Q s i w) := by
  have HNE : Hid (C ≠ Q ∧ Q ≠ C) := ⟨hCQ, hQC⟩
  have HS9 := Lib.hid hs9
  have HI := Lib.hid hi
  clear hs9 hi hCQ hQC
  go_enter Tryz.func96, Tryz.ntmps96
  go_upto_region 0 with (fail)
  go_cut [4] (fun v wc => v = .bool (Turned s i) ∧ ∃ m, wc = w.drewN m)
  case first =>
    have c0 : w.cell? ⟨C, 0, none⟩ = some (.string s) := (H.out.2.1.cell 0).trans rfl
    have c1 : w.cell? ⟨C, 1, none⟩ = some (.int .i64 (i : Int)) := (H.out.2.1.cell 1).trans rfl
    by_cases hlt : i < s.size
    · have hx := index_gb s i hlt
      have hi1 : (i : Int) ≤ 1000 := by have := HS9.out; omega
      have HL := Lib.hid (decide_eq_true hlt)
      have HN := Lib.hid (turned_in hlt)
      clear hlt
      obtain ⟨y, hy⟩ : ∃ y, gb s i = y := ⟨_, rfl⟩
      rw [hy] at hx HN
      clear hy
      go_wp2_with fail
      go_quiet (first | (go_at_call 89; refine Calls.quiet_of (more_at C s i true _ HL.out H.out.2.1)))
      go_wp2_with fail
      go_meet
      case rel => exact ⟨by rw [HN.out]; exact congrArg _ (int_beq y 33), _, rfl⟩
    · have HL := Lib.hid (decide_eq_false hlt)
      have HN := Lib.hid (turned_out hlt)
      clear hlt
      go_wp2_with fail
      go_quiet (first | (go_at_call 89; refine Calls.quiet_of (more_at C s i false _ HL.out H.out.2.1)))
      go_wp2_with fail
      go_meet
      case rel => exact ⟨by rw [HN.out], _, rfl⟩
  case rest =>
    obtain ⟨rfl, m, rfl⟩ := hcut
    have H1 : Hid (Mid C Q s w (w.drewN m) i fun _ => false) := H.out.drewN m
    generalize w.drewN m = w1 at *
    obtain ⟨tn, htn⟩ : ∃ tn, Turned s i = tn := ⟨_, rfl⟩
    rw [htn]
    have HTN := Lib.hid htn
    clear htn
    go_upto_if 23 with (fail)
    go_cut [] (fun wc => Hid (Mid C Q s w wc (past s i) fun _ => false))
    case first =>
      have c1 : w1.cell? ⟨C, 1, none⟩ = some (.int .i64 (i : Int)) := (H1.out.2.1.cell 1).trans rfl
      have f1 := H1.out.2.1.frozen 1
      have hi1 : (i : Int) ≤ 1000 := by have := HS9.out; have := HI.out; omega
      cases tn
      · have HP : Hid (past s i = i) := by show _ = _; unfold past; rw [if_neg (by rw [HTN.out]; decide)]
        go_wp2_with fail
        go_meet
        case rel => rw [HP.out]; exact H1
      · have HP : Hid (past s i = i + 1) := by show _ = _; unfold past; rw [if_pos HTN.out]
        go_wp2_with fail
        go_meet
        case rel => rw [HP.out]; exact H1.out.put HNE.out.2 (i + 1)
    case rest =>
      have HP : Hid (past s i ≤ s.size) := by
        show _ ≤ _
        have := HI.out
        unfold past
        split
        · rename_i h
          unfold Turned at h
          simp at h
          omega
        · omega
      clear H1 w1 H HI
      obtain ⟨p0, hp0⟩ : ∃ p, past s i = p := ⟨_, rfl⟩
      rw [hp0] at hcut HP
      have HP0 := Lib.hid hp0
      clear hp0
      have H1 := hcut
      clear hcut
      go_wp2_with fail
      go_loopg [5] (s.size + 1 - p0) (fun g mem wr => ∃ (k j : Nat) (M : Nat → Bool), g = s.size + 1 - j ∧ mem = .int .i64 k ∧ k ≤ j ∧ j ≤ s.size ∧ Hid (Mid C Q s w wr j M) ∧ Hid (∀ r, SetRun s j M k r → SetRun s p0 (fun _ => false) 0 r))
      case atStart => exact ⟨0, p0, _, rfl, rfl, Nat.zero_le _, HP.out, H1, fun r h => h⟩
      case round =>
        clear H1
        obtain ⟨k, j, M, rfl, rfl, hkj, hj, HM, HR⟩ := hrel
        have hk9 : (k : Int) ≤ 1000 := by have := HS9.out; omega
        have hj9 : (j : Int) ≤ 1000 := by have := HS9.out; omega
        have HKJ := Lib.hid (And.intro hkj hj)
        clear hkj hj
        by_cases hend : AtEnd s j k
        · obtain ⟨hk0, hjs, hb⟩ := hend
          have HE : Hid (AtEnd s j k) := ⟨hk0, hjs, hb⟩
          have hx := index_gb s j hjs
          rw [hb] at hx
          have HL := Lib.hid (decide_eq_true hjs)
          have c0 : wr.cell? ⟨C, 0, none⟩ = some (.string s) := (HM.out.2.1.cell 0).trans rfl
          have c1 : wr.cell? ⟨C, 1, none⟩ = some (.int .i64 (j : Int)) := (HM.out.2.1.cell 1).trans rfl
          have k0 : ((k : Int) == 0) = false := beq_eq_false_iff_ne.2 (by omega)
          clear hk0 hjs hb
          go_wp2_with fail
          go_quiet (first | (go_at_call 89; refine Calls.quiet_of (more_at C s j true _ HL.out HM.out.2.1)))
          go_upto_region 14 with (fail)
          refine gen_world (fun w' => Hid (Mid C Q s w w' j M)) (HM.out.drewN _) ?_
          clear c0 c1 hx HM k0
          rintro w2 h2
          have c1 : w2.cell? ⟨C, 1, none⟩ = some (.int .i64 (j : Int)) := (h2.out.2.1.cell 1).trans rfl
          have f1 := h2.out.2.1.frozen 1
          go_upto_region 15 with (fail)
          refine gen_world (fun w' => Hid (Mid C Q s w w' (j + 1) M)) (h2.out.put HNE.out.2 (j + 1)) ?_
          clear c1 f1 h2 w2
          rintro w2 h2
          have HFIN : Hid (∀ (M' : Nat → Bool) (w3 : World), Mid C Q s w w3 (j + 1) M' → (∀ c, c < 256 → M' c = last tn M c) → SetPost C Q s i w (.returned (.tuple #[])) w3) := fun M' w3 h3 hm => by
            refine .inl ⟨M, j, ?_, HE.out.2.1, rfl, h3.1, h3.2.1, ?_⟩
            · rw [HP0.out]
              exact HR.out _ (.stop HE.out)
            · rw [HTN.out, ← rowA_congr hm]
              exact h3.2.2
          clear HP0 HR HE HTN
          cases tn
          · have hc : w2.cell? ⟨Q, 1 + 47, none⟩ = some (.bool (M 47)) := (h2.out.2.2.cell _).trans (rowA_get 0 M 47 (by decide))
            have hf := h2.out.2.2.frozen (1 + 47)
            generalize M 47 = y at hc
            go_wp2_with fail
            go_end0
            refine HFIN.out (upd M 47 false) _ (h2.out.fill HNE.out.1 ((Only.refl Q w2).setCell ⟨Q, 1 + 47, none⟩ rfl _) ?_) fun c _ => ?_
            · have := h2.out.2.2.put (1 + 47) (.bool false)
              rw [rowA_put] at this
              exact this
            · unfold upd last
              by_cases h : c = 47
              · subst h; simp
              · simp [h]
          · go_wp2_with fail
            go_loopw [96, 8] (fun i _ wq => ∃ (b : Nat), i = .int .i64 b ∧ b ≤ 256 ∧ Hid (Mid C Q s w wq (j + 1) (flip M b))) (fun i _ _ => 256 - (intOf i).toNat)
            case atStart => exact ⟨0, rfl, by decide, by rw [flip_start]; exact h2⟩
            case round =>
              clear h2
              obtain ⟨b, rfl, hb, h2⟩ := hrel
              by_cases hlt : b < 256
              · have hc : wr.cell? ⟨Q, 1 + b, none⟩ = some (.bool (flip M b b)) := (h2.out.2.2.cell _).trans (rowA_get 0 _ b hlt)
                have hf := h2.out.2.2.frozen (1 + b)
                have HST := Lib.hid (flip_step M b)
                generalize flip M b b = y at hc HST
                go_wp2_with fail
                go_region
                go_wp2_with fail
                refine ⟨⟨b + 1, by go_num, by omega, ?_⟩, by simp [intOf]; omega⟩
                have hk := h2.out.2.2.put (1 + b) (.bool (!y))
                rw [rowA_put, HST.out] at hk
                exact (h2.out.fill HNE.out.1 ((Only.refl Q _).setCell ⟨Q, 1 + b, none⟩ rfl _) hk).drewN 1
              · have hc : wr.cell? ⟨Q, 1 + 47, none⟩ = some (.bool (flip M b 47)) := (h2.out.2.2.cell _).trans (rowA_get 0 _ 47 (by decide))
                have hf := h2.out.2.2.frozen (1 + 47)
                obtain rfl : b = 256 := by omega
                generalize flip M 256 47 = y at hc
                go_wp2_with fail
                go_end0
                refine HFIN.out (upd (flip M 256) 47 false) _ (h2.out.fill HNE.out.1 ((Only.refl Q _).setCell ⟨Q, 1 + 47, none⟩ rfl _) ?_) fun c hc => ?_
                · have := h2.out.2.2.put (1 + 47) (.bool false)
                  rw [rowA_put] at this
                  exact this
                · unfold upd last flip
                  by_cases h : c = 47
                  · subst h; simp
                  · simp [h, hc]
        · have HE := Lib.hid hend
          clear hend
          go_upto_region 4 with (fail)
          go_cut [49] (fun v wc => v = .bool true ∧ ∃ m, wc = wr.drewN m)
          case first =>
            have c0 : wr.cell? ⟨C, 0, none⟩ = some (.string s) := (HM.out.2.1.cell 0).trans rfl
            have c1 : wr.cell? ⟨C, 1, none⟩ = some (.int .i64 (j : Int)) := (HM.out.2.1.cell 1).trans rfl
            by_cases hk0 : k = 0
            · subst hk0
              go_wp2_with fail
              go_quiet (fail)
              go_wp2_with fail
              go_meet
              case rel => exact ⟨rfl, _, rfl⟩
            have k0 : ((k : Int) == 0) = false := beq_eq_false_iff_ne.2 (by omega)
            by_cases hjs : j < s.size
            · have hb : gb s j ≠ 93 := fun hb => HE.out ⟨hk0, hjs, hb⟩
              have hx := index_gb s j hjs
              have HL := Lib.hid (decide_eq_true hjs)
              have hq : ((gb s j : Int) != 93) = true := bne_iff_ne.2 (by omega)
              generalize gb s j = y at hx hq
              clear hjs hb hk0
              go_wp2_with fail
              go_quiet (first | (go_at_call 89; refine Calls.quiet_of (more_at C s j true _ HL.out HM.out.2.1)))
              go_wp2_with fail
              go_meet
              case rel => exact ⟨rfl, _, rfl⟩
            · have HL := Lib.hid (decide_eq_false hjs)
              clear hjs hk0
              go_wp2_with fail
              go_quiet (first | (go_at_call 89; refine Calls.quiet_of (more_at C s j false _ HL.out HM.out.2.1)))
              go_wp2_with fail
              go_meet
              case rel => exact ⟨rfl, _, rfl⟩
          case rest =>
            obtain ⟨rfl, m, rfl⟩ := hcut
            have h2 : Hid (Mid C Q s w (wr.drewN m) j M) := HM.out.drewN m
            clear HM
            generalize wr.drewN m = w2 at *
            have HBAD : Hid (R s j = none → SetRun s (past s i) (fun _ => false) 0 none) := fun hr => by
              rw [HP0.out]
              exact HR.out _ (.bad HE.out hr)
            have HSTEP : Hid (∀ lo hi j', R s j = some (lo, hi, j') → ∀ r, SetRun s j' (add M lo hi) (k + 1) r → SetRun s p0 (fun _ => false) 0 r) := fun lo hi j' hr r h => HR.out _ (.step HE.out hr h)
            clear HR HE
            go_wp2_with fail
            cases hu : U s j with
            | none =>
              refine (unit_none C s j _ hu HS9.out h2.out.2.1).mono ?_
              rintro e w3 ⟨he, hk⟩
              unfold Threw at he
              subst he
              exact ⟨rfl, .inr ⟨HBAD.out (R_u hu), rfl, h2.out.1.trans (Chg.only hk.out (.inl rfl))⟩⟩
            | some q =>
              obtain ⟨lo, j1⟩ := q
              have HU := Lib.hid hu
              refine (unit_some C s j lo j1 _ hu HS9.out h2.out.2.1).mono ?_
              obtain ⟨hj1, hj2, hlo⟩ := U_lt hu
              clear hu
              rintro e w3 ⟨rfl, hk⟩
              have h3 : Hid (Mid C Q s w w3 j1 M) := h2.out.step HNE.out.2 hk.out.1 hk.out.2
              clear hk h2 w2
              have HJ1 : Hid (j < j1 ∧ j1 ≤ s.size ∧ lo ≤ 255) := ⟨hj1, hj2, hlo⟩
              have j19 : (j1 : Int) ≤ 1000 := by have := HS9.out; omega
              have lo9 : (lo : Int) ≤ 255 := by omega
              clear hj1 hj2 hlo
              obtain ⟨d, hd⟩ : ∃ d, decide (j1 < s.size ∧ gb s j1 = 45) = d := ⟨_, rfl⟩
              have HD := Lib.hid hd
              clear hd
              go_upto_region 8 with (fail)
              go_cut [68] (fun v wc => v = .bool d ∧ ∃ m, wc = w3.drewN m)
              case first =>
                have c0 : w3.cell? ⟨C, 0, none⟩ = some (.string s) := (h3.out.2.1.cell 0).trans rfl
                have c1 : w3.cell? ⟨C, 1, none⟩ = some (.int .i64 (j1 : Int)) := (h3.out.2.1.cell 1).trans rfl
                by_cases hjs : j1 < s.size
                · have hx := index_gb s j1 hjs
                  have HL := Lib.hid (decide_eq_true hjs)
                  have HQ : Hid (((gb s j1 : Int) == 45) = d) := by
                    show _ = _
                    rw [← HD.out]
                    by_cases h : gb s j1 = 45
                    · simp [h, hjs]
                    · simp [h, beq_eq_false_iff_ne.2 (show (gb s j1 : Int) ≠ 45 by omega)]
                  generalize gb s j1 = y at hx HQ
                  clear hjs
                  go_wp2_with fail
                  go_quiet (first | (go_at_call 89; refine Calls.quiet_of (more_at C s j1 true _ HL.out h3.out.2.1)))
                  go_wp2_with fail
                  go_meet
                  case rel => exact ⟨by rw [HQ.out], _, rfl⟩
                · have HL := Lib.hid (decide_eq_false hjs)
                  have HQ : Hid (false = d) := by
                    show _ = _
                    rw [← HD.out]
                    simp [hjs]
                  clear hjs
                  go_wp2_with fail
                  go_quiet (first | (go_at_call 89; refine Calls.quiet_of (more_at C s j1 false _ HL.out h3.out.2.1)))
                  go_wp2_with fail
                  go_meet
                  case rel => exact ⟨by rw [HQ.out], _, rfl⟩
              case rest =>
                obtain ⟨rfl, m, rfl⟩ := hcut
                have h4 : Hid (Mid C Q s w (w3.drewN m) j1 M) := h3.out.drewN m
                clear h3
                generalize w3.drewN m = w4 at *
                cases d
                · have HR1 := Lib.hid (R_one HU.out (of_decide_eq_false HD.out))
                  clear HU HD HBAD
                  have hll : ¬ ((lo : Int) < (lo : Int)) := by omega
                  go_wp2_with fail
                  refine (fill_any Q 0 M lo lo _ (Nat.le_refl _) HJ1.out.2.2 h4.out.2.2).mono ?_
                  rintro e w5 ⟨rfl, hk⟩
                  go_wp2_with fail
                  go_roundg (s.size + 1 - j1)
                  case measure => have := HJ1.out; omega
                  case rel => exact ⟨k + 1, j1, add M lo lo, rfl, by go_num, by have := HJ1.out; have := HKJ.out; omega, HJ1.out.2.1, h4.out.fill HNE.out.1 hk.out.1 hk.out.2, HSTEP.out _ _ _ HR1.out⟩
                · have HDD := Lib.hid (of_decide_eq_true HD.out)
                  clear HD
                  have c1 : w4.cell? ⟨C, 1, none⟩ = some (.int .i64 (j1 : Int)) := (h4.out.2.1.cell 1).trans rfl
                  have f1 := h4.out.2.1.frozen 1
                  go_upto_region 10 with (fail)
                  refine gen_world (fun w' => Hid (Mid C Q s w w' (j1 + 1) M)) (h4.out.put HNE.out.2 (j1 + 1)) ?_
                  clear c1 f1 h4 w4
                  rintro w4 h4
                  go_wp2_with fail
                  cases hu : U s (j1 + 1) with
                  | none =>
                    refine (unit_none C s (j1 + 1) _ hu HS9.out h4.out.2.1).mono ?_
                    rintro e w5 ⟨he, hk⟩
                    unfold Threw at he
                    subst he
                    exact ⟨rfl, .inr ⟨HBAD.out (R_u2 HU.out HDD.out hu), rfl, h4.out.1.trans (Chg.only hk.out (.inl rfl))⟩⟩
                  | some q =>
                    obtain ⟨hi, k2⟩ := q
                    have HU2 := Lib.hid hu
                    refine (unit_some C s (j1 + 1) hi k2 _ hu HS9.out h4.out.2.1).mono ?_
                    obtain ⟨hk1, hk2, hhi⟩ := U_lt hu
                    clear hu
                    rintro e w5 ⟨rfl, hk⟩
                    have h5 : Hid (Mid C Q s w w5 k2 M) := h4.out.step HNE.out.2 hk.out.1 hk.out.2
                    clear hk h4 w4
                    have HK2 : Hid (j1 < k2 ∧ k2 ≤ s.size ∧ hi ≤ 255) := ⟨by omega, hk2, hhi⟩
                    have hi9 : (hi : Int) ≤ 255 := by omega
                    clear hk1 hk2 hhi
                    have hpn := panics 190
                    by_cases hl : hi < lo
                    · have hli : (hi : Int) < (lo : Int) := by omega
                      have HB2 := Lib.hid (HBAD.out (R_bad HU.out HDD.out HU2.out hl))
                      clear hl
                      go_wp2_with fail
                      exact ⟨rfl, .inr ⟨HB2.out, rfl, h5.out.1⟩⟩
                    · have hli : ¬ ((hi : Int) < (lo : Int)) := by omega
                      have HR2 := Lib.hid (R_two HU.out HDD.out HU2.out hl)
                      have HLE := Lib.hid (Nat.le_of_not_lt hl)
                      clear hl
                      go_wp2_with fail
                      refine (fill_any Q 0 M lo hi _ HLE.out HK2.out.2.2 h5.out.2.2).mono ?_
                      rintro e w6 ⟨rfl, hk⟩
                      go_wp2_with fail
                      go_roundg (s.size + 1 - k2)
                      case measure => have := HK2.out; have := HJ1.out; omega
                      case rel => exact ⟨k + 1, k2, add M lo hi, rfl, by go_num, by have := HK2.out; have := HJ1.out; have := HKJ.out; omega, HK2.out.2.1, h5.out.fill HNE.out.1 hk.out.1 hk.out.2, HSTEP.out _ _ _ HR2.out⟩
end Go.Proofs.YtcdhkeahcliefaaGreatDoor.PatSet
