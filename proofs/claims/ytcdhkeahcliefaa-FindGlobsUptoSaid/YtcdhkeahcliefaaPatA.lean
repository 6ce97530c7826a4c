/- The compiler's small parts: more, next, unit, fill. -/
import Derived.Test.YtcdhkeahcliefaaPat
import Derived.WalkSpells
import Derived.Deep.CutBlock
import Derived.Laws.Tables
namespace Go.Proofs.Ytcdhkeahcliefaa.PatA
open Go.ChangeShapes Go.WideShapes Go.ChangeAt Go.RowKit
open Go.Proofs.Ytcdhkeahcliefaa.Kit Go.Proofs.Ytcdhkeahcliefaa.Pat
set_option linter.unusedVariables false

theorem index_gb (s : ByteArray) (i : Nat) (h : i < s.size) (w : World) : (Instr.index 9 (.string s) (.int .i64 i)).run Try.prog w = .ok (.int .u8 (gb s i)) w := by
  have e : s[i]? = some (s.data.getD i 0) := by
    rw [getElem?_pos s i h]
    have h2 : i < s.data.size := h
    show some s.data[i] = some (s.data.getD i 0)
    rw [Array.getD_eq_getD_getElem?, Array.getElem?_eq_getElem h2]
    rfl
  have h0 : (0 : Int) ≤ (i : Int) := by omega
  simp [Instr.index, asIntOf, run_underlying Try.underlying9, e, gb, h0]
/-- a piece's cells -/
def bools (n : Nat) (M : Nat → Bool) : List Value := (List.range n).map fun c => .bool (M c)
theorem bools_length (n : Nat) (M : Nat → Bool) : (bools n M).length = n := by simp [bools]
theorem bools_get (n : Nat) (M : Nat → Bool) (c : Nat) (h : c < n) : (bools n M)[c]? = some (.bool (M c)) := by
  unfold bools
  rw [List.getElem?_map, List.getElem?_range h]
  rfl
theorem bools_congr {n : Nat} {M M' : Nat → Bool} (h : ∀ c, c < n → M c = M' c) : bools n M = bools n M' := by
  unfold bools
  apply List.map_congr_left
  intro c hc
  rw [h c (List.mem_range.1 hc)]
def upd (M : Nat → Bool) (c : Nat) (v : Bool) : Nat → Bool := fun x => if x = c then v else M x
theorem bools_set (n : Nat) (M : Nat → Bool) (c : Nat) (v : Bool) : (bools n M).set c (.bool v) = bools n (upd M c v) := by
  apply List.ext_getElem?
  intro i
  by_cases hi : i < n
  · rw [bools_get n _ i hi, List.getElem?_set, bools_get n M i hi, bools_length]
    unfold upd
    by_cases hc : c = i
    · subst hc
      simp [hi]
    · rw [if_neg hc, if_neg (Ne.symm hc)]
  · rw [List.getElem?_eq_none (by rw [List.length_set, bools_length]; omega), List.getElem?_eq_none (by rw [bools_length]; omega)]
def rowA (k : Int) (M : Nat → Bool) : Array Value := (.int .i64 k :: bools 256 M).toArray
theorem rowA_size (k : Int) (M : Nat → Bool) : (rowA k M).size = 257 := by
  show (Value.int .i64 k :: bools 256 M).length = 257
  rw [List.length_cons, bools_length]
theorem rowA_kind (k : Int) (M : Nat → Bool) : (rowA k M)[0]? = some (.int .i64 k) := rfl
theorem rowA_get (k : Int) (M : Nat → Bool) (c : Nat) (h : c < 256) : (rowA k M)[1 + c]? = some (.bool (M c)) := by
  unfold rowA
  rw [Nat.add_comm, List.getElem?_toArray, List.getElem?_cons_succ, bools_get 256 M c h]
theorem rowA_put (k : Int) (M : Nat → Bool) (c : Nat) (v : Bool) : (rowA k M).setIfInBounds (1 + c) (.bool v) = rowA k (upd M c v) := by
  unfold rowA
  rw [Nat.add_comm, List.setIfInBounds_toArray, List.set_cons_succ, bools_set]
theorem rowA_setKind (k k' : Int) (M : Nat → Bool) : (rowA k M).setIfInBounds 0 (.int .i64 k') = rowA k' M := by
  unfold rowA
  rw [List.setIfInBounds_toArray, List.set_cons_zero]
theorem rowA_congr {k : Int} {M M' : Nat → Bool} (h : ∀ c, c < 256 → M c = M' c) : rowA k M = rowA k M' := by
  unfold rowA
  rw [bools_congr h]

/-- the compiler in block C: its pattern, and the place that it has come to -/
def Cp (w : World) (C : Nat) (s : ByteArray) (i : Nat) : Prop := Blk w C #[.string s, .int .i64 (i : Int)] 63
def Threw (x : Int) (e : Ending) : Prop := e = .panicked [{ v := .iface 30 (.int .i64 x), recovered := false }]
theorem panics (x : Int) (w : World) : (Instr.panic (.iface 30 (.int .i64 x))).run Try.prog w = .halt (.panic (.iface 30 (.int .i64 x))) w := by kernel_rfl

set_option maxRecDepth 100000 in
set_option maxHeartbeats 1600000 in
theorem more_at (C : Nat) (s : ByteArray) (i : Nat) (b : Bool) (w : World) (hb : decide (i < s.size) = b) (H : Hid (Cp w C s i)) :
    Calls Try.prog 29 #[.pointer (some ⟨C, 0, none⟩)] w fun e w' => e = .returned (.bool b) ∧ ∃ m, w' = w.drewN m := by
  subst hb
  have c0 : w.cell? ⟨C, 0, none⟩ = some (.string s) := (H.out.cell 0).trans rfl
  have c1 : w.cell? ⟨C, 1, none⟩ = some (.int .i64 (i : Int)) := (H.out.cell 1).trans rfl
  go_enter Try.func29, Try.ntmps29
  go_wp2_with (go_quiet (fail))
  go_ret
  exact ⟨rfl, _, rfl⟩
set_option maxRecDepth 100000 in
set_option maxHeartbeats 1600000 in
theorem next_no (C : Nat) (s : ByteArray) (i : Nat) (w : World) (h : s.size ≤ i) (H : Hid (Cp w C s i)) :
    Calls Try.prog 33 #[.pointer (some ⟨C, 0, none⟩)] w fun e w' => Threw 190 e ∧ Still w w' := by
  have hpn := panics 190
  have HL := Lib.hid (decide_eq_false (Nat.not_lt.2 h))
  clear h
  go_enter Try.func33, Try.ntmps33
  go_wp2_with fail
  refine (more_at C s i false _ HL.out H).mono ?_
  rintro e w1 ⟨rfl, m, rfl⟩
  have HS := Lib.hid ((Still.refl w).drewN m)
  generalize w.drewN m = w1 at *
  go_wp2_with fail
  exact ⟨rfl, rfl, HS.out⟩
set_option maxRecDepth 100000 in
set_option maxHeartbeats 1600000 in
theorem next_yes (C : Nat) (s : ByteArray) (i : Nat) (w : World) (h : i < s.size) (hs9 : s.size ≤ 1000) (H : Hid (Cp w C s i)) :
    Calls Try.prog 33 #[.pointer (some ⟨C, 0, none⟩)] w fun e w' => e = .returned (.int .u8 (gb s i)) ∧ Hid (Only C w w' ∧ Cp w' C s (i + 1)) := by
  have HL := Lib.hid (decide_eq_true h)
  have HLT := Lib.hid h
  have HI := Lib.hid (index_gb s i h)
  have hi9 : (i : Int) ≤ 1000 := by omega
  clear h hs9
  go_enter Try.func33, Try.ntmps33
  go_wp2_with fail
  refine (more_at C s i true _ HL.out H).mono ?_
  rintro e w1 ⟨rfl, m, rfl⟩
  have hs := (Still.refl w).drewN m
  have HK : Hid (Cp (w.drewN m) C s i) := hs.blk H.out
  have HS := Lib.hid hs
  clear hs
  generalize w.drewN m = w1 at *
  have c1 : w1.cell? ⟨C, 1, none⟩ = some (.int .i64 (i : Int)) := (HK.out.cell 1).trans rfl
  have f1 := HK.out.frozen 1
  go_upto_region 4 with (fail)
  refine gen_world (fun w' => Hid (Only C w w' ∧ Cp w' C s (i + 1))) ?_ ?_
  · refine ⟨?_, HK.out.put 1 _⟩
    exact Only.setCell ⟨HS.out.os, HS.out.tape, HS.out.output, by rw [HS.out.heap], fun k _ => by rw [HS.out.heap]⟩ ⟨C, 1, none⟩ rfl _
  clear c1 f1 HK HS w1
  rintro w1 h1
  have c0 : w1.cell? ⟨C, 0, none⟩ = some (.string s) := (h1.out.2.cell 0).trans rfl
  have c1 : w1.cell? ⟨C, 1, none⟩ = some (.int .i64 ((i + 1 : Nat) : Int)) := (h1.out.2.cell 1).trans rfl
  have hx := HI.out
  clear HI
  obtain ⟨y, hy⟩ : ∃ y, gb s i = y := ⟨_, rfl⟩
  rw [hy] at hx
  have HY := Lib.hid hy
  clear hy
  go_wp2_with (go_quiet (fail))
  go_ret
  exact ⟨by rw [HY.out]; rfl, h1.out.1.drewN _, h1.out.2⟩
/-- block C alone may have been written -/
theorem Still.only {w w' : World} (h : Still w w') (C : Nat) : Only C w w' := ⟨h.os, h.tape, h.output, by rw [h.heap], fun k _ => by rw [h.heap]⟩
set_option maxRecDepth 100000 in
set_option maxHeartbeats 1600000 in
theorem unit_none (C : Nat) (s : ByteArray) (i : Nat) (w : World) (h : U s i = none) (hs9 : s.size ≤ 1000) (H : Hid (Cp w C s i)) :
    Calls Try.prog 37 #[.pointer (some ⟨C, 0, none⟩)] w fun e w' => Threw 190 e ∧ Hid (Only C w w') := by
  have hpn := panics 190
  have HS9 := Lib.hid hs9
  clear hs9
  unfold U at h
  by_cases h1 : s.size ≤ i
  · clear h
    have H1 := Lib.hid h1
    clear h1
    go_enter Try.func37, Try.ntmps37
    go_wp2_with fail
    refine (next_no C s i _ H1.out H).mono ?_
    rintro e w1 ⟨he, hs⟩
    unfold Threw at he
    subst he
    exact ⟨rfl, rfl, Still.only hs C⟩
  · rw [if_neg h1] at h
    have H1 := Lib.hid (Nat.lt_of_not_le h1)
    clear h1
    go_enter Try.func37, Try.ntmps37
    go_wp2_with fail
    refine (next_yes C s i _ H1.out HS9.out H).mono ?_
    obtain ⟨y, hy⟩ : ∃ y, gb s i = y := ⟨_, rfl⟩
    rw [hy] at h ⊢
    clear hy
    rintro e w1 ⟨rfl, hk⟩
    by_cases h2 : y = 93
    · subst h2
      clear h
      go_wp2_with fail
      exact ⟨rfl, rfl, hk.out.1⟩
    by_cases h3 : y = 45
    · subst h3
      clear h
      go_wp2_with fail
      exact ⟨rfl, rfl, hk.out.1⟩
    rw [if_neg (by omega)] at h
    by_cases h4 : y = 92
    · subst h4
      rw [if_pos rfl] at h
      by_cases h5 : s.size ≤ i + 1
      · have H5 := Lib.hid h5
        clear h h5
        go_wp2_with fail
        refine (next_no C s (i + 1) _ H5.out hk.out.2).mono ?_
        rintro e w2 ⟨he, hs⟩
        unfold Threw at he
        subst he
        exact ⟨rfl, rfl, hk.out.1.trans (Still.only hs C)⟩
      · rw [if_neg h5] at h
        cases h
    · rw [if_neg h4] at h
      cases h
set_option maxRecDepth 100000 in
set_option maxHeartbeats 1600000 in
theorem unit_some (C : Nat) (s : ByteArray) (i : Nat) (x j : Nat) (w : World) (h : U s i = some (x, j)) (hs9 : s.size ≤ 1000) (H : Hid (Cp w C s i)) :
    Calls Try.prog 37 #[.pointer (some ⟨C, 0, none⟩)] w fun e w' => e = .returned (.int .u8 x) ∧ Hid (Only C w w' ∧ Cp w' C s j) := by
  have HS9 := Lib.hid hs9
  clear hs9
  unfold U at h
  by_cases h1 : s.size ≤ i
  · rw [if_pos h1] at h
    cases h
  rw [if_neg h1] at h
  have H1 := Lib.hid (Nat.lt_of_not_le h1)
  clear h1
  go_enter Try.func37, Try.ntmps37
  go_wp2_with fail
  refine (next_yes C s i _ H1.out HS9.out H).mono ?_
  obtain ⟨y, hy⟩ : ∃ y, gb s i = y := ⟨_, rfl⟩
  rw [hy] at h ⊢
  clear hy
  rintro e w1 ⟨rfl, hk⟩
  by_cases h2 : y = 93 ∨ y = 45
  · rw [if_pos h2] at h
    cases h
  rw [if_neg h2] at h
  have e1 : ((y : Int) == 93) = false := beq_eq_false_iff_ne.2 (by omega)
  have e2 : ((y : Int) == 45) = false := beq_eq_false_iff_ne.2 (by omega)
  by_cases h4 : y = 92
  · subst h4
    rw [if_pos rfl] at h
    by_cases h5 : s.size ≤ i + 1
    · rw [if_pos h5] at h
      cases h
    rw [if_neg h5] at h
    cases h
    have H5 := Lib.hid (Nat.lt_of_not_le h5)
    clear h5 h2 e1 e2
    go_wp2_with fail
    refine (next_yes C s (i + 1) _ H5.out HS9.out hk.out.2).mono ?_
    rintro e w2 ⟨rfl, hk2⟩
    go_wp2_with fail
    go_ret
    exact ⟨rfl, hk.out.1.trans hk2.out.1, hk2.out.2⟩
  · rw [if_neg h4] at h
    cases h
    have e3 : ((x : Int) == 92) = false := beq_eq_false_iff_ne.2 (by omega)
    clear h2 h4
    go_wp2_with fail
    go_ret
    exact ⟨rfl, hk.out⟩
def part (M : Nat → Bool) (lo b : Nat) : Nat → Bool := fun c => M c || (decide (lo ≤ c) && decide (c < b))
theorem part_start (M : Nat → Bool) (lo : Nat) : part M lo lo = M := by
  funext c
  unfold part
  by_cases h : lo ≤ c
  · simp [Nat.not_lt.2 h]
  · simp [h]
theorem part_step (M : Nat → Bool) (lo b : Nat) (h : lo ≤ b) : upd (part M lo b) b true = part M lo (b + 1) := by
  funext c
  unfold upd part
  by_cases hc : c = b
  · subst hc
    simp [h]
  · rw [if_neg hc]
    congr 2
    apply decide_eq_decide.2
    omega
theorem part_end (M : Nat → Bool) (lo hi : Nat) (h : lo ≤ hi) : part M lo (hi + 1) = add M lo hi := by
  funext c
  unfold part add
  congr 2
  apply decide_eq_decide.2
  omega
set_option maxRecDepth 100000 in
set_option maxHeartbeats 1600000 in
theorem fill_any (Q : Nat) (k : Int) (M : Nat → Bool) (lo hi : Nat) (w : World) (h : lo ≤ hi) (h9 : hi ≤ 255) (H : Hid (Blk w Q (rowA k M) 66)) :
    Calls Try.prog 34 #[.pointer (some ⟨Q, 0, none⟩), .int .i64 lo, .int .i64 hi] w fun e w' => e = .returned (.tuple #[]) ∧ Hid (Only Q w w' ∧ Blk w' Q (rowA k (add M lo hi)) 66) := by
  go_enter Try.func34, Try.ntmps34
  go_wp2_with fail
  go_loopw [6] (fun i wr => ∃ (b : Nat), i = .int .i64 b ∧ lo ≤ b ∧ b ≤ hi + 1 ∧ Hid (Only Q w wr ∧ Blk wr Q (rowA k (part M lo b)) 66)) (fun i _ => hi + 1 - (intOf i).toNat)
  case atStart => exact ⟨lo, rfl, Nat.le_refl _, by omega, Only.refl _ _, by rw [part_start]; exact H.out⟩
  case round =>
    obtain ⟨b, rfl, hb1, hb2, HK⟩ := hrel
    by_cases hlt : b ≤ hi
    · have hc : wr.cell? ⟨Q, 1 + b, none⟩ = some (.bool (part M lo b b)) := (HK.out.2.cell _).trans (rowA_get k _ b (by omega))
      have hf := HK.out.2.frozen (1 + b)
      have hb9 : (b : Int) < 256 := by omega
      generalize part M lo b b = y at hc
      go_wp2_with fail
      refine ⟨⟨b + 1, by go_num, by omega, by omega, HK.out.1.setCell ⟨Q, 1 + b, none⟩ rfl _, ?_⟩, by simp [intOf]; omega⟩
      have := HK.out.2.put (1 + b) (.bool true)
      rw [rowA_put, part_step M lo b hb1] at this
      exact this
    · go_wp2_with fail
      go_end0
      obtain rfl : b = hi + 1 := by omega
      rw [part_end M lo hi h] at HK
      exact ⟨rfl, HK.out⟩
end Go.Proofs.Ytcdhkeahcliefaa.PatA
