/- The document's pieces: all of a pattern, or that it is none. (Printed by genpieces.py.) -/
import Derived.Test.YtcdhkeahcliefaaGreatDoorPrint14
namespace Go.Proofs.YtcdhkeahcliefaaGreatDoor.PatPieces
open Go.ChangeShapes Go.WideShapes Go.ChangeAt Go.RowKit
open Go.Proofs.YtcdhkeahcliefaaGreatDoor.Kit Go.Proofs.YtcdhkeahcliefaaGreatDoor.Pat Go.Proofs.YtcdhkeahcliefaaGreatDoor.PatA Go.Proofs.YtcdhkeahcliefaaGreatDoor.PatSet Go.Proofs.YtcdhkeahcliefaaGreatDoor.PatPiece Go.Proofs.YtcdhkeahcliefaaGreatDoor.PatCompile Go.Proofs.YtcdhkeahcliefaaGreatDoor.PatB Go.Proofs.YtcdhkeahcliefaaGreatDoor.PatSets
set_option linter.unusedVariables false

set_option maxRecDepth 100000 in
theorem info69 : (Tryz.prog.info? 152).map (fun i => (i.zero, i.size, i.bytes)) = some (some (.agg zrowB), 258, 272) := by kernel_rfl
set_option maxRecDepth 100000 in
theorem built_two (k : Int) (b : Nat) : Tryz.prog.built 152 [(0, .int .i64 k), (1, .int .u8 b)] = some (rowB k b fun _ => false) := by kernel_rfl
set_option maxRecDepth 100000 in
theorem built_one (k : Int) : Tryz.prog.built 152 [(0, .int .i64 k)] = some (rowB k 0 fun _ => false) := by kernel_rfl
theorem rowRef_cells (p : Pc) : ∀ u ∈ (rowRef p).toList, u.oneCell' = true := by
  intro u hu
  have := rowRef_one p
  rw [Array.all_eq_true_iff_forall_mem] at this
  exact this u (Array.mem_toList_iff.1 hu)
/-- the pieces' cells, side by side -/
def cellsB (l : List Pc) : List Value := l.flatMap fun p => (rowRef p).toList
theorem cellsB_length (l : List Pc) : (cellsB l).length = l.length * 258 := by
  induction l with
  | nil => rfl
  | cons p l ih =>
    show ((rowRef p).toList ++ cellsB l).length = _
    rw [List.length_append, ih, Array.length_toList, List.length_cons, rowRef_size]
    omega
theorem cellsB_snoc (l : List Pc) (p : Pc) : cellsB (l ++ [p]) = cellsB l ++ (rowRef p).toList := by
  unfold cellsB
  rw [List.flatMap_append]
  simp
theorem grown_below {w w' : World} {base size n : Nat} {e : TypeId} {v : Value} {xs : List Value} (h : w.ownsRow base e size v n xs) (g : w.grownBy w' v.ownBlock) (hb : base ≤ w.heap.size) : Below base w w' :=
  ⟨g.os, g.tape, g.output, g.size, fun k hk => g.block k (Nat.lt_of_lt_of_le hk hb) (owns_apart h k hk)⟩
/-- what the document's reader of patterns comes to -/
def PiecesPost (s : ByteArray) (w : World) (e : Ending) (w' : World) : Prop :=
  (∃ l v, Run s 0 [] (some l) ∧ l.length ≤ s.size ∧ e = .returned (.tuple #[v, .int .i64 0]) ∧ Hid (Below w.heap.size w w') ∧ Hid (w'.ownsRow w.heap.size 152 258 v l.length (cellsB l))) ∨
  (Run s 0 [] none ∧ e = .returned (.tuple #[.slice none 0 0, .int .i64 190]) ∧ Hid (Below w.heap.size w w'))

set_option maxRecDepth 100000 in
set_option maxHeartbeats 12800000 in
theorem pieces_any (s : ByteArray) (w : World) (hs9 : s.size ≤ 255) : Calls Tryz.prog 71 #[.string s] w (PiecesPost s w) := by
  obtain ⟨i69, hi, hz0, hz1, hz2⟩ := info_parts info69
  obtain ⟨z69, hzz⟩ : ∃ z, z = Value.agg zrowB := ⟨_, rfl⟩
  rw [← hzz] at hz0
  have hzc : z69.cells.size = 258 := by rw [hzz]; exact rowB_size _ _ _
  have HI := Lib.hid (And.intro hi (And.intro hz0 (And.intro hz1 (And.intro hz2 hzc))))
  clear hzz hzc hi hz0 hz1 hz2
  have HLEN := Lib.hid hs9
  clear hs9
  go_enter Tryz.func71, Tryz.ntmps71
  go_wp2_with fail
  go_loopg [5, 4] s.size (fun g at' v wr => ∃ (j : Nat) (l : List Pc), g = s.size - j ∧ j ≤ s.size ∧ at' = .int .i64 j ∧ l.length ≤ j ∧ Hid (Below w.heap.size w wr ∧ wr.ownsRow w.heap.size 152 258 v l.length (cellsB l)) ∧ Hid (∀ r, Run s j l r → Run s 0 [] r))
  case atStart => exact ⟨0, [], rfl, Nat.zero_le _, rfl, Nat.le_refl _, ⟨Below.refl _ _, rfl, .inl ⟨rfl, rfl⟩⟩, fun r h => h⟩
  case round =>
    obtain ⟨j, l, rfl, hj, rfl, hlj, HO, HR⟩ := hrel
    have HJ : Hid (l.length ≤ j ∧ j ≤ s.size) := ⟨hlj, hj⟩
    have hj9 : (j : Int) ≤ 255 := by have := HLEN.out; omega
    clear hlj
    by_cases hlt : j < s.size
    · have HLT := Lib.hid hlt
      have hlti : (j : Int) < (s.size : Int) := by omega
      have hx := index_gb s j hlt
      obtain ⟨y, hy⟩ : ∃ y, gb s j = y := ⟨_, rfl⟩
      rw [hy] at hx
      have HY := Lib.hid hy
      have hy9 : y < 256 := by rw [← hy]; exact gb_lt s j
      clear hy
      by_cases q1 : y = 92
      · have e1 : ((y : Int) == 92) = true := beq_iff_eq.2 (by omega)
        have HY1 : Hid (gb s j = 92) := HY.out.trans q1
        clear q1 HY
        by_cases hl : j + 1 < s.size
        · have hli : ¬ ((s.size : Int) ≤ (j : Int) + 1) := by omega
          have HL := Lib.hid hl
          have hx1 : ∀ w, (Instr.index 9 (.string s) (.int .i64 ((j : Int) + 1))).run Tryz.prog w = .ok (.int .u8 (gb s (j + 1))) w := index_gb s (j + 1) hl
          obtain ⟨z, hz⟩ : ∃ z, gb s (j + 1) = z := ⟨_, rfl⟩
          rw [hz] at hx1
          have HZ := Lib.hid hz
          clear hz
          obtain ⟨p, hp⟩ : ∃ p : Pc, p = .byte z := ⟨_, rfl⟩
          obtain ⟨cs, hcs⟩ : ∃ cs, rowRef p = cs := ⟨_, rfl⟩
          have hsz : cs.size = 258 := by rw [← hcs]; exact rowRef_size p
          have HONE : Hid (∀ u ∈ cs.toList, u.oneCell' = true) := by rw [← hcs]; exact rowRef_cells p
          have HSNOC : Hid (cellsB l ++ cs.toList = cellsB (l ++ [p])) := by show _ = _; rw [cellsB_snoc, hcs]
          have hbt : Tryz.prog.built 152 [(0, .int .i64 1), (1, .int .u8 z)] = some cs := by rw [← hcs, hp]; exact built_two 1 z
          have HPP := Lib.hid hp
          clear hcs hp
          generalize cellsB l = xs at *
          have HN : Hid (cs.toList.length = 1 * 258) := by show _ = _; rw [Array.length_toList, hsz]
          have C1 : Hid (∀ j u, cs.toList[j]? = some u → (wr.alloc (.cells cs 152)).cell? ((⟨wr.heap.size, 0, none⟩ : Addr).add j) = some u) := fun j u hu => by
            rw [add_block, (Blk.new wr cs 152).cell j, ← Array.getElem?_toList]
            exact hu
          have C3 : Hid (l.length + 1 ≤ maxLen) := by have := HJ.out; have := HLEN.out; show _ ≤ _; unfold maxLen; omega
          have C4 : Hid ((l.length + 1) * 272 ≤ 140737488355328) := by have := HJ.out; have := HLEN.out; show _ ≤ _; omega
          have C5 : Hid (w.heap.size ≤ (wr.alloc (.cells cs 152)).heap.size) := by have := HO.out.1.size; show _ ≤ _; simp; omega
          have C6 : Hid ((wr.alloc (.cells cs 152)).ownsRow w.heap.size 152 258 u4 l.length xs) := owns_chg HO.out.2 (Chg.ofBelow (S := fun _ => False) ((Below.refl _ _).alloc (Nat.le_refl _) _)) (fun _ _ h => h)
          have HBEL := Lib.hid HO.out.1
          go_wp2_with (first | (refine wpList_buildTo rfl 152 _ rfl (some 37) rfl cs (Eq.trans (congrArg (Tryz.prog.built 152) (by kernel_rfl)) hbt) ?_; simp only [Act.put, List.setIfInBounds_toArray, List.set_cons_succ, List.set_cons_zero]) | (refine wpList_build_one rfl 118 152 (.tmp 37) rfl i69 z69 258 Tryz.underlying118 HI.out.1 HI.out.2.1 HI.out.2.2.1 (by decide) (by decide) cs rfl hsz (some 38) rfl ?_; simp only [Act.put, List.setIfInBounds_toArray, List.set_cons_succ, List.set_cons_zero]) | (at_builtin; go_loud (refine wpList_append_own _ rfl (.tmp 32) (.tmp 38) 118 rfl w.heap.size 152 i69 z69 258 272 Tryz.underlying118 HI.out.1 HI.out.2.1 HI.out.2.2.1 HI.out.2.2.2.1 HI.out.2.2.2.2 (by decide) u4 l.length xs rfl C6.out ⟨wr.heap.size, 0, none⟩ 1 1 cs.toList rfl HN.out C1.out HONE.out C3.out C4.out C5.out ?_); intro v' w7 hown7 hgrow7 _; have HOWN7 := Lib.hid hown7; have HGROW7 := Lib.hid hgrow7; clear hown7 hgrow7))
          have HB7 : Hid (Below w.heap.size w w7) := HBEL.out.trans (((Below.refl _ _).alloc HBEL.out.size _).trans (grown_below C6.out HGROW7.out C5.out))
          go_roundg (s.size - (j + 2))
          case measure => omega
          case rel =>
            refine ⟨(j + 2), l ++ [p], rfl, by omega, by go_num, by have := HJ.out; simp; omega, ⟨HB7.out, ?_⟩, fun r h => HR.out r (.step HLT.out (by rw [HPP.out, ← HZ.out]; exact .esc HY1.out HL.out) h)⟩
            have h := HOWN7.out
            rw [HSNOC.out] at h
            rw [List.length_append]
            exact h
        · have hli : (s.size : Int) ≤ (j : Int) + 1 := by omega
          have HL := Lib.hid (Nat.le_of_not_lt hl)
          clear hl
          go_wp2_with fail
          exact bodyPost_ret (v := .tuple #[.slice none 0 0, .int .i64 190]) (by simp [results, Tryz.results71]) rfl (.inr ⟨HR.out _ (.bad HLT.out (.noesc HY1.out HL.out)), rfl, HO.out.1⟩)
      have e1 : ((y : Int) == 92) = false := beq_eq_false_iff_ne.2 (by omega)
      by_cases q2 : y = 63
      · have e2 : ((y : Int) == 63) = true := beq_iff_eq.2 (by omega)
        have HY2 : Hid (gb s j = 63) := HY.out.trans q2
        clear q1 q2 HY
        obtain ⟨p, hp⟩ : ∃ p : Pc, p = .any1 := ⟨_, rfl⟩
        obtain ⟨cs, hcs⟩ : ∃ cs, rowRef p = cs := ⟨_, rfl⟩
        have hsz : cs.size = 258 := by rw [← hcs]; exact rowRef_size p
        have HONE : Hid (∀ u ∈ cs.toList, u.oneCell' = true) := by rw [← hcs]; exact rowRef_cells p
        have HSNOC : Hid (cellsB l ++ cs.toList = cellsB (l ++ [p])) := by show _ = _; rw [cellsB_snoc, hcs]
        have hbt : Tryz.prog.built 152 [(0, .int .i64 2)] = some cs := by rw [← hcs, hp]; exact built_one 2
        have HPP := Lib.hid hp
        clear hcs hp
        generalize cellsB l = xs at *
        have HN : Hid (cs.toList.length = 1 * 258) := by show _ = _; rw [Array.length_toList, hsz]
        have C1 : Hid (∀ j u, cs.toList[j]? = some u → (wr.alloc (.cells cs 152)).cell? ((⟨wr.heap.size, 0, none⟩ : Addr).add j) = some u) := fun j u hu => by
          rw [add_block, (Blk.new wr cs 152).cell j, ← Array.getElem?_toList]
          exact hu
        have C3 : Hid (l.length + 1 ≤ maxLen) := by have := HJ.out; have := HLEN.out; show _ ≤ _; unfold maxLen; omega
        have C4 : Hid ((l.length + 1) * 272 ≤ 140737488355328) := by have := HJ.out; have := HLEN.out; show _ ≤ _; omega
        have C5 : Hid (w.heap.size ≤ (wr.alloc (.cells cs 152)).heap.size) := by have := HO.out.1.size; show _ ≤ _; simp; omega
        have C6 : Hid ((wr.alloc (.cells cs 152)).ownsRow w.heap.size 152 258 u4 l.length xs) := owns_chg HO.out.2 (Chg.ofBelow (S := fun _ => False) ((Below.refl _ _).alloc (Nat.le_refl _) _)) (fun _ _ h => h)
        have HBEL := Lib.hid HO.out.1
        go_wp2_with (first | (refine wpList_buildTo rfl 152 _ rfl (some 45) rfl cs (Eq.trans (congrArg (Tryz.prog.built 152) (by kernel_rfl)) hbt) ?_; simp only [Act.put, List.setIfInBounds_toArray, List.set_cons_succ, List.set_cons_zero]) | (refine wpList_build_one rfl 118 152 (.tmp 45) rfl i69 z69 258 Tryz.underlying118 HI.out.1 HI.out.2.1 HI.out.2.2.1 (by decide) (by decide) cs rfl hsz (some 46) rfl ?_; simp only [Act.put, List.setIfInBounds_toArray, List.set_cons_succ, List.set_cons_zero]) | (at_builtin; go_loud (refine wpList_append_own _ rfl (.tmp 44) (.tmp 46) 118 rfl w.heap.size 152 i69 z69 258 272 Tryz.underlying118 HI.out.1 HI.out.2.1 HI.out.2.2.1 HI.out.2.2.2.1 HI.out.2.2.2.2 (by decide) u4 l.length xs rfl C6.out ⟨wr.heap.size, 0, none⟩ 1 1 cs.toList rfl HN.out C1.out HONE.out C3.out C4.out C5.out ?_); intro v' w7 hown7 hgrow7 _; have HOWN7 := Lib.hid hown7; have HGROW7 := Lib.hid hgrow7; clear hown7 hgrow7))
        have HB7 : Hid (Below w.heap.size w w7) := HBEL.out.trans (((Below.refl _ _).alloc HBEL.out.size _).trans (grown_below C6.out HGROW7.out C5.out))
        go_roundg (s.size - (j + 1))
        case measure => omega
        case rel =>
          refine ⟨(j + 1), l ++ [p], rfl, by omega, by go_num, by have := HJ.out; simp; omega, ⟨HB7.out, ?_⟩, fun r h => HR.out r (.step HLT.out (by rw [HPP.out]; exact .any1 HY2.out) h)⟩
          have h := HOWN7.out
          rw [HSNOC.out] at h
          rw [List.length_append]
          exact h
      have e2 : ((y : Int) == 63) = false := beq_eq_false_iff_ne.2 (by omega)
      by_cases q3 : y = 42
      · have e3 : ((y : Int) == 42) = true := beq_iff_eq.2 (by omega)
        have HY3 : Hid (gb s j = 42) := HY.out.trans q3
        clear q1 q2 q3 HY
        go_wp2_with fail
        go_loopg [5, 6] (s.size - (j + 1)) (fun g at' kd wq => ∃ (e : Nat), g = s.size - e ∧ at' = .int .i64 e ∧ kd = .int .i64 (if j + 1 < e then 4 else 3) ∧ j + 1 ≤ e ∧ e ≤ s.size ∧ wr = wq ∧ Hid (∀ r, StarRun s e r → StarRun s (j + 1) r))
        case atStart => exact ⟨j + 1, rfl, by go_num, by rw [if_neg (Nat.lt_irrefl _)], Nat.le_refl _, hlt, rfl, fun r h => h⟩
        case round =>
          obtain ⟨e, rfl, rfl, rfl, he1, he2, rfl, HS⟩ := hrel
          have he9 : (e : Int) ≤ 255 := by have := HLEN.out; omega
          obtain ⟨d, hd⟩ : ∃ d, decide (e < s.size ∧ gb s e = 42) = d := ⟨_, rfl⟩
          have HD := Lib.hid hd
          clear hd hx e1 e2 e3
          obtain ⟨kd, hkd⟩ : ∃ k : Int, (if j + 1 < e then 4 else 3) = k := ⟨_, rfl⟩
          rw [hkd]
          have HKD := Lib.hid hkd
          clear hkd
          go_upto_region 18 with (fail)
          go_cut [63] (fun v wc => v = .bool d ∧ wr = wc)
          case first =>
            by_cases hjs : e < s.size
            · have hx := index_gb s e hjs
              have hjsi : (e : Int) < (s.size : Int) := by omega
              have HQ : Hid (((gb s e : Int) == 42) = d) := by
                show _ = _
                rw [← HD.out]
                by_cases h : gb s e = 42
                · simp [h, hjs]
                · simp [h, beq_eq_false_iff_ne.2 (show (gb s e : Int) ≠ 42 by omega)]
              generalize gb s e = q at hx HQ
              clear hjs
              go_wp2_with fail
              go_meet
              case rel => exact ⟨by rw [← HQ.out], rfl⟩
            · have hjsi : ¬ ((e : Int) < (s.size : Int)) := by omega
              have HQ : Hid (false = d) := by
                show _ = _
                rw [← HD.out]
                simp [hjs]
              clear hjs
              go_wp2_with fail
              go_meet
              case rel => exact ⟨by rw [← HQ.out], rfl⟩
          case rest =>
            obtain ⟨rfl, rfl⟩ := hcut
            cases d
            · have HSS := Lib.hid (HS.out _ (.stop (of_decide_eq_false HD.out)))
              clear HD HS

              obtain ⟨p, hp⟩ : ∃ p : Pc, p = (if j + 1 < e then .stars else .star) := ⟨_, rfl⟩
              obtain ⟨cs, hcs⟩ : ∃ cs, rowRef p = cs := ⟨_, rfl⟩
              have hsz : cs.size = 258 := by rw [← hcs]; exact rowRef_size p
              have HONE : Hid (∀ u ∈ cs.toList, u.oneCell' = true) := by rw [← hcs]; exact rowRef_cells p
              have HSNOC : Hid (cellsB l ++ cs.toList = cellsB (l ++ [p])) := by show _ = _; rw [cellsB_snoc, hcs]
              have hbt : Tryz.prog.built 152 [(0, .int .i64 kd)] = some cs := by
                rw [← hcs, hp, ← HKD.out]
                by_cases h : j + 1 < e
                · rw [if_pos h, if_pos h]; exact built_one 4
                · rw [if_neg h, if_neg h]; exact built_one 3
              have HPP := Lib.hid hp
              clear hcs hp
              generalize cellsB l = xs at *
              have HN : Hid (cs.toList.length = 1 * 258) := by show _ = _; rw [Array.length_toList, hsz]
              have C1 : Hid (∀ j u, cs.toList[j]? = some u → (wr.alloc (.cells cs 152)).cell? ((⟨wr.heap.size, 0, none⟩ : Addr).add j) = some u) := fun j u hu => by
                rw [add_block, (Blk.new wr cs 152).cell j, ← Array.getElem?_toList]
                exact hu
              have C3 : Hid (l.length + 1 ≤ maxLen) := by have := HJ.out; have := HLEN.out; show _ ≤ _; unfold maxLen; omega
              have C4 : Hid ((l.length + 1) * 272 ≤ 140737488355328) := by have := HJ.out; have := HLEN.out; show _ ≤ _; omega
              have C5 : Hid (w.heap.size ≤ (wr.alloc (.cells cs 152)).heap.size) := by have := HO.out.1.size; show _ ≤ _; simp; omega
              have C6 : Hid ((wr.alloc (.cells cs 152)).ownsRow w.heap.size 152 258 u4 l.length xs) := owns_chg HO.out.2 (Chg.ofBelow (S := fun _ => False) ((Below.refl _ _).alloc (Nat.le_refl _) _)) (fun _ _ h => h)
              have HBEL := Lib.hid HO.out.1
              go_wp2_with (first | (refine wpList_buildTo rfl 152 _ rfl (some 68) rfl cs (Eq.trans (congrArg (Tryz.prog.built 152) (by kernel_rfl)) hbt) ?_; simp only [Act.put, List.setIfInBounds_toArray, List.set_cons_succ, List.set_cons_zero]) | (refine wpList_build_one rfl 118 152 (.tmp 68) rfl i69 z69 258 Tryz.underlying118 HI.out.1 HI.out.2.1 HI.out.2.2.1 (by decide) (by decide) cs rfl hsz (some 69) rfl ?_; simp only [Act.put, List.setIfInBounds_toArray, List.set_cons_succ, List.set_cons_zero]) | (at_builtin; go_loud (refine wpList_append_own _ rfl (.tmp 66) (.tmp 69) 118 rfl w.heap.size 152 i69 z69 258 272 Tryz.underlying118 HI.out.1 HI.out.2.1 HI.out.2.2.1 HI.out.2.2.2.1 HI.out.2.2.2.2 (by decide) u4 l.length xs rfl C6.out ⟨wr.heap.size, 0, none⟩ 1 1 cs.toList rfl HN.out C1.out HONE.out C3.out C4.out C5.out ?_); intro v' w7 hown7 hgrow7 _; have HOWN7 := Lib.hid hown7; have HGROW7 := Lib.hid hgrow7; clear hown7 hgrow7))
              have HB7 : Hid (Below w.heap.size w w7) := HBEL.out.trans (((Below.refl _ _).alloc HBEL.out.size _).trans (grown_below C6.out HGROW7.out C5.out))
              go_roundg (s.size - e)
              case measure => omega
              case rel =>
                refine ⟨e, l ++ [p], rfl, by omega, rfl, by have := HJ.out; simp; omega, ⟨HB7.out, ?_⟩, fun r h => HR.out r (.step HLT.out (by
                            rw [HPP.out]
                            by_cases h : j + 1 < e
                            · rw [if_pos h]; exact .stars HY3.out HSS.out h
                            · obtain rfl : e = j + 1 := by omega
                              rw [if_neg h]; exact .star HY3.out HSS.out) h)⟩
                have h := HOWN7.out
                rw [HSNOC.out] at h
                rw [List.length_append]
                exact h
            · have HDD := Lib.hid (of_decide_eq_true HD.out)
              clear HD
              go_wp2_with fail
              go_roundg (s.size - (e + 1))
              case measure => have := HDD.out.1; omega
              case rel => exact ⟨e + 1, rfl, by go_num, by rw [if_pos (by omega)], by omega, HDD.out.1, rfl, fun r h => HS.out r (.step HDD.out h)⟩
      have e3 : ((y : Int) == 42) = false := beq_eq_false_iff_ne.2 (by omega)
      by_cases q4 : y = 91
      · have e4 : ((y : Int) == 91) = true := beq_iff_eq.2 (by omega)
        have HY4 : Hid (gb s j = 91) := HY.out.trans q4
        clear q1 q2 q3 q4 HY
        go_wp2_with fail
        refine (sets_any s j _ hlt (by have := HLEN.out; omega)).mono ?_
        clear hx e1 e2 e3 e4
        have hz : ∀ w, (zeroValue 152).run Tryz.prog w = .ok (.agg zrowB) w := fun w => by kernel_rfl
        rintro e w2 (⟨M, q, hrun, hq, rfl, hb⟩ | ⟨hrun, cs, hsz, hone, rfl, hb⟩)
        · have HRUN : Hid (SetRun s (past s (j + 1)) (fun _ => false) 0 (some (M, q)) ∧ q < s.size ∧ j < q) := by
            refine ⟨hrun, hq, ?_⟩
            have h1 := run_le hrun M q rfl
            have h2 : j + 1 ≤ past s (j + 1) := by unfold past; split <;> omega
            omega
          have HO2 : Hid (Below w.heap.size w w2 ∧ w2.ownsRow w.heap.size 152 258 u4 l.length (cellsB l)) := ⟨HO.out.1.trans (hb.out.mono HO.out.1.size), owns_chg HO.out.2 (Chg.ofBelow (S := fun _ => False) hb.out) (fun _ _ h => h)⟩
          have q0 : ((q : Int) + 1 == 0) = false := beq_eq_false_iff_ne.2 (by omega)
          clear hrun hq hb HO

          obtain ⟨p, hp⟩ : ∃ p : Pc, p = .set (last (Turned s (j + 1)) M) := ⟨_, rfl⟩
          obtain ⟨cs, hcs⟩ : ∃ cs, rowRef p = cs := ⟨_, rfl⟩
          have hsz : cs.size = 258 := by rw [← hcs]; exact rowRef_size p
          have HONE : Hid (∀ u ∈ cs.toList, u.oneCell' = true) := by rw [← hcs]; exact rowRef_cells p
          have HSNOC : Hid (cellsB l ++ cs.toList = cellsB (l ++ [p])) := by show _ = _; rw [cellsB_snoc, hcs]
          have hrow : rowB 5 0 (last (Turned s (j + 1)) M) = cs := by rw [← hcs, hp]; rfl
          rw [hrow]
          have hone : cs.all (·.oneCell') = true := by rw [← hcs]; exact rowRef_one p
          have hold : zrowB.size = cs.size := by rw [hsz]; exact rowB_size _ _ _
          have hi69 : (Tryz.prog.info? 152).map (·.size) = some cs.size := by rw [hsz]; kernel_rfl
          clear hrow
          have HPP := Lib.hid hp
          clear hcs hp
          generalize cellsB l = xs at *
          go_upto_region 24 with (first | (refine wpList_store_row rfl 152 _ _ rfl w2.heap.size cs rfl rfl 152 zrowB (Blk.new _ _ _) hi69 hold hone ?_))
          obtain ⟨P, hP⟩ : ∃ P, w2.heap.size = P := ⟨_, rfl⟩
          rw [hP]
          refine gen_world (fun w' => Hid ((Below w.heap.size w w' ∧ w'.ownsRow w.heap.size 152 258 u4 l.length xs) ∧ Blk w' P cs 152)) ?_ ?_
          · have hon := only_row (w2.alloc (.cells zrowB 152)) P cs
            have hsr := setRow_heap (w2.alloc (.cells zrowB 152)) w2.heap.size zrowB cs 152 (0, 0) (Blk.new w2 zrowB 152)
            rw [hP] at hsr
            refine ⟨⟨(HO2.out.1.alloc HO2.out.1.size _).trans (hon.below (by have := HO2.out.1.size; omega)), ?_⟩, hsr⟩
            have ho := owns_chg HO2.out.2 (Chg.ofBelow (S := fun _ => False) ((Below.refl w2.heap.size w2).alloc (Nat.le_refl _) (.cells zrowB 152))) (fun _ _ h => h)
            rcases ho with ⟨h1, h0 | ⟨g, cap, cur, hv, hbg, hg, h2, h3, h4, h5⟩⟩
            · exact ⟨h1, .inl h0⟩
            · refine ⟨h1, .inr ⟨g, cap, cur, hv, hbg, ?_, h2, h3, h4, h5⟩⟩
              have hne : g ≠ P := fun e => by
                rcases HO2.out.2.2 with ⟨h6, _⟩ | ⟨g2, cap2, cur2, hv2, _, hg2, _⟩
                · rw [h6] at hv; cases hv
                · rw [hv2] at hv
                  cases hv
                  have := (Array.getElem?_eq_some_iff.1 hg2).1
                  omega
              exact (hon.block g hne).trans hg
          clear hP HO2 hone hold hz
          rintro w3 h3
          have hkP := h3.out.2
          have HO3 := Lib.hid h3.out.1
          clear h3

          have HN : Hid (cs.toList.length = 1 * 258) := by show _ = _; rw [Array.length_toList, hsz]
          have C1 : Hid (∀ j u, cs.toList[j]? = some u → (w3.alloc (.cells cs 152)).cell? ((⟨w3.heap.size, 0, none⟩ : Addr).add j) = some u) := fun j u hu => by
            rw [add_block, (Blk.new w3 cs 152).cell j, ← Array.getElem?_toList]
            exact hu
          have C3 : Hid (l.length + 1 ≤ maxLen) := by have := HJ.out; have := HLEN.out; show _ ≤ _; unfold maxLen; omega
          have C4 : Hid ((l.length + 1) * 272 ≤ 140737488355328) := by have := HJ.out; have := HLEN.out; show _ ≤ _; omega
          have C5 : Hid (w.heap.size ≤ (w3.alloc (.cells cs 152)).heap.size) := by have := HO3.out.1.size; show _ ≤ _; simp; omega
          have C6 : Hid ((w3.alloc (.cells cs 152)).ownsRow w.heap.size 152 258 u4 l.length xs) := owns_chg HO3.out.2 (Chg.ofBelow (S := fun _ => False) ((Below.refl _ _).alloc (Nat.le_refl _) _)) (fun _ _ h => h)
          have HBEL := Lib.hid HO3.out.1
          go_wp2_with (first | (refine wpList_load_row rfl 152 _ rfl P rfl 152 cs (0, 0) _ hkP Tryz.underlying152 rfl hi69 ?_; simp only [Act.put, List.setIfInBounds_toArray, List.set_cons_succ, List.set_cons_zero]) | (refine wpList_build_one rfl 118 152 (.tmp 82) rfl i69 z69 258 Tryz.underlying118 HI.out.1 HI.out.2.1 HI.out.2.2.1 (by decide) (by decide) cs rfl hsz (some 83) rfl ?_; simp only [Act.put, List.setIfInBounds_toArray, List.set_cons_succ, List.set_cons_zero]) | (at_builtin; go_loud (refine wpList_append_own _ rfl (.tmp 81) (.tmp 83) 118 rfl w.heap.size 152 i69 z69 258 272 Tryz.underlying118 HI.out.1 HI.out.2.1 HI.out.2.2.1 HI.out.2.2.2.1 HI.out.2.2.2.2 (by decide) u4 l.length xs rfl C6.out ⟨w3.heap.size, 0, none⟩ 1 1 cs.toList rfl HN.out C1.out HONE.out C3.out C4.out C5.out ?_); intro v' w7 hown7 hgrow7 _; have HOWN7 := Lib.hid hown7; have HGROW7 := Lib.hid hgrow7; clear hown7 hgrow7))
          have HB7 : Hid (Below w.heap.size w w7) := HBEL.out.trans (((Below.refl _ _).alloc HBEL.out.size _).trans (grown_below C6.out HGROW7.out C5.out))
          go_roundg (s.size - (q + 1))
          case measure => have := HRUN.out; omega
          case rel =>
            refine ⟨(q + 1), l ++ [p], rfl, by have := HRUN.out; omega, rfl, by have := HJ.out; have := HRUN.out; simp; omega, ⟨HB7.out, ?_⟩, fun r h => HR.out r (.step HLT.out (by rw [HPP.out]; exact .set HY4.out HRUN.out.1) h)⟩
            have h := HOWN7.out
            rw [HSNOC.out] at h
            rw [List.length_append]
            exact h
        · have HNS := Lib.hid (HR.out _ (.bad HLT.out (.noset HY4.out hrun)))
          have HO2 : Hid (Below w.heap.size w w2) := HO.out.1.trans (hb.out.mono HO.out.1.size)
          have hold : zrowB.size = cs.size := by rw [hsz]; exact rowB_size _ _ _
          have hi69 : (Tryz.prog.info? 152).map (·.size) = some cs.size := by rw [hsz]; kernel_rfl
          clear hrun hb HO HR
          go_upto_region 24 with (first | (refine wpList_store_row rfl 152 _ _ rfl w2.heap.size cs rfl rfl 152 zrowB (Blk.new _ _ _) hi69 hold hone ?_))
          refine gen_world (fun w' => Hid (Below w.heap.size w w')) ?_ ?_
          · have hon := only_row (w2.alloc (.cells zrowB 152)) w2.heap.size cs
            exact (HO2.out.alloc HO2.out.size _).trans (hon.below HO2.out.size)
          rintro w3 h3
          go_wp2_with fail
          exact bodyPost_ret (v := .tuple #[.slice none 0 0, .int .i64 190]) (by simp [results, Tryz.results71]) rfl (.inr ⟨HNS.out, rfl, h3⟩)
      · have e4 : ((y : Int) == 91) = false := beq_eq_false_iff_ne.2 (by omega)
        have HQ : Hid (y ≠ 42 ∧ y ≠ 63 ∧ y ≠ 91 ∧ y ≠ 92) := ⟨q3, q2, q4, q1⟩
        clear q1 q2 q3 q4
        obtain ⟨p, hp⟩ : ∃ p : Pc, p = .byte y := ⟨_, rfl⟩
        obtain ⟨cs, hcs⟩ : ∃ cs, rowRef p = cs := ⟨_, rfl⟩
        have hsz : cs.size = 258 := by rw [← hcs]; exact rowRef_size p
        have HONE : Hid (∀ u ∈ cs.toList, u.oneCell' = true) := by rw [← hcs]; exact rowRef_cells p
        have HSNOC : Hid (cellsB l ++ cs.toList = cellsB (l ++ [p])) := by show _ = _; rw [cellsB_snoc, hcs]
        have hbt : Tryz.prog.built 152 [(0, .int .i64 1), (1, .int .u8 y)] = some cs := by rw [← hcs, hp]; exact built_two 1 y
        have HPP := Lib.hid hp
        clear hcs hp
        generalize cellsB l = xs at *
        have HN : Hid (cs.toList.length = 1 * 258) := by show _ = _; rw [Array.length_toList, hsz]
        have C1 : Hid (∀ j u, cs.toList[j]? = some u → (wr.alloc (.cells cs 152)).cell? ((⟨wr.heap.size, 0, none⟩ : Addr).add j) = some u) := fun j u hu => by
          rw [add_block, (Blk.new wr cs 152).cell j, ← Array.getElem?_toList]
          exact hu
        have C3 : Hid (l.length + 1 ≤ maxLen) := by have := HJ.out; have := HLEN.out; show _ ≤ _; unfold maxLen; omega
        have C4 : Hid ((l.length + 1) * 272 ≤ 140737488355328) := by have := HJ.out; have := HLEN.out; show _ ≤ _; omega
        have C5 : Hid (w.heap.size ≤ (wr.alloc (.cells cs 152)).heap.size) := by have := HO.out.1.size; show _ ≤ _; simp; omega
        have C6 : Hid ((wr.alloc (.cells cs 152)).ownsRow w.heap.size 152 258 u4 l.length xs) := owns_chg HO.out.2 (Chg.ofBelow (S := fun _ => False) ((Below.refl _ _).alloc (Nat.le_refl _) _)) (fun _ _ h => h)
        have HBEL := Lib.hid HO.out.1
        go_wp2_with (first | (refine wpList_buildTo rfl 152 _ rfl (some 20) rfl cs (Eq.trans (congrArg (Tryz.prog.built 152) (by kernel_rfl)) hbt) ?_; simp only [Act.put, List.setIfInBounds_toArray, List.set_cons_succ, List.set_cons_zero]) | (refine wpList_build_one rfl 118 152 (.tmp 20) rfl i69 z69 258 Tryz.underlying118 HI.out.1 HI.out.2.1 HI.out.2.2.1 (by decide) (by decide) cs rfl hsz (some 21) rfl ?_; simp only [Act.put, List.setIfInBounds_toArray, List.set_cons_succ, List.set_cons_zero]) | (at_builtin; go_loud (refine wpList_append_own _ rfl (.tmp 16) (.tmp 21) 118 rfl w.heap.size 152 i69 z69 258 272 Tryz.underlying118 HI.out.1 HI.out.2.1 HI.out.2.2.1 HI.out.2.2.2.1 HI.out.2.2.2.2 (by decide) u4 l.length xs rfl C6.out ⟨wr.heap.size, 0, none⟩ 1 1 cs.toList rfl HN.out C1.out HONE.out C3.out C4.out C5.out ?_); intro v' w7 hown7 hgrow7 _; have HOWN7 := Lib.hid hown7; have HGROW7 := Lib.hid hgrow7; clear hown7 hgrow7))
        have HB7 : Hid (Below w.heap.size w w7) := HBEL.out.trans (((Below.refl _ _).alloc HBEL.out.size _).trans (grown_below C6.out HGROW7.out C5.out))
        go_roundg (s.size - (j + 1))
        case measure => omega
        case rel =>
          refine ⟨(j + 1), l ++ [p], rfl, by omega, by go_num, by have := HJ.out; simp; omega, ⟨HB7.out, ?_⟩, fun r h => HR.out r (.step HLT.out (by have hq := HQ.out; rw [HPP.out]; rw [← HY.out] at hq ⊢; exact .byte hq.1 hq.2.1 hq.2.2.1 hq.2.2.2) h)⟩
          have h := HOWN7.out
          rw [HSNOC.out] at h
          rw [List.length_append]
          exact h
    · have hlti : ¬ ((j : Int) < (s.size : Int)) := by omega
      have HLT := Lib.hid (Nat.le_of_not_lt hlt)
      clear hlt hj
      go_wp2_with fail
      exact bodyPost_ret (v := .tuple #[u4, .int .i64 0]) (by simp [results, Tryz.results71]) rfl (.inl ⟨l, u4, HR.out _ (.stop HLT.out), by have := HJ.out; omega, rfl, HO.out.1, HO.out.2⟩)
def FormPost (s : ByteArray) (w : World) (e : Ending) (w' : World) : Prop :=
  (255 < s.size ∧ e = .returned (.tuple #[.slice none 0 0, .int .i64 7]) ∧ Hid (Below w.heap.size w w')) ∨ (s.size ≤ 255 ∧ PiecesPost s w e w')
set_option maxRecDepth 100000 in
set_option maxHeartbeats 1600000 in
theorem form_any (s : ByteArray) (w : World) : Calls Tryz.prog 59 #[.string s] w (FormPost s w) := by
  by_cases h : 255 < s.size
  · have hi : (255 : Int) < (s.size : Int) := by omega
    have H := Lib.hid h
    clear h
    go_enter Tryz.func59, Tryz.ntmps59
    go_wp2_with fail
    exact bodyPost_ret (v := .tuple #[.slice none 0 0, .int .i64 7]) (by simp [results, Tryz.results59]) rfl (.inl ⟨H.out, rfl, Below.refl _ _⟩)
  · have hi : ¬ ((255 : Int) < (s.size : Int)) := by omega
    have H := Lib.hid (Nat.le_of_not_lt h)
    clear h
    go_enter Tryz.func59, Tryz.ntmps59
    go_wp2_with fail
    refine (pieces_any s _ H.out).mono ?_
    rintro e w1 (⟨l, v, h1, h2, rfl, h3, h4⟩ | ⟨h1, rfl, h2⟩)
    · have HH := Lib.hid (And.intro h1 h2)
      clear h1 h2
      go_wp2_with fail
      exact bodyPost_ret (v := .tuple #[v, .int .i64 0]) (by simp [results, Tryz.results59]) rfl (.inr ⟨H.out, .inl ⟨l, v, HH.out.1, HH.out.2, rfl, h3, h4⟩⟩)
    · have HH := Lib.hid h1
      clear h1
      go_wp2_with fail
      exact bodyPost_ret (v := .tuple #[.slice none 0 0, .int .i64 190]) (by simp [results, Tryz.results59]) rfl (.inr ⟨H.out, .inr ⟨HH.out, rfl, h2⟩⟩)
end Go.Proofs.YtcdhkeahcliefaaGreatDoor.PatPieces
