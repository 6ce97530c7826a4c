/- The compiler: all pieces of a pattern, or what it throws. -/
import Derived.Test.YtcdhkeahcliefaaPatPiece
import Derived.Laws.AppendOwn
import Derived.OwnWalk
namespace Go.Proofs.Ytcdhkeahcliefaa.PatCompile
open Go.ChangeShapes Go.WideShapes Go.ChangeAt Go.RowKit
open Go.Proofs.Ytcdhkeahcliefaa.Kit Go.Proofs.Ytcdhkeahcliefaa.Pat Go.Proofs.Ytcdhkeahcliefaa.PatA Go.Proofs.Ytcdhkeahcliefaa.PatSet Go.Proofs.Ytcdhkeahcliefaa.PatPiece
set_option linter.unusedVariables false

set_option maxRecDepth 100000 in
theorem info66 : (Try.prog.info? 66).map (fun i => (i.zero, i.size, i.bytes)) = some (some (.agg zrow), 257, 264) := by kernel_rfl
/-- a slice literal of one struct -/
theorem build_one {P : Program} {t e : TypeId} {i : TypeInfo} {z : Value} {n : Nat} (hu : P.underlying t = some (.slice e)) (hi : P.info? e = some i) (hz : i.zero = some z) (hs : i.size = n) (h0 : 0 < n) (hn : n ≤ 1000)
    (cs : Array Value) (hcs : cs.size = n) (w : World) : (Instr.buildSlice t 1 #[(0, .agg cs)]).run P w = .ok (.slice (some ⟨w.heap.size, 0, none⟩) 1 1) (w.alloc (.cells cs e)) := by
  subst hs
  refine run_buildSlice w t e 1 _ cs i z hu hi hz (by omega) (by omega) ?_
  have h   := Great.fill_whole (s := i.size) h0 [.agg cs] ((Array.range (1 * i.size)).map (z.cells[· % z.cells.size]!)) (by simpa [Value.cells] using hcs) (by simp)
  simpa [Value.cells] using h
theorem wpList_build_one {P : Program} {ops : Array Oper} {rest : List Oper} {o : Oper} {a : Act} {w : World} {Q : Exit → Act → World → Prop} (hg : o.guard = none) (t e : TypeId) (x : Operand) (ho : o.op = .buildSlice t 1 #[(0, x)])
    (i : TypeInfo) (z : Value) (n : Nat) (hu : P.underlying t = some (.slice e)) (hi : P.info? e = some i) (hz : i.zero = some z) (hs : i.size = n) (h0 : 0 < n) (hn : n ≤ 1000)
    (cs : Array Value) (hx : a.eval x = .agg cs) (hcs : cs.size = n) (d : Option Tmp) (hd : o.dst = d)
    (h : wpList P ops Q rest (a.put d (.slice (some ⟨w.heap.size, 0, none⟩) 1 1)) (w.alloc (.cells cs e))) : wpList P ops Q (o :: rest) a w := by
  subst hs hd
  refine wpList_buildSlice hg t e 1 _ ho cs i z hu hi hz (by omega) (by omega) ?_ h
  have h2 := Great.fill_whole (s := i.size) h0 [.agg cs] ((Array.range (1 * i.size)).map (z.cells[· % z.cells.size]!)) (by simpa [Value.cells] using hcs) (by simp)
  simpa [Value.cells, hx] using h2
theorem add_block (b i : Nat) : (⟨b, 0, none⟩ : Addr).add i = ⟨b, i, none⟩ := by
  unfold Addr.add
  by_cases h : i = 0
  · subst h; simp
  · simp [h]
/-- the pieces' cells, side by side -/
def cellsA (l : List Pc) : List Value := l.flatMap fun p => (rowOf p).toList
theorem cellsA_length (l : List Pc) : (cellsA l).length = l.length * 257 := by
  induction l with
  | nil => rfl
  | cons p l ih =>
    show ((rowOf p).toList ++ cellsA l).length = _
    rw [List.length_append, ih, Array.length_toList, List.length_cons, show (rowOf p).size = 257 from rowA_size _ _]
    omega
theorem cellsA_snoc (l : List Pc) (p : Pc) : cellsA (l ++ [p]) = cellsA l ++ (rowOf p).toList := by
  unfold cellsA
  rw [List.flatMap_append]
  simp
theorem rowOf_one (p : Pc) : ∀ u ∈ (rowOf p).toList, u.oneCell' = true := by
  intro u hu
  have := rowA_one (kindA p) (memA p)
  rw [Array.all_eq_true_iff_forall_mem] at this
  exact this u (Array.mem_toList_iff.1 hu)
theorem owns_apart {w : World} {base size n : Nat} {e : TypeId} {v : Value} {xs : List Value} (h : w.ownsRow base e size v n xs) : ∀ k, k < base → some k ≠ v.ownBlock := by
  intro k hk
  rcases h.2 with ⟨rfl, _⟩ | ⟨g, cap, cur, rfl, hb, _⟩
  · intro e; cases e
  · intro e
    have : k = g := by cases e; rfl
    omega
/-- what the compiler comes to -/
def CompPost (s : ByteArray) (w : World) (e : Ending) (w' : World) : Prop :=
  (∃ l v, s.size ≤ 255 ∧ Run s 0 [] (some l) ∧ l.length ≤ s.size ∧ e = .returned v ∧ Hid (Below w.heap.size w w') ∧ Hid (w'.ownsRow w.heap.size 66 257 v l.length (cellsA l))) ∨
  (s.size ≤ 255 ∧ Run s 0 [] none ∧ Threw 190 e ∧ Hid (Below w.heap.size w w')) ∨ (255 < s.size ∧ Threw 7 e ∧ Hid (Below w.heap.size w w'))
theorem below_chg {w a b : World} {C : Nat} (h : Below w.heap.size w a) (hc : Chg (fun k => k = C) a b) (hC : w.heap.size ≤ C) : Below w.heap.size w b :=
  ⟨hc.os.trans h.os, hc.tape.trans h.tape, hc.output.trans h.output, Nat.le_trans h.size hc.size, fun k hk => (hc.block k (Nat.lt_of_lt_of_le hk h.size) (by omega)).trans (h.block k hk)⟩
/-- a row of one's own stays where other blocks are written -/
theorem owns_chg {w w' : World} {S : Nat → Prop} {base size n : Nat} {e : TypeId} {v : Value} {xs : List Value} (h : w.ownsRow base e size v n xs) (hc : Chg S w w') (hS : ∀ k, base ≤ k → ¬ S k) : w'.ownsRow base e size v n xs := by
  refine ⟨h.1, ?_⟩
  rcases h.2 with h | ⟨g, cap, cur, hv, hb, hg, h1, h2, h3, h4⟩
  · exact .inl h
  · exact .inr ⟨g, cap, cur, hv, hb, (hc.block g ((Array.getElem?_eq_some_iff.1 hg).1) (hS g hb)).trans hg, h1, h2, h3, h4⟩

set_option maxRecDepth 100000 in
set_option maxHeartbeats 3200000 in
theorem compile_any (s : ByteArray) (w : World) : Calls Try.prog 23 #[.string s] w (CompPost s w) := by
  obtain ⟨i66, hi, hz0, hz1, hz2⟩ := info_parts info66
  obtain ⟨z66, hzz⟩ : ∃ z, z = Value.agg zrow := ⟨_, rfl⟩
  rw [← hzz] at hz0
  have hzc : z66.cells.size = 257 := by rw [hzz]; exact rowA_size _ _
  have HI := Lib.hid (And.intro hi (And.intro hz0 (And.intro hz1 (And.intro hz2 hzc))))
  clear hzz hzc
  by_cases hlong : 255 < s.size
  · have HL := Lib.hid hlong
    have hpn := panics 7
    clear hi hz0 hz1 hz2
    go_enter Try.func23, Try.ntmps23
    go_wp2_with fail
    exact ⟨rfl, .inr (.inr ⟨HL.out, rfl, Below.refl _ _⟩)⟩
  have hlen : s.size ≤ 255 := by omega
  clear hlong
  clear hi hz0 hz1 hz2
  go_enter Try.func23, Try.ntmps23
  go_upto_region 4 with (fail)
  obtain ⟨C, hC⟩ : ∃ C, w.heap.size = C := ⟨_, rfl⟩
  rw [hC]
  refine gen_world (fun w' => Hid (Below C w w' ∧ Cp w' C s 0)) ?_ ?_
  · subst hC
    exact ⟨(Below.refl _ _).alloc (Nat.le_refl _) _, Blk.new _ _ _⟩
  rintro w1 h1
  have HC := Lib.hid hC
  have HLEN := Lib.hid hlen
  clear hC hlen
  go_wp2_with fail
  go_loopg [4] s.size (fun g v wr => ∃ (j : Nat) (l : List Pc), g = s.size - j ∧ j ≤ s.size ∧ l.length ≤ j ∧ Hid (Below C w wr ∧ Cp wr C s j) ∧ Hid (wr.ownsRow (C + 1) 66 257 v l.length (cellsA l)) ∧ Hid (∀ r, Run s j l r → Run s 0 [] r))
  case atStart => exact ⟨0, [], rfl, Nat.zero_le _, Nat.le_refl _, h1, ⟨rfl, .inl ⟨rfl, rfl⟩⟩, fun r h => h⟩
  case round =>
    clear h1 w1
    obtain ⟨j, l, rfl, hj, hlj, h1, HO, HR⟩ := hrel
    have HJ := Lib.hid (And.intro hj hlj)
    clear hj hlj
    by_cases hlt : j < s.size
    · have HL := Lib.hid (decide_eq_true hlt)
      have HLT := Lib.hid hlt
      clear hlt
      go_wp2_with fail
      refine (more_at C s j true _ HL.out h1.out.2).mono ?_
      rintro e w2 ⟨rfl, m, rfl⟩
      have h2 : Hid (Below C w (wr.drewN m) ∧ Cp (wr.drewN m) C s j) := ⟨h1.out.1.trans (((Still.refl wr).drewN m).below C), h1.out.2⟩
      have HO2 : Hid ((wr.drewN m).ownsRow (C + 1) 66 257 u4 l.length (cellsA l)) := HO.out
      clear h1 HO
      generalize wr.drewN m = w2 at *
      go_wp2_with fail
      refine (piece_any C s j _ HLT.out (by have := HLEN.out; omega) h2.out.2).mono ?_
      rintro e w3 (⟨p, j2, hp, hj1, hj2, rfl, hk⟩ | ⟨hp, he, hk⟩)
      · have HP : Hid (Piece s j (some (p, j2)) ∧ j < j2 ∧ j2 ≤ s.size) := ⟨hp, hj1, hj2⟩
        clear hp hj1 hj2
        have h3 : Hid (Below C w w3 ∧ Cp w3 C s j2) := ⟨by have h := HC.out; subst h; exact below_chg h2.out.1 hk.out.1 (Nat.le_refl _), hk.out.2⟩
        have HO3 : Hid (w3.ownsRow (C + 1) 66 257 u4 l.length (cellsA l)) := owns_chg HO2.out hk.out.1 (fun k h1 h2 => by omega)
        clear hk HO2 h2 w2
        obtain ⟨cs, hcs⟩ : ∃ cs, rowOf p = cs := ⟨_, rfl⟩
        rw [hcs]
        have hsz : cs.size = 257 := by rw [← hcs]; exact rowA_size _ _
        have HN : Hid (cs.toList.length = 1 * 257) := by show _ = _; rw [Array.length_toList, hsz]
        have HONE : Hid (∀ u ∈ cs.toList, u.oneCell' = true) := by rw [← hcs]; exact rowOf_one p
        have HSNOC : Hid (cellsA l ++ cs.toList = cellsA (l ++ [p])) := by show _ = _; rw [cellsA_snoc, hcs]
        clear hcs
        generalize cellsA l = xs at HO3 HSNOC
        have C1 : Hid (∀ j u, cs.toList[j]? = some u → (w3.alloc (.cells cs 66)).cell? ((⟨w3.heap.size, 0, none⟩ : Addr).add j) = some u) := fun j u hu => by
          rw [add_block, (Blk.new w3 cs 66).cell j, ← Array.getElem?_toList]
          exact hu
        have C3 : Hid (l.length + 1 ≤ maxLen) := by have := HJ.out; have := HLEN.out; show _ ≤ _; unfold maxLen; omega
        have C4 : Hid ((l.length + 1) * 264 ≤ 140737488355328) := by have := HJ.out; have := HLEN.out; show _ ≤ _; omega
        have C5 : Hid (C + 1 ≤ (w3.alloc (.cells cs 66)).heap.size) := by have := h3.out.2.lt; show _ ≤ _; simp; omega
        have C6 : Hid ((w3.alloc (.cells cs 66)).ownsRow (C + 1) 66 257 u4 l.length xs) := owns_chg HO3.out (Chg.ofBelow (S := fun _ => False) ((Below.refl _ _).alloc (Nat.le_refl _) _)) (fun _ _ h => h)
        go_wp2_with (first | (refine wpList_build_one rfl 53 66 (.tmp 16) rfl i66 z66 257 Try.underlying53 HI.out.1 HI.out.2.1 HI.out.2.2.1 (by decide) (by decide) cs rfl hsz (some 17) rfl ?_; simp only [Act.put, List.setIfInBounds_toArray, List.set_cons_succ, List.set_cons_zero]) | (at_builtin; go_loud (refine wpList_append_own _ rfl (.tmp 14) (.tmp 17) 53 rfl (C + 1) 66 i66 z66 257 264 Try.underlying53 HI.out.1 HI.out.2.1 HI.out.2.2.1 HI.out.2.2.2.1 HI.out.2.2.2.2 (by decide) u4 l.length xs rfl C6.out ⟨w3.heap.size, 0, none⟩ 1 1 cs.toList rfl HN.out C1.out HONE.out C3.out C4.out C5.out ?_); intro v' w7 hown7 hgrow7 _; have HOWN7 := Lib.hid hown7; have HGROW7 := Lib.hid hgrow7; clear hown7 hgrow7))
        have hchg : Chg (fun k => C < k) (w3.alloc (.cells cs 66)) w7 := by
          have h := HGROW7.out
          exact ⟨h.os, h.tape, h.output, h.size, fun k hk hn => h.block k hk (owns_apart C6.out k (by omega))⟩
        have hal : Below C w3 (w3.alloc (.cells cs 66)) := (Below.refl _ _).alloc (Nat.le_of_lt h3.out.2.lt) _
        have hb7 : Below C w w7 := h3.out.1.trans (hal.trans ⟨hchg.os, hchg.tape, hchg.output, hchg.size, fun k hk => hchg.block k (by have := h3.out.2.lt; simp; omega) (by omega)⟩)
        have hc7 : Cp w7 C s j2 := hchg.blk (h3.out.2.alloc _) (by omega)
        go_roundg (s.size - j2)
        case measure => have := HP.out; omega
        case rel =>
          refine ⟨j2, l ++ [p], rfl, HP.out.2.2, by have := HP.out; have := HJ.out; simp; omega, ⟨hb7, hc7⟩, ?_, fun r h => HR.out r (.step HLT.out HP.out.1 h)⟩
          have h := HOWN7.out
          rw [HSNOC.out] at h
          rw [List.length_append]
          exact h
      · unfold Threw at he
        subst he
        exact ⟨rfl, .inr (.inl ⟨HLEN.out, HR.out _ (.bad HLT.out hp), rfl, by have h := HC.out; subst h; exact below_chg h2.out.1 hk.out (Nat.le_refl _)⟩)⟩
    · have HL := Lib.hid (decide_eq_false hlt)
      have HLT := Lib.hid (Nat.le_of_not_lt hlt)
      clear hlt
      go_wp2_with fail
      refine (more_at C s j false _ HL.out h1.out.2).mono ?_
      rintro e w2 ⟨rfl, m, rfl⟩
      go_wp2_with fail
      go_ret
      refine .inl ⟨l, _, HLEN.out, HR.out _ (.stop HLT.out), by have := HJ.out; omega, rfl, ?_, ?_⟩
      · have h := HC.out
        subst h
        exact h1.out.1.trans (((Still.refl wr).drewN m).below _)
      · have h := HO.out
        have hc := HC.out
        subst hc
        refine ⟨h.1, ?_⟩
        rcases h.2 with h | ⟨g, cap, cur, hv, hb, h⟩
        · exact .inl h
        · exact .inr ⟨g, cap, cur, hv, by omega, h⟩
end Go.Proofs.Ytcdhkeahcliefaa.PatCompile
