/- The document's matching: takes, of, Match. -/
import Derived.Test.YtcdhkeahcliefaaPatPieces
import Derived.StillTailTactics
import Derived.Lib.SmallJoins
namespace Go.Proofs.Ytcdhkeahcliefaa.PatRef
open Go.ChangeShapes Go.WideShapes Go.ChangeAt Go.RowKit
open Go.Proofs.Ytcdhkeahcliefaa.Kit Go.Proofs.Ytcdhkeahcliefaa.Pat Go.Proofs.Ytcdhkeahcliefaa.PatA Go.Proofs.Ytcdhkeahcliefaa.PatSet Go.Proofs.Ytcdhkeahcliefaa.PatPiece Go.Proofs.Ytcdhkeahcliefaa.PatCompile Go.Proofs.Ytcdhkeahcliefaa.PatOf Go.Proofs.Ytcdhkeahcliefaa.PatB Go.Proofs.Ytcdhkeahcliefaa.PatSets Go.Proofs.Ytcdhkeahcliefaa.PatPieces
set_option linter.unusedVariables false

def kindB : Pc → Int
  | .byte _ => 1
  | .any1 => 2
  | .star => 3
  | .stars => 4
  | .set _ => 5
def byteB : Pc → Nat
  | .byte b => b
  | _ => 0
def hasB : Pc → Nat → Bool
  | .set M => M
  | _ => fun _ => false
theorem rowRef_eq (p : Pc) : rowRef p = rowB (kindB p) (byteB p) (hasB p) := by cases p <;> rfl
set_option maxRecDepth 100000 in
set_option maxHeartbeats 1600000 in
theorem takes_any (p : Pc) (cs : Array Value) (c : Nat) (w : World) (hc : c < 256) (hcs : rowRef p = cs) :
    Calls Try.prog 32 #[.agg cs, .int .u8 c] w fun e w' => e = .returned (.bool (takes p c)) ∧ Below w.heap.size w w' := by
  have hci : (c : Int) < 256 := by omega
  have HR : Hid (cs[0]? = some (.int .i64 (kindB p)) ∧ cs[1]? = some (.int .u8 (byteB p)) ∧ cs[2 + c]? = some (.bool (hasB p c))) := by
    rw [← hcs, rowRef_eq]
    exact ⟨rfl, rfl, rowB_get _ _ _ c hc⟩
  clear hcs hc
  go_enter Try.func32, Try.ntmps32
  go_upto_region 1 with (fail)
  obtain ⟨B, hB⟩ : ∃ B, w.heap.size = B := ⟨_, rfl⟩
  rw [hB]
  refine gen_world (fun w' => Hid (Below w.heap.size w w' ∧ Blk w' B cs 69)) ?_ ?_
  · subst hB
    exact ⟨(Below.refl _ _).alloc (Nat.le_refl _) _, Blk.new _ _ _⟩
  rintro w1 h1
  have HC : Hid (w1.cell? ⟨B, 0, none⟩ = some (.int .i64 (kindB p)) ∧ w1.cell? ⟨B, 1, none⟩ = some (.int .u8 (byteB p)) ∧ w1.cell? ⟨B, 2 + c, none⟩ = some (.bool (hasB p c))) :=
    ⟨(h1.out.2.cell 0).trans HR.out.1, (h1.out.2.cell 1).trans HR.out.2.1, (h1.out.2.cell _).trans HR.out.2.2⟩
  clear HR
  cases p with
  | byte b =>
    have c0 : w1.cell? ⟨B, 0, none⟩ = some (.int .i64 1) := HC.out.1
    have c1 : w1.cell? ⟨B, 1, none⟩ = some (.int .u8 b) := HC.out.2.1
    go_wp2_with fail
    go_ret
    refine ⟨?_, h1.out.1⟩
    exact congrArg (fun b => Ending.returned (.bool b)) (int_beq c b)
  | any1 =>
    have c0 : w1.cell? ⟨B, 0, none⟩ = some (.int .i64 2) := HC.out.1
    go_wp2_with fail
    go_ret
    refine ⟨?_, h1.out.1⟩
    exact congrArg (fun b => Ending.returned (.bool b)) (by show ((c : Int) != ((47 : Nat) : Int)) = (c != 47); unfold bne; rw [int_beq])
  | star =>
    have c0 : w1.cell? ⟨B, 0, none⟩ = some (.int .i64 3) := HC.out.1
    go_wp2_with fail
    go_ret
    refine ⟨?_, h1.out.1⟩
    exact congrArg (fun b => Ending.returned (.bool b)) (by show ((c : Int) != ((47 : Nat) : Int)) = (c != 47); unfold bne; rw [int_beq])
  | stars =>
    have c0 : w1.cell? ⟨B, 0, none⟩ = some (.int .i64 4) := HC.out.1
    go_wp2_with fail
    go_ret
    exact ⟨rfl, h1.out.1⟩
  | set M =>
    have c0 : w1.cell? ⟨B, 0, none⟩ = some (.int .i64 5) := HC.out.1
    have c2 : w1.cell? ⟨B, 2 + c, none⟩ = some (.bool (M c)) := HC.out.2.2
    generalize hm : M c = m at c2
    have HM := Lib.hid hm
    clear hm
    go_wp2_with fail
    go_ret
    exact ⟨by show _ = Ending.returned (.bool (M c)); rw [HM.out]; rfl, h1.out.1⟩
/-- the row before round k: the places up to k that are come to (of a star: the k-th not yet) -/
def headS (p : Pc) (t : ByteArray) (S : Nat → Bool) : Nat → Nat → Bool
  | 0 => fun _ => false
  | k + 1 => upd (cutLe k (Pat.step p t S)) (k + 1) ((if many p then Pat.step p t S k else S k) && takes p (gb t k))
theorem head_succ (p : Pc) (t : ByteArray) (S : Nat → Bool) (k j : Nat) : headS p t S (k + 1) j = if j = k + 1 then ((if many p then Pat.step p t S k else S k) && takes p (gb t k)) else cutLe k (Pat.step p t S) j := rfl
theorem head_at (p : Pc) (t : ByteArray) (S : Nat → Bool) (k : Nat) : Pat.step p t S k = (if many p then (S k || headS p t S k k) else headS p t S k k) := by
  unfold Pat.step
  cases hm : many p with
  | true =>
    cases k with
    | zero => simp [stepM, headS]
    | succ k => simp [stepM, headS, upd, Pat.step, hm]
  | false =>
    cases k with
    | zero => simp [step1, headS]
    | succ k => simp [step1, headS, upd, hm]
theorem head_below (p : Pc) (t : ByteArray) (S : Nat → Bool) (k j : Nat) (h : j < k) : headS p t S k j = Pat.step p t S j := by
  cases k with
  | zero => omega
  | succ k =>
    rw [head_succ, if_neg (by omega)]
    unfold cutLe
    simp
    omega
theorem head_above (p : Pc) (t : ByteArray) (S : Nat → Bool) (k j : Nat) (h : k < j) : headS p t S k j = false := by
  cases k with
  | zero => rfl
  | succ k =>
    rw [head_succ, if_neg (by omega)]
    unfold cutLe
    simp
    omega
theorem head_same (p : Pc) (t : ByteArray) (S : Nat → Bool) (k : Nat) (h : headS p t S k k = Pat.step p t S k) : headS p t S k = cutLe k (Pat.step p t S) := by
  funext j
  by_cases hj : j < k
  · rw [head_below _ _ _ _ _ hj]
    unfold cutLe
    simp
    omega
  by_cases hk : k < j
  · rw [head_above _ _ _ _ _ hk]
    unfold cutLe
    simp
    omega
  obtain rfl : j = k := by omega
  rw [h]
  unfold cutLe
  simp
theorem head_set (p : Pc) (t : ByteArray) (S : Nat → Bool) (k : Nat) (h : Pat.step p t S k = true) : upd (headS p t S k) k true = cutLe k (Pat.step p t S) := by
  funext j
  unfold upd
  by_cases hj : j = k
  · subst hj
    rw [if_pos rfl]
    unfold cutLe
    simp [h]
  · rw [if_neg hj]
    by_cases hlt : j < k
    · rw [head_below _ _ _ _ _ hlt]
      unfold cutLe
      simp
      omega
    · rw [head_above _ _ _ _ _ (by omega)]
      unfold cutLe
      simp
      omega
theorem head_next (p : Pc) (t : ByteArray) (S : Nat → Bool) (k : Nat) (g m : Bool) (hg : (if many p then Pat.step p t S k else S k) = g) (hm : takes p (gb t k) = m) (h : (g && m) = false) : cutLe k (Pat.step p t S) = headS p t S (k + 1) := by
  funext j
  rw [head_succ]
  by_cases hj : j = k + 1
  · subst hj
    rw [if_pos rfl, hg, hm, h]
    unfold cutLe
    rw [decide_eq_false (by omega), Bool.false_and]
  · rw [if_neg hj]
theorem head_yes (p : Pc) (t : ByteArray) (S : Nat → Bool) (k : Nat) (hg : (if many p then Pat.step p t S k else S k) = true) (hm : takes p (gb t k) = true) : upd (cutLe k (Pat.step p t S)) (k + 1) true = headS p t S (k + 1) := by
  funext j
  rw [head_succ, hg, hm]
  rfl
/-- a piece's cells in the row -/
theorem cells_atB {l : List Pc} {k : Nat} (hk : k < l.length) : ∀ (cells : List Value), cellsB l <+: cells → ∀ j v, (rowRef l[k]).toList[j]? = some v → cells[k * 258 + j]? = some v := by
  intro cells hp j v hv
  have hj : j < 258 := by
    have := (List.getElem?_eq_some_iff.1 hv).1
    rw [Array.length_toList, rowRef_size] at this
    exact this
  have h : (cellsB l)[k * 258 + j]? = some v := by
    clear hp
    induction l generalizing k with
    | nil => exact absurd hk (Nat.not_lt_zero k)
    | cons p l ih =>
      have hpl : (rowRef p).toList.length = 258 := by rw [Array.length_toList]; exact rowRef_size _
      show ((rowRef p).toList ++ cellsB l)[k * 258 + j]? = some v
      cases k with
      | zero => rw [Nat.zero_mul, Nat.zero_add, List.getElem?_append_left (by omega)]; exact hv
      | succ k =>
        rw [List.getElem?_append_right (by omega), hpl, show (k + 1) * 258 + j - 258 = k * 258 + j from by omega]
        exact ih (by simpa using hk) hv
  obtain ⟨r, rfl⟩ := hp
  rw [List.getElem?_append_left (List.getElem?_eq_some_iff.1 h).1]
  exact h
theorem add_mid (g m j : Nat) : (⟨g, m, none⟩ : Addr).add j = ⟨g, m + j, none⟩ := by
  unfold Addr.add
  by_cases h : j = 0
  · subst h; simp
  · simp [h]
/-- what is known in the middle of a round -/
def Rt (n : Nat) (w wr : World) (B H N : Nat) (S F : Nat → Bool) : Prop := Below B w wr ∧ Blk wr H (boolsA n S) 4 ∧ Blk wr N (boolsA n F) 4
theorem Rt.put {n : Nat} {w wr : World} {B H N : Nat} {S F : Nat → Bool} (h : Rt n w wr B H N S F) (hr : B ≤ N ∧ H ≠ N) (i : Nat) (v : Bool) : Rt n w (wr.setCell ⟨N, i, none⟩ (.bool v)) B H N S (upd F i v) := by
  refine ⟨h.1.setCell hr.1 _, h.2.1.far hr.2 _, ?_⟩
  have := h.2.2.put i (.bool v)
  rw [boolsA_put] at this
  exact this
theorem Rt.congr {n : Nat} {w wr : World} {B H N : Nat} {S F F' : Nat → Bool} (h : Rt n w wr B H N S F) (e : ∀ i, i < n → F i = F' i) : Rt n w wr B H N S F' :=
  ⟨h.1, h.2.1, by rw [← boolsA_congr e]; exact h.2.2⟩
theorem Rt.below {n : Nat} {w wr w' : World} {B H N : Nat} {S F : Nat → Bool} (h : Rt n w wr B H N S F) (hb : Below wr.heap.size wr w') (hB : B ≤ wr.heap.size) : Rt n w w' B H N S F :=
  ⟨h.1.trans (hb.mono hB), h.2.1.below hb h.2.1.lt, h.2.2.below hb h.2.2.lt⟩
theorem Rt.drewN {n : Nat} {w wr : World} {B H N : Nat} {S F : Nat → Bool} (h : Rt n w wr B H N S F) (m : Nat) : Rt n w (wr.drewN m) B H N S F := ⟨h.1.trans (((Still.refl wr).drewN m).below B), h.2⟩
theorem Rt.drew {n : Nat} {w wr : World} {B H N : Nat} {S F : Nat → Bool} (h : Rt n w wr B H N S F) : Rt n w wr.drew B H N S F := ⟨h.1.drew, h.2⟩

/-- the quiet walk of a region's first operations, behind a name that is not opened -/
structure Walked (P : Program) (ops : Array Oper) (w : World) (Q : Act → Prop) (l : List Oper) (a : Act) : Prop where
  out : wpStill P ops w Q l a
theorem walked_skip {P : Program} {ops : Array Oper} {w : World} {Q : Act → Prop} {a : Act} {o : Oper} {rest : List Oper} (hw : Region.wanted o (yielded ops a.tmps) = false) (d : Option Tmp) (hd : o.dst = d)
    (h : Walked P ops w Q rest (a.put d undef)) : Walked P ops w Q (o :: rest) a := by
  subst hd
  refine ⟨?_⟩
  unfold wpStill
  rw [if_neg (by rw [hw]; decide)]
  exact h.out
theorem walked_take {P : Program} {ops : Array Oper} {w : World} {Q : Act → Prop} {a : Act} {o : Oper} {rest : List Oper} (hw : Region.wanted o (yielded ops a.tmps) = true)
    (h : ∀ K : Act → Prop, (∀ a, Walked P ops w Q rest a → K a) → o.still P a w K) : Walked P ops w Q (o :: rest) a := by
  refine ⟨?_⟩
  unfold wpStill
  rw [if_pos hw]
  exact h _ fun a h => h.out
theorem walked_nil {P : Program} {ops : Array Oper} {w : World} {Q : Act → Prop} {a : Act} (h : Q a) : Walked P ops w Q [] a := ⟨h⟩
theorem still_load {P : Program} {op : Oper} {a : Act} {w : World} {next : Act → Prop} (ty : TypeId) (x : Operand) (ho : op.op = .load ty x)
    (ad : Addr) (hx : a.eval x = .pointer (some ad)) (cs : List Value) (d : TypeDesc) (hc : ∀ j v, cs[j]? = some v → w.cell? (ad.add j) = some v)
    (hu : P.underlying ty = some d) (hd : d.isRow = true) (hi : (P.info? ty).map (·.size) = some cs.length) (t : Option Tmp) (ht : op.dst = t)
    (h : next (a.put t (.agg cs.toArray))) : op.still P a w next := by
  subst ht
  unfold Oper.still execOp
  simp only [ho, hx, Instr.loadAt, Instr.sureAddr, Sem.run_bind, Sem.run_pure, Result.andThen_ok, run_load_any w ad ty cs d hc hu hd hi]
  exact ⟨rfl, h⟩

set_option maxRecDepth 100000 in
set_option maxHeartbeats 6400000 in
theorem of_some (g cap : Nat) (cur : Array Value) (l : List Pc) (t : ByteArray) (w : World) (ht : t.size ≤ 1023) (hl : l.length ≤ 255) (hcap : l.length ≤ cap) (hK : Hid (Blk w g cur 69)) (hcells : cellsB l <+: cur.toList) :
    Calls Try.prog 26 #[.slice (some ⟨g, 0, none⟩) l.length cap, .string t] w (OfPost l t w) := by
  have hmk : ∀ w, (Instr.makeSlice 44 (.int .i64 ((t.size : Int) + 1)) (.int .i64 ((t.size : Int) + 1))).run Try.prog w = .ok (.slice (some ⟨w.heap.size, 0, none⟩) (t.size + 1) (t.size + 1)) (w.alloc (.cells (boolsA (t.size + 1) fun _ => false) 4)) := fun w => make_bools _ _ (by omega) (by omega) w
  have HC := Lib.hid hcells
  clear hcells
  have ht9 : (t.size : Int) ≤ 1023 := by omega
  obtain ⟨B, hB⟩ : ∃ B, w.heap.size = B := ⟨_, rfl⟩
  have HB := Lib.hid hB
  clear hB
  go_enter Try.func26, Try.ntmps26
  go_upto_region 2 with (fail)
  rw [HB.out]
  refine gen_world (fun w' => Hid (Below B w w' ∧ Blk w' B (boolsA (t.size + 1) fun _ => false) 4)) ?_ ?_
  · have h := HB.out
    subst h
    exact ⟨(Below.refl _ _).alloc (Nat.le_refl _) _, Blk.new _ _ _⟩
  rintro w1 h1
  have c0 : w1.cell? ⟨B, 0, none⟩ = some (.bool false) := (h1.out.2.cell 0).trans (boolsA_get _ _ 0 (by omega))
  have f0 := h1.out.2.frozen 0
  go_upto_region 3 with (fail)
  refine gen_world (fun w' => Hid (Below B w w' ∧ Blk w' B (boolsA (t.size + 1) atZero) 4)) ?_ ?_
  · refine ⟨h1.out.1.setCell (Nat.le_refl _) _, ?_⟩
    have := h1.out.2.put 0 (.bool true)
    rw [boolsA_put] at this
    rw [boolsA_congr (S' := upd (fun _ => false) 0 true) fun i _ => ?_]
    · exact this
    · unfold atZero upd
      by_cases h : i = 0
      · subst h; rfl
      · simp [h]
  clear c0 f0 h1 w1
  rintro w1 h1
  have HL9 := Lib.hid hl
  have HCAP := Lib.hid hcap
  have HT9 := Lib.hid ht
  clear hl hcap ht
  have HK2 : Hid (g < B) := by have := hK.out.lt; have := HB.out; show _ < _; omega
  go_wp2_with fail
  go_loopg [6, 5] l.length (fun gk i here wr => ∃ (k H : Nat), gk = l.length - k ∧ k ≤ l.length ∧ i = .int .i64 k ∧ here = .slice (some ⟨H, 0, none⟩) (t.size + 1) (t.size + 1) ∧ Hid (B ≤ H ∧ Below B w wr ∧ Blk wr H (boolsA (t.size + 1) (reach t atZero (l.take k))) 4))
  case atStart => exact ⟨0, B, rfl, Nat.zero_le _, rfl, rfl, Nat.le_refl _, h1.out⟩
  case round =>
    clear h1 w1
    obtain ⟨k, H, rfl, hk, rfl, rfl, h1⟩ := hrel
    have hk9 : (k : Int) ≤ 1000 := by have := HL9.out; omega
    by_cases hlt : k < l.length
    · have HCE : Hid (∀ wq, Below B w wq → ∀ j v, (rowRef l[k]).toList[j]? = some v → wq.cell? ⟨g, k * 258 + j, none⟩ = some v) := fun wq hb j v hv => by
        have h := cells_atB hlt cur.toList HC.out j v hv
        rw [(hK.out.below hb HK2.out).cell, ← Array.getElem?_toList]
        exact h
      have HTK : Hid (reach t atZero (l.take (k + 1)) = Pat.step l[k] t (reach t atZero (l.take k))) := by
        show _ = _
        rw [List.take_succ_eq_append_getElem hlt, reach_snoc]
      generalize l[k] = p at *
      generalize reach t atZero (l.take k) = S at *
      obtain ⟨cs, hcs⟩ : ∃ cs, rowRef p = cs := ⟨_, rfl⟩
      rw [hcs] at HCE
      have HCS := Lib.hid hcs
      have HKI : Hid (cs[0]? = some (.int .i64 (kindB p))) := by rw [← hcs, rowRef_eq]; rfl
      clear hcs
      have hlti : (k : Int) < (l.length : Int) := by omega
      obtain ⟨m, hm⟩ : ∃ m, many p = m := ⟨_, rfl⟩
      have HM := Lib.hid hm
      clear hm
      go_upto_region 7 with (fail)
      obtain ⟨N, hN⟩ : ∃ N, wr.heap.size = N := ⟨_, rfl⟩
      rw [hN]
      refine gen_world (fun w' => Hid (Rt (t.size + 1) w w' B H N S (fun _ => false))) ?_ ?_
      · have hlt := h1.out.2.2.lt
        subst hN
        exact ⟨h1.out.2.1.alloc (by have := h1.out.1; omega) _, h1.out.2.2.alloc _, Blk.new _ _ _⟩
      have HRK : Hid (B ≤ N ∧ H ≠ N) := by
        have hlt := h1.out.2.2.lt
        have := h1.out.1
        exact ⟨by omega, by omega⟩
      clear hN h1 wr
      rintro wr h1
      go_cut [8] (fun v wc => v = .bool m ∧ wr = wc)
      case first =>
        have ck : wr.cell? ⟨g, k * 258, none⟩ = some (.int .i64 (kindB p)) := HCE.out wr h1.out.1 0 _ (by rw [Array.getElem?_toList]; exact HKI.out)
        have HMM : Hid (kindB p = 3 ∧ m = true ∨ kindB p = 4 ∧ m = true ∨ (kindB p ≠ 3 ∧ kindB p ≠ 4 ∧ m = false)) := by
          rw [← HM.out]
          cases p with
          | star => exact .inl ⟨rfl, rfl⟩
          | stars => exact .inr (.inl ⟨rfl, rfl⟩)
          | byte b => exact .inr (.inr ⟨by show (1 : Int) ≠ 3; decide, by show (1 : Int) ≠ 4; decide, rfl⟩)
          | any1 => exact .inr (.inr ⟨by show (2 : Int) ≠ 3; decide, by show (2 : Int) ≠ 4; decide, rfl⟩)
          | set M => exact .inr (.inr ⟨by show (5 : Int) ≠ 3; decide, by show (5 : Int) ≠ 4; decide, rfl⟩)
        generalize kindB p = kd at *
        rcases HMM.out with ⟨h3, hm⟩ | ⟨h4, hm⟩ | ⟨h3, h4, hm⟩
        · subst h3 hm
          go_wp2_with fail
          go_meet
          case rel => exact ⟨rfl, rfl⟩
        · subst h4 hm
          go_wp2_with fail
          go_meet
          case rel => exact ⟨rfl, rfl⟩
        · have q3 : (kd == 3) = false := beq_eq_false_iff_ne.2 h3
          have q4 : (kd == 4) = false := beq_eq_false_iff_ne.2 h4
          subst hm
          clear h3 h4
          go_wp2_with fail
          go_meet
          case rel => exact ⟨rfl, rfl⟩
      case rest =>
        obtain ⟨rfl, rfl⟩ := hcut
        clear HKI
        go_wp2_with fail
        go_loopg [9] (t.size + 1) (fun gi i wq => ∃ (j : Nat), gi = t.size + 1 - j ∧ j ≤ t.size + 1 ∧ i = .int .i64 j ∧ Hid (Rt (t.size + 1) w wq B H N S (headS p t S j)))
        case atStart => exact ⟨0, rfl, Nat.zero_le _, rfl, h1⟩
        case round =>
          clear h1
          obtain ⟨j, rfl, hj, rfl, h1⟩ := hrel
          by_cases hjn : j < t.size + 1
          · have hjni : (j : Int) ≤ (t.size : Int) := by omega
            have HJN := Lib.hid hjn
            clear hjn hj
            obtain ⟨sb, hsb⟩ : ∃ b, S j = b := ⟨_, rfl⟩
            have HSB := Lib.hid hsb
            clear hsb
            go_upto_region 11 with (fail)
            go_cut [52] (fun v wc => v = .bool (sb && m) ∧ wr = wc)
            case first =>
              have cH : wr.cell? ⟨H, j, none⟩ = some (.bool sb) := (h1.out.2.1.cell j).trans ((boolsA_get _ _ j HJN.out).trans (by rw [HSB.out]))
              cases sb
              · go_wp2_with fail
                go_meet
                case rel => exact ⟨rfl, rfl⟩
              · go_wp2_with fail
                go_meet
                case rel => exact ⟨rfl, rfl⟩
            case rest =>
              obtain ⟨rfl, rfl⟩ := hcut
              go_upto_if 52 with (fail)
              go_cut [] (fun wc => Hid (Rt (t.size + 1) w wc B H N S (cutLe j (Pat.step p t S))))
              case first =>
                have cN : wr.cell? ⟨N, j, none⟩ = some (.bool (headS p t S j j)) := (h1.out.2.2.cell j).trans (boolsA_get _ _ j HJN.out)
                have fN := h1.out.2.2.frozen j
                have HA := Lib.hid (head_at p t S j)
                rw [HM.out, HSB.out] at HA
                have HSET := Lib.hid (head_set p t S j)
                have HSAME := Lib.hid (head_same p t S j)
                generalize headS p t S j j = hd at *
                cases sb <;> cases m
                · go_wp2_with fail
                  go_meet
                  case rel => rw [← HSAME.out HA.out.symm]; exact h1
                · go_wp2_with fail
                  go_meet
                  case rel => rw [← HSAME.out HA.out.symm]; exact h1
                · go_wp2_with fail
                  go_meet
                  case rel => rw [← HSAME.out HA.out.symm]; exact h1
                · go_wp2_with fail
                  go_meet
                  case rel => rw [← HSET.out HA.out]; exact h1.out.put HRK.out j true
              case rest =>
                clear h1
                have h1 := hcut
                clear hcut
                obtain ⟨nb, hnb⟩ : ∃ b, Pat.step p t S j = b := ⟨_, rfl⟩
                have HNB := Lib.hid hnb
                clear hnb
                obtain ⟨gd, hgd⟩ : ∃ b, (decide (j < t.size) && ((if m then nb else sb) && takes p (gb t j))) = b := ⟨_, rfl⟩
                have HGD := Lib.hid hgd
                clear hgd
                go_upto_region 13 with (fail)
                go_cut [84] (fun v wq => v = .bool gd ∧ Hid (Rt (t.size + 1) w wq B H N S (cutLe j (Pat.step p t S))))
                case first =>
                  have cH : wc.cell? ⟨H, j, none⟩ = some (.bool sb) := (h1.out.2.1.cell j).trans ((boolsA_get _ _ j HJN.out).trans (by rw [HSB.out]))
                  have cN : wc.cell? ⟨N, j, none⟩ = some (.bool nb) := (h1.out.2.2.cell j).trans ((boolsA_get _ _ j HJN.out).trans (by unfold cutLe; rw [HNB.out]; simp))
                  by_cases hjt : j < t.size
                  · have hjti : (j : Int) < (t.size : Int) := by omega
                    have hx := index_gb t j hjt
                    have hy9 := gb_lt t j
                    have HGB : Hid (((if m then nb else sb) && takes p (gb t j)) = gd) := by have h := HGD.out; rw [decide_eq_true hjt, Bool.true_and] at h; exact h
                    generalize gb t j = y at *
                    clear hjt
                    have hsz : cs.size = 258 := by rw [← HCS.out]; exact rowRef_size p
                    have hi69l : (Try.prog.info? 69).map (·.size) = some cs.toList.length := by rw [Array.length_toList, hsz]; kernel_rfl
                    clear hsz
                    cases sb
                    · cases m
                      · obtain rfl : gd = false := HGB.out.symm.trans (by simp)
                        have b1 : (j : Int) < (t.size : Int) + 1 := by omega
                        go_wp2_with fail
                        go_quiet (fail)
                        go_wp2_with fail
                        go_meet
                        case rel => exact ⟨rfl, h1.out.drewN _⟩
                      · cases nb
                        · obtain rfl : gd = false := HGB.out.symm.trans (by simp)
                          have b1 : (j : Int) < (t.size : Int) + 1 := by omega
                          go_wp2_with fail
                          go_quiet (fail)
                          go_wp2_with fail
                          go_meet
                          case rel => exact ⟨rfl, h1.out.drewN _⟩
                        · have hq : takes p y = gd := by have h := HGB.out; simpa using h
                          have HQ := Lib.hid hq
                          clear hq
                          have b0 : (0 : Int) ≤ (j : Int) := by omega
                          have b1 : (j : Int) < (t.size : Int) + 1 := by omega
                          have b2 : (0 : Int) ≤ (k : Int) := by omega
                          go_wp2_with fail
                          have HLD : Hid (∀ j v, cs.toList[j]? = some v → wc.drew.cell? ((⟨g, k * 258, none⟩ : Addr).add j) = some v) := fun j v hv => by
                            rw [add_mid]
                            exact HCE.out wc.drew h1.out.1.drew j v hv
                          have cH2 : wc.drew.cell? ⟨H, j, none⟩ = some (.bool false) := cH
                          have cN2 : wc.drew.cell? ⟨N, j, none⟩ = some (.bool true) := cN
                          have h2 : Hid (Rt (t.size + 1) w wc.drew B H N S (cutLe j (Pat.step p t S))) := h1.out.drew
                          clear cH cN h1
                          refine wp_region_still_tail 27 (by kernel_rfl) (by kernel_rfl) ?_
                          simp only [List.take_succ_cons, List.take_zero, List.drop_succ_cons, List.drop_zero]
                          refine Walked.out (w := wc.drew) ?_
                          iterate 23 (refine walked_take (by kernel_rfl) (fun K hK => ?_); go_simp; refine hK _ ?_; clear hK K)
                          refine walked_take (by kernel_rfl) (fun K hK => still_load 69 _ rfl ⟨g, k * 258, none⟩ rfl cs.toList _ HLD.out Try.underlying69 rfl hi69l (some 79) rfl (hK _ ?_))
                          simp only [Act.put, List.setIfInBounds_toArray, List.set_cons_succ, List.set_cons_zero]
                          iterate 3 (refine walked_take (by kernel_rfl) (fun K hK => ?_); go_simp; refine hK _ ?_; clear hK K)
                          refine walked_nil ?_
                          change wpList _ _ _ _ _ wc.drew
                          clear cH2 cN2 HLD
                          generalize wc.drew = w2 at h2 ⊢
                          go_wp2_with fail
                          refine (takes_any p cs y _ hy9 HCS.out).mono ?_
                          rw [HQ.out]
                          rintro e w4 ⟨rfl, hb4⟩
                          have h4 : Hid (Rt (t.size + 1) w w4 B H N S (cutLe j (Pat.step p t S))) := h2.out.below hb4 (by have := h2.out.1.size; have := HB.out; omega)
                          clear h2 hb4
                          go_wp2_with fail
                          go_meet
                          case rel => exact ⟨rfl, h4⟩
                    · have hq : takes p y = gd := by
                        have h := HGB.out
                        have hat := head_at p t S j
                        rw [HNB.out, HM.out, HSB.out] at hat
                        cases m
                        · simpa using h
                        · simp at hat
                          subst hat
                          simpa using h
                      have HQ := Lib.hid hq
                      clear hq
                      have b0 : (0 : Int) ≤ (j : Int) := by omega
                      have b1 : (j : Int) < (t.size : Int) + 1 := by omega
                      have b2 : (0 : Int) ≤ (k : Int) := by omega
                      go_wp2_with fail
                      have HLD : Hid (∀ j v, cs.toList[j]? = some v → wc.drew.cell? ((⟨g, k * 258, none⟩ : Addr).add j) = some v) := fun j v hv => by
                        rw [add_mid]
                        exact HCE.out wc.drew h1.out.1.drew j v hv
                      have cH2 : wc.drew.cell? ⟨H, j, none⟩ = some (.bool true) := cH
                      have cN2 : wc.drew.cell? ⟨N, j, none⟩ = some (.bool nb) := cN
                      have h2 : Hid (Rt (t.size + 1) w wc.drew B H N S (cutLe j (Pat.step p t S))) := h1.out.drew
                      clear cH cN h1
                      refine wp_region_still_tail 27 (by kernel_rfl) (by kernel_rfl) ?_
                      simp only [List.take_succ_cons, List.take_zero, List.drop_succ_cons, List.drop_zero]
                      refine Walked.out (w := wc.drew) ?_
                      iterate 10 (refine walked_take (by kernel_rfl) (fun K hK => ?_); go_simp; refine hK _ ?_; clear hK K)
                      refine walked_skip (by kernel_rfl) (some 66) rfl ?_
                      refine walked_skip (by kernel_rfl) (some 67) rfl ?_
                      refine walked_skip (by kernel_rfl) (some 68) rfl ?_
                      refine walked_skip (by kernel_rfl) (some 69) rfl ?_
                      refine walked_skip (by kernel_rfl) (some 70) rfl ?_
                      refine walked_skip (by kernel_rfl) (some 71) rfl ?_
                      refine walked_skip (by kernel_rfl) (some 72) rfl ?_
                      simp only [Act.put, List.setIfInBounds_toArray, List.set_cons_succ, List.set_cons_zero]
                      iterate 6 (refine walked_take (by kernel_rfl) (fun K hK => ?_); go_simp; refine hK _ ?_; clear hK K)
                      refine walked_take (by kernel_rfl) (fun K hK => still_load 69 _ rfl ⟨g, k * 258, none⟩ rfl cs.toList _ HLD.out Try.underlying69 rfl hi69l (some 79) rfl (hK _ ?_))
                      simp only [Act.put, List.setIfInBounds_toArray, List.set_cons_succ, List.set_cons_zero]
                      iterate 3 (refine walked_take (by kernel_rfl) (fun K hK => ?_); go_simp; refine hK _ ?_; clear hK K)
                      refine walked_nil ?_
                      change wpList _ _ _ _ _ wc.drew
                      clear cH2 cN2 HLD
                      generalize wc.drew = w2 at h2 ⊢
                      go_wp2_with fail
                      refine (takes_any p cs y _ hy9 HCS.out).mono ?_
                      rw [HQ.out]
                      rintro e w4 ⟨rfl, hb4⟩
                      have h4 : Hid (Rt (t.size + 1) w w4 B H N S (cutLe j (Pat.step p t S))) := h2.out.below hb4 (by have := h2.out.1.size; have := HB.out; omega)
                      clear h2 hb4
                      go_wp2_with fail
                      go_meet
                      case rel => exact ⟨rfl, h4⟩
                  · have hjti : decide (j < t.size) = false := decide_eq_false hjt
                    obtain rfl : gd = false := HGD.out.symm.trans (by simp [hjt])
                    clear hjt
                    go_wp2_with fail
                    go_quiet (fail)
                    go_wp2_with fail
                    go_meet
                    case rel => exact ⟨rfl, h1.out.drewN _⟩
                case rest =>
                  clear h1
                  obtain ⟨rfl, h1⟩ := hcut
                  cases gd
                  · have HNX : Hid (∀ i, i < t.size + 1 → cutLe j (Pat.step p t S) i = headS p t S (j + 1) i) := fun i hi => by
                      by_cases hjt : j < t.size
                      · have h := HGD.out
                        rw [decide_eq_true hjt, Bool.true_and] at h
                        exact congrFun (head_next p t S j (if m then nb else sb) (takes p (gb t j)) (by rw [HM.out, HNB.out, HSB.out]) rfl h) i
                      · rw [head_below _ _ _ _ _ (by have := HJN.out; omega)]
                        unfold cutLe
                        rw [decide_eq_true (by have := HJN.out; omega), Bool.true_and]
                    go_wp2_with fail
                    go_roundg (t.size + 1 - (j + 1))
                    case measure => have := HJN.out; omega
                    case rel => exact ⟨j + 1, rfl, HJN.out, by go_num, h1.out.congr HNX.out⟩
                  · have HG : Hid (j < t.size ∧ (if m then nb else sb) = true ∧ takes p (gb t j) = true) := by
                      have h := HGD.out
                      simp only [Bool.and_eq_true, decide_eq_true_eq] at h
                      exact h
                    have HNX := Lib.hid (head_yes p t S j (by rw [HM.out, HNB.out, HSB.out]; exact HG.out.2.1) HG.out.2.2)
                    have cN : wc.cell? ⟨N, j + 1, none⟩ = some (.bool (cutLe j (Pat.step p t S) (j + 1))) := (h1.out.2.2.cell _).trans (boolsA_get _ _ _ (by have := HG.out.1; omega))
                    have fN := h1.out.2.2.frozen (j + 1)
                    have hjti : (j : Int) < (t.size : Int) := by have := HG.out.1; omega
                    generalize cutLe j (Pat.step p t S) (j + 1) = z at cN
                    go_wp2_with fail
                    go_roundg (t.size + 1 - (j + 1))
                    case measure => have := HJN.out; omega
                    case rel => exact ⟨j + 1, rfl, HJN.out, by go_num, by rw [← HNX.out]; exact h1.out.put HRK.out (j + 1) true⟩
          · have hjni : ¬ ((j : Int) ≤ (t.size : Int)) := by omega
            have HJ : Hid (j = t.size + 1) := by show _ = _; omega
            clear hjn hj
            go_wp2_with fail
            go_roundg (l.length - (k + 1))
            case measure => omega
            case rel =>
              refine ⟨k + 1, N, rfl, by omega, by go_num, rfl, HRK.out.1, h1.out.1, ?_⟩
              rw [HTK.out]
              refine (h1.out.congr (F' := Pat.step p t S) fun i hi => ?_).2.2
              rw [HJ.out]
              exact head_below _ _ _ _ _ hi
    · obtain rfl : k = l.length := by omega
      have ce : wr.cell? ⟨H, t.size, none⟩ = some (.bool (isOf l t)) := by
        have h := (h1.out.2.2.cell t.size).trans (boolsA_get _ _ _ (by omega))
        rw [List.take_length] at h
        exact h
      obtain ⟨b, hb⟩ : ∃ b, isOf l t = b := ⟨_, rfl⟩
      rw [hb] at ce
      have HBB := Lib.hid hb
      clear hb
      go_wp2_with fail
      go_ret
      refine ⟨by rw [HBB.out]; rfl, ?_⟩
      rw [HB.out]
      exact h1.out.2.1
set_option maxRecDepth 100000 in
set_option maxHeartbeats 3200000 in
theorem of_none (t : ByteArray) (w : World) (ht : t.size ≤ 1023) : Calls Try.prog 26 #[.slice none 0 0, .string t] w (OfPost [] t w) := by
  have hmk : ∀ w, (Instr.makeSlice 44 (.int .i64 ((t.size : Int) + 1)) (.int .i64 ((t.size : Int) + 1))).run Try.prog w = .ok (.slice (some ⟨w.heap.size, 0, none⟩) (t.size + 1) (t.size + 1)) (w.alloc (.cells (boolsA (t.size + 1) fun _ => false) 4)) := fun w => make_bools _ _ (by omega) (by omega) w
  have ht9 : (t.size : Int) ≤ 1023 := by omega
  obtain ⟨B, hB⟩ : ∃ B, w.heap.size = B := ⟨_, rfl⟩
  have HB := Lib.hid hB
  clear hB
  go_enter Try.func26, Try.ntmps26
  go_upto_region 2 with (fail)
  rw [HB.out]
  refine gen_world (fun w' => Hid (Below B w w' ∧ Blk w' B (boolsA (t.size + 1) fun _ => false) 4)) ?_ ?_
  · have h := HB.out
    subst h
    exact ⟨(Below.refl _ _).alloc (Nat.le_refl _) _, Blk.new _ _ _⟩
  rintro w1 h1
  have c0 : w1.cell? ⟨B, 0, none⟩ = some (.bool false) := (h1.out.2.cell 0).trans (boolsA_get _ _ 0 (by omega))
  have f0 := h1.out.2.frozen 0
  go_upto_region 3 with (fail)
  refine gen_world (fun w' => Hid (Below B w w' ∧ Blk w' B (boolsA (t.size + 1) atZero) 4)) ?_ ?_
  · refine ⟨h1.out.1.setCell (Nat.le_refl _) _, ?_⟩
    have := h1.out.2.put 0 (.bool true)
    rw [boolsA_put] at this
    rw [boolsA_congr (S' := upd (fun _ => false) 0 true) fun i _ => ?_]
    · exact this
    · unfold atZero upd
      by_cases h : i = 0
      · subst h; rfl
      · simp [h]
  clear c0 f0 h1 w1
  rintro w1 h1
  go_wp2_with fail
  go_loopg [6, 5] 0 (fun gk i here wr => i = .int .i64 0 ∧ here = .slice (some ⟨B, 0, none⟩) (t.size + 1) (t.size + 1) ∧ w1 = wr)
  case atStart => exact ⟨rfl, rfl, rfl⟩
  case round =>
    obtain ⟨rfl, rfl, rfl⟩ := hrel
    have ce : w1.cell? ⟨B, t.size, none⟩ = some (.bool (atZero t.size)) := (h1.out.2.cell t.size).trans (boolsA_get _ _ _ (by omega))
    obtain ⟨b, hb⟩ : ∃ b, atZero t.size = b := ⟨_, rfl⟩
    rw [hb] at ce
    have HBB : Hid (isOf [] t = b) := hb
    clear hb
    go_wp2_with fail
    go_ret
    refine ⟨by rw [HBB.out]; rfl, ?_⟩
    rw [HB.out]
    exact h1.out.1
theorem of_any (v : Value) (base : Nat) (l : List Pc) (t : ByteArray) (w : World) (ht : t.size ≤ 1023) (hl : l.length ≤ 255) (H : Hid (w.ownsRow base 69 258 v l.length (cellsB l))) :
    Calls Try.prog 26 #[v, .string t] w (OfPost l t w) := by
  rcases H.out.2 with ⟨rfl, h0⟩ | ⟨g, cap, cur, rfl, hb, hg, h1, h2, h3, h4⟩
  · obtain rfl := List.eq_nil_of_length_eq_zero h0
    exact of_none t w ht
  · refine of_some g cap cur l t w ht hl h1 hg ?_
    rw [← h4]
    exact List.take_prefix _ _
def RefPost (p t : ByteArray) (w : World) (e : Ending) (w' : World) : Prop := ∃ b x, Answer p t b x ∧ e = .returned (.tuple #[.bool b, .int .i64 x]) ∧ Hid (Below w.heap.size w w')
set_option maxRecDepth 100000 in
set_option maxHeartbeats 1600000 in
theorem match_any (p t : ByteArray) (w : World) : Calls Try.prog 10 #[.string p, .string t] w (RefPost p t w) := by
  go_enter Try.func10, Try.ntmps10
  go_wp2_with fail
  refine (form_any p _).mono ?_
  rintro e w1 (⟨h, rfl, hb⟩ | ⟨h255, ⟨l, v, hrun, hl, rfl, hb, ho⟩ | ⟨hrun, rfl, hb⟩⟩)
  · have H := Lib.hid h
    clear h
    go_wp2_with fail
    exact bodyPost_ret (v := .tuple #[.bool false, .int .i64 7]) (by simp [results, Try.results10]) rfl ⟨false, 7, .long H.out, rfl, hb⟩
  · have H2 : Hid (p.size ≤ 255 ∧ Run p 0 [] (some l) ∧ l.length ≤ 255) := ⟨h255, hrun, by omega⟩
    clear h255 hrun hl
    by_cases hlong : 1023 < t.size
    · have hli : (1023 : Int) < (t.size : Int) := by omega
      have HL := Lib.hid hlong
      clear hlong
      go_wp2_with fail
      exact bodyPost_ret (v := .tuple #[.bool false, .int .i64 7]) (by simp [results, Try.results10]) rfl ⟨false, 7, .text H2.out.1 H2.out.2.1 HL.out, rfl, hb⟩
    · have hli : ¬ ((1023 : Int) < (t.size : Int)) := by omega
      have HL : Hid (t.size ≤ 1023) := by show _ ≤ _; omega
      clear hlong
      go_wp2_with fail
      refine (of_any v _ l t _ HL.out H2.out.2.2 ho).mono ?_
      obtain ⟨b, hbb⟩ : ∃ b, isOf l t = b := ⟨_, rfl⟩
      unfold OfPost
      rw [hbb]
      have HBB := Lib.hid hbb
      clear hbb ho
      rintro e w2 ⟨rfl, hb2⟩
      go_wp2_with fail
      refine bodyPost_ret (v := .tuple #[.bool b, .int .i64 0]) (by simp [results, Try.results10]) rfl ⟨b, 0, ?_, rfl, hb.out.trans (hb2.out.mono hb.out.size)⟩
      rw [← HBB.out]
      exact .of H2.out.1 H2.out.2.1 HL.out
  · have H2 : Hid (p.size ≤ 255 ∧ Run p 0 [] none) := ⟨h255, hrun⟩
    clear h255 hrun
    go_wp2_with fail
    exact bodyPost_ret (v := .tuple #[.bool false, .int .i64 190]) (by simp [results, Try.results10]) rfl ⟨false, 190, .bad H2.out.1 H2.out.2, rfl, hb⟩
end Go.Proofs.Ytcdhkeahcliefaa.PatRef
