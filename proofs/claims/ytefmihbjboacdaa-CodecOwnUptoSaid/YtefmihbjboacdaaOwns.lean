/- Grown: lists that were handed out, written full, appended to, looked at: new memory all. -/
import Derived.Test.YtefmihbjboacdaaKit
import Derived.Test.YtefmihbjboacdaaWriter
import Derived.Deep.LoopGhost
import Derived.Laws.AppendOwn
import Derived.Deep.CutBlock
import Derived.Deep.QuietTactic
import Derived.BigQuiet
import Derived.Deep.DeepCutAuto
import Derived.Deep.RegionHeld3
import Derived.Deep.AppendLies
import Derived.ArgAppend
/- mark (64): a byte of the mark of a number. -/
namespace Go.Proofs.Ytefmihbjboacdaa.Mark
open Go.ChangeShapes Go.WideShapes Go.ChangeAt Go.RowKit
open Go.Proofs.Ytefmihbjboacdaa.Kit
set_option linter.unusedVariables false

/-- byte k of the mark of number i -/
def mk (i k : Nat) : Nat := i / 256 ^ (k % 4) % 256
theorem mk_lt (i k : Nat) : mk i k < 256 := Nat.mod_lt _ (by decide)
set_option maxRecDepth 100000 in
theorem mark_any (i k : Nat) (w : World) (hi : i ≤ 4611686018427387904) (hk : k ≤ 4611686018427387904) : Calls Try.prog 64 #[.int .i64 i, .int .i64 k] w fun e w' => e = .returned (.int .u8 (mk i k)) ∧ w = w' := by
  have H1 := Lib.hid hi
  have H2 := Lib.hid hk
  clear hi hk
  have h4 : k % 4 = 0 ∨ k % 4 = 1 ∨ k % 4 = 2 ∨ k % 4 = 3 := by omega
  rcases h4 with h | h | h | h
  all_goals
    have e : (k : Int) % 4 = ((k % 4 : Nat) : Int) := by omega
    rw [h] at e
    have HM : Hid (mk i k = i / 256 ^ (k % 4) % 256) := rfl
    rw [h] at HM
    clear h
    generalize mk i k = m at *
    go_enter Try.func64, Try.ntmps64
    go_wp2_with fail
    go_ret
    refine ⟨?_, rfl⟩
    rw [HM.out]
    show Ending.returned (Value.int .u8 _) = _
    congr 2
    try omega
end Go.Proofs.Ytefmihbjboacdaa.Mark
/- tail (65): 700 bytes of list i alone. -/
namespace Go.Proofs.Ytefmihbjboacdaa.Tail
open Go.ChangeShapes Go.WideShapes Go.ChangeAt Go.RowKit
open Go.Proofs.Ytefmihbjboacdaa.Kit Go.Proofs.Ytefmihbjboacdaa.Reads Go.Proofs.Ytefmihbjboacdaa.Copy Go.Proofs.Ytefmihbjboacdaa.Writer Go.Proofs.Ytefmihbjboacdaa.Mark Go.Proofs.Ytefmihbjboacdaa.Crc
set_option linter.unusedVariables false

def tb (i k : Nat) : List UInt8 := [UInt8.ofNat (255 - mk i (k / 4 + k)), UInt8.ofNat k, 195]
def tails (i n : Nat) : List UInt8 := (List.range n).flatMap (tb i)
theorem tails_succ (i n : Nat) : tails i (n + 1) = tails i n ++ tb i n := by
  unfold tails
  rw [List.range_succ, List.flatMap_append]
  simp
theorem tails_length (i n : Nat) : (tails i n).length = 3 * n := by
  induction n with
  | zero => rfl
  | succ n ih =>
    rw [tails_succ, List.length_append, ih]
    show 3 * n + 3 = _
    omega
def tailL (i : Nat) : List UInt8 := (tails i 700).take 700
theorem tailL_length (i : Nat) : (tailL i).length = 700 := by
  unfold tailL
  rw [List.length_take, tails_length]
  rfl

theorem owns_apart {w : World} {base size n : Nat} {e : TypeId} {v : Value} {xs : List Value} (h : w.ownsRow base e size v n xs) : ∀ k, k < base → some k ≠ v.ownBlock := by
  intro k hk
  rcases h.2 with ⟨rfl, _⟩ | ⟨g, cap, cur, rfl, hb, _⟩
  · intro e; cases e
  · intro e
    have : k = g := by cases e; rfl
    omega
theorem owns_chg {w w' : World} {S : Nat → Prop} {base size n : Nat} {e : TypeId} {v : Value} {xs : List Value} (h : w.ownsRow base e size v n xs) (hc : Chg S w w') (hS : ∀ k, base ≤ k → ¬ S k) : w'.ownsRow base e size v n xs := by
  refine ⟨h.1, ?_⟩
  rcases h.2 with h | ⟨g, cap, cur, hv, hb, hg, h1, h2, h3, h4⟩
  · exact .inl h
  · exact .inr ⟨g, cap, cur, hv, hb, (hc.block g ((Array.getElem?_eq_some_iff.1 hg).1) (hS g hb)).trans hg, h1, h2, h3, h4⟩

theorem mark_at (i k : Nat) (z : Int) (hz : z = (k : Int)) (w : World) (hi : i ≤ 4611686018427387904) (hk : k ≤ 4611686018427387904) : Calls Try.prog 64 #[.int .i64 i, .int .i64 z] w fun e w' => e = .returned (.int .u8 (mk i k)) ∧ w = w' := by
  subst hz
  exact mark_any i k w hi hk
set_option maxRecDepth 100000 in
set_option maxHeartbeats 3200000 in
theorem tail_any (i : Nat) (w : World) (hi : i ≤ 4611686018427387904) : Calls Try.prog 65 #[.int .i64 i] w fun e w' => ∃ g c, e = .returned (.slice (some ⟨g, 0, none⟩) 700 c) ∧ Hid (w.heap.size ≤ g ∧ Bytes w' (some ⟨g, 0, none⟩) (tailL i) ∧ Below w.heap.size w w') := by
  obtain ⟨i5, hi5, hz0, hz1, hz2⟩ := info_parts info5
  have HI := Lib.hid (And.intro hi5 (And.intro hz0 (And.intro hz1 hz2)))
  have HS := Lib.hid hi
  clear hi5 hz0 hz1 hz2 hi
  go_enter Try.func65, Try.ntmps65
  go_wp2_with fail
  go_loopg [4, 3] 700 (fun g i' v wr => ∃ (k : Nat), g = 700 - k ∧ k ≤ 700 ∧ i' = .int .i64 k ∧ Hid (Below w.heap.size w wr ∧ wr.ownsRow w.heap.size 5 1 v (3 * k) ((tails i k).map bv)))
  case atStart => exact ⟨0, rfl, Nat.zero_le _, rfl, Below.refl _ _, rfl, .inl ⟨rfl, rfl⟩⟩
  case round =>
    obtain ⟨k, rfl, hk, rfl, h1⟩ := hrel
    by_cases hlt : k < 700
    · have hlti : (k : Int) < 700 := by omega
      have HLT := Lib.hid hlt
      clear hk
      obtain ⟨y, hy, hty⟩ : ∃ y : UInt8, (255 - mk i (k / 4 + k) : Nat) = y.toNat ∧ UInt8.ofNat (255 - mk i (k / 4 + k)) = y := ⟨UInt8.ofNat (255 - mk i (k / 4 + k)), by have := mk_lt i (k / 4 + k); simp; omega, rfl⟩
      have hml := mk_lt i (k / 4 + k)
      have HSN : Hid ((tails i k).map bv ++ [bv y, bv (UInt8.ofNat k), bv 195] = (tails i (k + 1)).map bv) := by
        show _ = _
        rw [tails_succ, List.map_append]
        unfold tb
        rw [hty]
        rfl
      have HKB : Hid (bv (UInt8.ofNat k) = .int .u8 ((k : Int) % 256)) := by
        show _ = _
        unfold bv v8
        congr 1
      have HYB : Hid ((255 - (mk i (k / 4 + k) : Int)) % 256 = v8 y) := by
        show _ = _
        unfold v8
        omega
      have HC := fun w1 : World => mark_at i (k / 4 + k) ((k : Int) / 4 + k) (by omega) w1 HS.out (by have := HLT.out; omega)
      have HCC := Lib.hid HC
      clear HC
      clear hy hty hml
      generalize mk i (k / 4 + k) = mv at *
      have HSM : Hid ((tails i k).map bv ++ [.int .u8 ((255 - (mv : Int)) % 256), .int .u8 ((k : Int) % 256), .int .u8 195] = (tails i (k + 1)).map bv) := by
        show _ = _
        rw [← HSN.out, HKB.out, HYB.out]
        rfl
      clear HSN HKB
      generalize (tails i k).map bv = xs at *
      generalize hq : ((255 - (mv : Int)) % 256) = qv at *
      generalize hp : ((k : Int) % 256) = pv at *
      have C1 : Hid (∀ j u, [Value.int .u8 qv, Value.int .u8 pv, Value.int .u8 195][j]? = some u → (wr.alloc (.cells #[Value.int .u8 qv, Value.int .u8 pv, Value.int .u8 195] 5)).cell? ((⟨wr.heap.size, 0, none⟩ : Addr).add j) = some u) := fun j u hu => by
        rw [add_block, (Blk.new wr #[Value.int .u8 qv, Value.int .u8 pv, Value.int .u8 195] 5).cell j]
        simpa using hu
      have C2 : Hid (∀ u ∈ [Value.int .u8 qv, Value.int .u8 pv, Value.int .u8 195], u.oneCell' = true) := fun u hu => by
        simp at hu
        rcases hu with rfl | rfl | rfl <;> rfl
      have C3 : Hid (3 * k + 3 ≤ maxLen) := by have := HLT.out; show _ ≤ _; unfold maxLen; omega
      have C4 : Hid ((3 * k + 3) * 1 ≤ 140737488355328) := by have := HLT.out; show _ ≤ _; omega
      have C5 : Hid (w.heap.size ≤ (wr.alloc (.cells #[Value.int .u8 qv, Value.int .u8 pv, Value.int .u8 195] 5)).heap.size) := by have := h1.out.1.size; show _ ≤ _; simp; omega
      have C6 : Hid ((wr.alloc (.cells #[Value.int .u8 qv, Value.int .u8 pv, Value.int .u8 195] 5)).ownsRow w.heap.size 5 1 u3 (3 * k) xs) := owns_chg h1.out.2 (Chg.of_below (S := fun _ => False) ((Below.refl _ _).alloc (Nat.le_refl _) _)) (fun _ _ h => h)
      go_wp2_with fail
      refine (HCC.out _).mono ?_
      rintro e w1 ⟨rfl, rfl⟩
      have hq2 := hq
      have hp2 := hp
      go_wp2_with (first | (at_builtin; go_loud (refine wpList_append_own _ rfl (.tmp 9) (.tmp 19) 34 rfl w.heap.size 5 i5 (.int .u8 0) 1 1 Try.underlying34 HI.out.1 HI.out.2.1 HI.out.2.2.1 HI.out.2.2.2 rfl (by decide) u3 (3 * k) xs rfl C6.out ⟨wr.heap.size, 0, none⟩ 3 3 [Value.int .u8 qv, Value.int .u8 pv, Value.int .u8 195] rfl rfl C1.out C2.out C3.out C4.out C5.out ?_); intro v' w7 hown7 hgrow7 _; have HOWN7 := Lib.hid hown7; have HGROW7 := Lib.hid hgrow7; clear hown7 hgrow7))
      have hg : Below w.heap.size (wr.alloc (.cells #[Value.int .u8 qv, Value.int .u8 pv, Value.int .u8 195] 5)) w7 := ⟨HGROW7.out.os, HGROW7.out.tape, HGROW7.out.output, HGROW7.out.size, fun k hk => HGROW7.out.block k (Nat.lt_of_lt_of_le hk C5.out) (owns_apart C6.out k hk)⟩
      have hb7 : Below w.heap.size w w7 := h1.out.1.trans (((Below.refl _ _).alloc h1.out.1.size _).trans hg)
      go_roundg (700 - (k + 1))
      case measure => have := HLT.out; omega
      case rel =>
        refine ⟨k + 1, rfl, HLT.out, by go_num, hb7, ?_⟩
        have h := HOWN7.out
        rw [HSM.out] at h
        exact h
    · obtain rfl : k = 700 := by omega
      rcases h1.out.2.2 with ⟨_, h0⟩ | ⟨g, cap, cur, rfl, hb, hg, q1, q2, q3, q4⟩
      · omega
      · have HG := Lib.hid hg
        have HQ := Lib.hid (And.intro hb q4)
        have hcap : (700 : Int) ≤ (cap : Int) := by omega
        clear hg q1 q2 q3 q4
        go_wp2_with fail
        go_ret
        refine ⟨g, cap, rfl, HQ.out.1, fun j hj => ⟨_, rfl, ?_⟩, h1.out.1⟩
        have hk : Blk wr g cur 5 := HG.out
        rw [add_block, hk.cell, ← Array.getElem?_toList]
        have hj7 : j < 700 := by rw [tailL_length] at hj; exact hj
        have e := congrArg (fun l => l[j]?) HQ.out.2
        rw [List.getElem?_take, if_pos (by omega), List.getElem?_map] at e
        have e2 : (tails i 700)[j]? = (tailL i)[j]? := by unfold tailL; rw [List.getElem?_take, if_pos hj7]
        rw [e, e2, List.getElem?_eq_getElem hj]
        rfl
end Go.Proofs.Ytefmihbjboacdaa.Tail
/- marked (66): do the first n bytes hold the mark? -/
namespace Go.Proofs.Ytefmihbjboacdaa.Marked
open Go.ChangeShapes Go.WideShapes Go.ChangeAt Go.RowKit
open Go.Proofs.Ytefmihbjboacdaa.Kit Go.Proofs.Ytefmihbjboacdaa.Reads Go.Proofs.Ytefmihbjboacdaa.Copy Go.Proofs.Ytefmihbjboacdaa.Writer Go.Proofs.Ytefmihbjboacdaa.Mark Go.Proofs.Ytefmihbjboacdaa.Tail Go.Proofs.Ytefmihbjboacdaa.Crc
set_option linter.unusedVariables false

theorem mark_q (i k : Nat) (w : World) (hi : i ≤ 4611686018427387904) (hk : k ≤ 4611686018427387904) : Calls Try.prog 64 #[.int .i64 i, .int .i64 k] w fun e w' => e = .returned (.int .u8 (mk i k)) ∧ ∃ m, w' = w.drewN m := by
  refine (mark_any i k w hi hk).mono ?_
  rintro e w' ⟨rfl, rfl⟩
  exact ⟨rfl, 0, rfl⟩
/-- the first n cells hold the mark of j -/
def Marks (w : World) (A : Option Addr) (n j : Nat) : Prop := ∀ k, k < n → ∃ ad, A = some ad ∧ w.cell? (ad.add k) = some (.int .u8 (mk j k))
set_option maxRecDepth 100000 in
set_option maxHeartbeats 3200000 in
theorem marked_any (A : Option Addr) (L c n j : Nat) (w : World) (hn : n ≤ L) (hn2 : n ≤ 4611686018427387904) (hL : L ≤ 4611686018427387904) (hj : j ≤ 4611686018427387904) (H : Hid (Marks w A n j)) :
    Calls Try.prog 66 #[.slice A L c, .int .i64 n, .int .i64 j] w fun e w' => e = .returned (.bool true) ∧ ∃ m, w' = w.drewN m := by
  have HN := Lib.hid (And.intro hn (And.intro hn2 (And.intro hL hj)))
  have hni : ¬ ((L : Int) < (n : Int)) := by omega
  clear hn hn2 hL hj
  go_enter Try.func66, Try.ntmps66
  go_wp2_with fail
  go_loopg [7] n (fun g i wr => ∃ (k : Nat), g = n - k ∧ k ≤ n ∧ i = .int .i64 k ∧ ∃ m, wr = w.drewN m)
  case atStart => exact ⟨0, rfl, Nat.zero_le _, rfl, 0, rfl⟩
  case round =>
    obtain ⟨k, rfl, hk, rfl, m, rfl⟩ := hrel
    by_cases hlt : k < n
    · have hlti : (k : Int) < (n : Int) := by omega
      have hk9 : (k : Int) ≤ 4611686018427387904 := by have := HN.out; omega
      obtain ⟨ad, rfl, hc⟩ := H.out k hlt
      have hc1 : (w.drewN m).cell? (ad.add k) = some (.int .u8 (mk j k)) := hc
      have HC := Lib.hid (fun w1 : World => mark_q j k w1 HN.out.2.2.2 (by have := HN.out; omega))
      have b0 : (0 : Int) ≤ (k : Int) := by omega
      have b1 : (k : Int) < (L : Int) := by have := HN.out; omega
      have HLT := Lib.hid hlt
      clear hk hc hlt
      have HW : Hid (∃ m2, w.drewN m = w.drewN m2) := ⟨m, rfl⟩
      generalize hw1 : w.drewN m = w1 at *
      clear hw1
      go_upto_region 6 with (fail)
      go_cut [24] (fun v wc => v = .bool false ∧ ∃ m', wc = w1.drewN m')
      case first =>
        go_quiet (first | (go_at_call 64; refine Calls.quiet_of (HC.out _)))
        go_wp2_with fail
        go_meet
        case rel => exact ⟨by simp, _, rfl⟩
      case rest =>
        obtain ⟨rfl, m', rfl⟩ := hcut
        go_wp2_with fail
        go_roundg (n - (k + 1))
        case measure => have := HLT.out; omega
        case rel =>
          obtain ⟨m2, hm2⟩ := HW.out
          exact ⟨k + 1, rfl, HLT.out, by go_num, m2 + m', by rw [hm2]; exact World.drewN_drewN _ _ _⟩
    · obtain rfl : k = n := by omega
      have hlti : ¬ ((k : Int) < (k : Int)) := by omega
      go_wp2_with fail
      go_ret
      exact ⟨rfl, m, rfl⟩
end Go.Proofs.Ytefmihbjboacdaa.Marked
/- Grown (42), its first loop: all lists are written full, each with a mark of its own. -/
namespace Go.Proofs.Ytefmihbjboacdaa.GrownA
open Go.ChangeShapes Go.WideShapes Go.ChangeAt Go.RowKit
open Go.Proofs.Ytefmihbjboacdaa.Kit Go.Proofs.Ytefmihbjboacdaa.Reads Go.Proofs.Ytefmihbjboacdaa.Copy Go.Proofs.Ytefmihbjboacdaa.Writer Go.Proofs.Ytefmihbjboacdaa.Mark Go.Proofs.Ytefmihbjboacdaa.Tail Go.Proofs.Ytefmihbjboacdaa.Marked Go.Proofs.Ytefmihbjboacdaa.Crc
set_option linter.unusedVariables false

/-- a list's marks -/
def markB (j n : Nat) : List UInt8 := (List.range n).map fun k => UInt8.ofNat (mk j k)
theorem markB_length (j n : Nat) : (markB j n).length = n := by simp [markB]
theorem markB_get (j n k : Nat) (h : k < n) : (markB j n)[k]? = some (UInt8.ofNat (mk j k)) := by
  unfold markB
  rw [List.getElem?_map, List.getElem?_range h]
  rfl
theorem v8_mark (j k : Nat) : v8 (UInt8.ofNat (mk j k)) = (mk j k : Int) := by
  unfold v8
  have := mk_lt j k
  simp
  omega
/-- the list that is written up to k -/
def upTo (j k : Nat) (l : List UInt8) : List UInt8 := markB j k ++ l.drop k
theorem upTo_zero (j : Nat) (l : List UInt8) : upTo j 0 l = l := rfl
theorem upTo_end (j : Nat) (l : List UInt8) : upTo j l.length l = markB j l.length := by
  unfold upTo
  rw [List.drop_length, List.append_nil]
theorem upTo_length (j k : Nat) (l : List UInt8) (h : k ≤ l.length) : (upTo j k l).length = l.length := by
  unfold upTo
  rw [List.length_append, markB_length, List.length_drop]
  omega
theorem upTo_set (j k : Nat) (l : List UInt8) (h : k < l.length) : (upTo j k l).set k (UInt8.ofNat (mk j k)) = upTo j (k + 1) l := by
  unfold upTo
  rw [List.set_append_right _ _ (by rw [markB_length]; exact Nat.le_refl _), markB_length, Nat.sub_self, List.drop_eq_getElem_cons h, List.set_cons_zero]
  have e : markB j (k + 1) = markB j k ++ [UInt8.ofNat (mk j k)] := by
    unfold markB
    rw [List.range_succ, List.map_append]
    rfl
  rw [e, List.append_assoc]
  rfl
/-- the lists' places: blocks of their own -/
structure Places (gK n : Nat) (B : Nat → Nat) (l : Nat → List UInt8) : Prop where
  inj : ∀ i j, i < n → j < n → B i = B j → i = j
  apart : ∀ i, i < n → B i ≠ gK
  len : ∀ i, i < n → (l i).length ≤ 512
  many : n ≤ 8388608
/-- the list of lists -/
def Kept (w : World) (gK n : Nat) (B : Nat → Nat) (l : Nat → List UInt8) : Prop := ∀ i, i < n → w.cell? ⟨gK, i, none⟩ = some (.slice (some ⟨B i, 0, none⟩) (l i).length (l i).length)
/-- those before i are written full, the i-th up to k -/
def Full (w : World) (n : Nat) (B : Nat → Nat) (l : Nat → List UInt8) (i k : Nat) : Prop :=
  ∀ j, j < n → Blk w (B j) (bvs (if j < i then markB j (l j).length else if j = i then upTo j k (l j) else l j)) 5
theorem Full.next {w : World} {n : Nat} {B : Nat → Nat} {l : Nat → List UInt8} {i : Nat} (h : Full w n B l i (l i).length) : Full w n B l (i + 1) 0 := fun j hj => by
  have := h j hj
  by_cases h1 : j < i
  · rw [if_pos h1] at this
    rw [if_pos (by omega)]
    exact this
  · rw [if_neg h1] at this
    by_cases h2 : j = i
    · subst h2
      rw [if_pos rfl, upTo_end] at this
      rw [if_pos (by omega)]
      exact this
    · rw [if_neg h2] at this
      rw [if_neg (by omega)]
      by_cases h3 : j = i + 1
      · rw [if_pos h3, upTo_zero]
        exact this
      · rw [if_neg h3]
        exact this
end Go.Proofs.Ytefmihbjboacdaa.GrownA
/- Grown (42): the walk. -/
namespace Go.Proofs.Ytefmihbjboacdaa.GrownB
open Go.ChangeShapes Go.WideShapes Go.ChangeAt Go.RowKit
open Go.Proofs.Ytefmihbjboacdaa.Kit Go.Proofs.Ytefmihbjboacdaa.Reads Go.Proofs.Ytefmihbjboacdaa.Copy Go.Proofs.Ytefmihbjboacdaa.Writer Go.Proofs.Ytefmihbjboacdaa.Mark Go.Proofs.Ytefmihbjboacdaa.Tail Go.Proofs.Ytefmihbjboacdaa.Marked Go.Proofs.Ytefmihbjboacdaa.Crc Go.Proofs.Ytefmihbjboacdaa.GrownA
set_option linter.unusedVariables false

/-- the state of loop 1 -/
def One (w wr : World) (gK n : Nat) (B : Nat → Nat) (l : Nat → List UInt8) (i k : Nat) : Prop :=
  Chg (fun b => ∃ j, j < n ∧ b = B j) w wr ∧ Kept wr gK n B l ∧ Full wr n B l i k
/-- the byte at a place -/
def at8 (w : World) (a : Addr) : Int := match w.cell? a with | some (.int .u8 z) => z | _ => 0
theorem at8_of {w : World} {a : Addr} {z : Int} (h : w.cell? a = some (.int .u8 z)) : w.cell? a = some (.int .u8 (at8 w a)) := by unfold at8; rw [h]
/-- what the storing region holds to -/
def Sto (w' : World) (gK n : Nat) (B : Nat → Nat) (w : World) (l : Nat → List UInt8) (i k : Nat) : Prop := One w w' gK n B l i k ∨ One w w' gK n B l i (k + 1)
theorem One.drew {w wr : World} {gK n : Nat} {B : Nat → Nat} {l : Nat → List UInt8} {i k : Nat} (h : One w wr gK n B l i k) : One w wr.drew gK n B l i k := ⟨h.1.drew, h.2.1, h.2.2⟩
theorem only_cell {b : Nat} {w w' : World} (h : Only b w w') (a : Addr) (hne : a.block ≠ b) : w'.cell? a = w.cell? a := by
  unfold World.cell?
  rw [h.block a.block hne]
theorem one_next {w wr : World} {gK n : Nat} {B : Nat → Nat} {l : Nat → List UInt8} {i k : Nat} (hp : Places gK n B l) (hi : i < n) (hk : k < (l i).length) (h : One w wr gK n B l i k) :
    One w (wr.setCell ⟨B i, k, none⟩ (.int .u8 (mk i k))) gK n B l i (k + 1) := by
  have ho : Only (B i) wr (wr.setCell ⟨B i, k, none⟩ (.int .u8 (mk i k))) := (Only.refl (B i) wr).setCell ⟨B i, k, none⟩ rfl _
  refine ⟨h.1.trans ⟨ho.os, ho.tape, ho.output, by rw [ho.size]; exact Nat.le_refl _, fun b hb hn => ho.block b (fun e => hn ⟨i, hi, e⟩)⟩, fun j hj => ?_, fun j hj => ?_⟩
  · rw [only_cell ho _ (Ne.symm (hp.apart i hi))]
    exact h.2.1 j hj
  · have hb := h.2.2 j hj
    by_cases hji : j = i
    · subst hji
      rw [if_neg (Nat.lt_irrefl j), if_pos rfl] at hb ⊢
      have := hb.put k (.int .u8 (mk j k))
      rw [← v8_mark, bvs_set, upTo_set _ _ _ hk] at this
      rw [← v8_mark]
      exact this
    · have hne : B j ≠ B i := fun e => hji (hp.inj j i hj hi e)
      have := ho.blk hb hne
      rw [if_neg hji] at this ⊢
      exact this
theorem sto_next {w wr : World} {gK n : Nat} {B : Nat → Nat} {l : Nat → List UInt8} {i k L : Nat} {y0 : Int} (hp : Places gK n B l) (hi : i < n) (hk : k < (l i).length)
    (h : wr.cell? ⟨gK, i, none⟩ = some (.slice (some ⟨B i, 0, none⟩) L L) ∧ wr.cell? ⟨B i, k, none⟩ = some (.int .u8 y0) ∧ wr.frozen? ⟨B i, k, none⟩ = false ∧ Hid (One w wr gK n B l i k)) :
    (wr.setCell ⟨B i, k, none⟩ (.int .u8 (mk i k))).drew.cell? ⟨gK, i, none⟩ = some (.slice (some ⟨B i, 0, none⟩) L L) ∧
    (wr.setCell ⟨B i, k, none⟩ (.int .u8 (mk i k))).drew.cell? ⟨B i, k, none⟩ = some (.int .u8 (at8 (wr.setCell ⟨B i, k, none⟩ (.int .u8 (mk i k))).drew ⟨B i, k, none⟩)) ∧
    (wr.setCell ⟨B i, k, none⟩ (.int .u8 (mk i k))).drew.frozen? ⟨B i, k, none⟩ = false ∧ Hid (Sto (wr.setCell ⟨B i, k, none⟩ (.int .u8 (mk i k))).drew gK n B w l i k) := by
  have ho : Only (B i) wr (wr.setCell ⟨B i, k, none⟩ (.int .u8 (mk i k))) := (Only.refl (B i) wr).setCell ⟨B i, k, none⟩ rfl _
  have hn := one_next hp hi hk h.2.2.2.out
  have hb := hn.2.2 i hi
  rw [if_neg (Nat.lt_irrefl i), if_pos rfl] at hb
  refine ⟨(only_cell ho _ (Ne.symm (hp.apart i hi))).trans h.1, at8_of (z := v8 ((upTo i (k + 1) (l i))[k]'(by rw [upTo_length _ _ _ (by omega)]; exact hk))) ?_, hb.frozen k, .inr hn.drew⟩
  exact (hb.cell k).trans (bvs_get _ _ _)
/-- every list holds its marks -/
def Done (w : World) (n : Nat) (B : Nat → Nat) (l : Nat → List UInt8) : Prop := ∀ j, j < n → Blk w (B j) (bvs (markB j (l j).length)) 5
theorem Full.done {w : World} {n : Nat} {B : Nat → Nat} {l : Nat → List UInt8} (h : Full w n B l n 0) : Done w n B l := fun j hj => by
  have := h j hj
  rw [if_pos hj] at this
  exact this
/-- the lists that were appended to -/
def MoresAt (H1 : Nat) (wr : World) (v : Value) (vs : List Value) (l : Nat → List UInt8) (i : Nat) : Prop :=
  wr.ownsRow H1 34 1 v i vs ∧ ∀ j, j < i → ∃ g cap, vs[j]? = some (.slice (some ⟨g, 0, none⟩) ((l j).length + 700) cap) ∧ H1 ≤ g ∧ g < wr.heap.size ∧ some g ≠ v.ownBlock ∧ (l j).length + 700 ≤ cap ∧ Bytes wr (some ⟨g, 0, none⟩) (markB j (l j).length ++ tailL j)
def Mores (H1 : Nat) (wr : World) (v : Value) (l : Nat → List UInt8) (i : Nat) : Prop := ∃ vs, MoresAt H1 wr v vs l i
/-- a list that is being appended to: not yet, or in new memory -/
def Grows (H2 : Nat) (wx : World) (v : Value) (b L j m : Nat) : Prop :=
  (m = 0 ∧ v = .slice (some ⟨b, 0, none⟩) L L) ∨ (0 < m ∧ wx.ownsRow H2 5 1 v (L + m) ((markB j L ++ (tailL j).take m).map bv))
theorem owns_mono {w : World} {base base' size n : Nat} {e : TypeId} {v : Value} {xs : List Value} (h : w.ownsRow base e size v n xs) (hb : base' ≤ base) : w.ownsRow base' e size v n xs := by
  refine ⟨h.1, ?_⟩
  rcases h.2 with h | ⟨g, cap, cur, hv, h0, hg⟩
  · exact .inl h
  · exact .inr ⟨g, cap, cur, hv, Nat.le_trans hb h0, hg⟩
theorem grown_below {w0 w w' : World} {H2 : Nat} {row : Option Nat} (h : Below H2 w0 w) (hg : w.grownBy w' row) (hr : ∀ k, k < H2 → some k ≠ row) (hs : w0.heap.size = H2) : Below H2 w0 w' :=
  h.trans ⟨hg.os, hg.tape, hg.output, hg.size, fun k hk => hg.block k (Nat.lt_of_lt_of_le hk (by rw [← hs]; exact h.size)) (hr k hk)⟩
theorem info34 : (Try.prog.info? 34).map (fun i => (i.zero, i.size, i.bytes)) = some (some (.slice none 0 0), 1, 24) := by kernel_rfl
theorem MoresAt.below {H1 : Nat} {wr w' : World} {v : Value} {vs : List Value} {l : Nat → List UInt8} {i : Nat} (h : MoresAt H1 wr v vs l i) (hb : Below wr.heap.size wr w') : MoresAt H1 w' v vs l i := by
  obtain ⟨h1, h2⟩ := h
  refine ⟨owns_chg h1 (Chg.of_below (S := fun _ => False) hb) (fun _ _ h => h), fun j hj => ?_⟩
  obtain ⟨g, cap, a, b, c, d, f, e⟩ := h2 j hj
  exact ⟨g, cap, a, b, Nat.lt_of_lt_of_le c hb.size, d, f, e.below hb⟩
theorem bytes_keep {w w' : World} {g : Nat} {l : List UInt8} (h : Bytes w (some ⟨g, 0, none⟩) l) (hb : w'.heap[g]? = w.heap[g]?) : Bytes w' (some ⟨g, 0, none⟩) l := fun j hj => by
  obtain ⟨ad, e, hc⟩ := h j hj
  cases e
  refine ⟨_, rfl, ?_⟩
  rw [add_block] at hc ⊢
  rw [← hc]
  exact World.cell?_of_block hb
theorem mores_next {H1 H2 k g cap g' cap' : Nat} {wr w7 : World} {o : Obj} {v : Value} {vs : List Value} {l : Nat → List UInt8} (hM : MoresAt H1 wr v vs l k) (hv : ∀ b, v.ownBlock = some b → b < H2)
    (hg : H2 ≤ g) (hgl : g < wr.heap.size) (h1 : H1 ≤ H2) (hcap : (l k).length + 700 ≤ cap) (hb : Bytes wr (some ⟨g, 0, none⟩) (markB k (l k).length ++ tailL k)) (hgrow : (wr.alloc o).grownBy w7 v.ownBlock)
    (hat : v.ownBlock = some g' ∨ g' = (wr.alloc o).heap.size) (hown : w7.ownsRow H1 34 1 (.slice (some ⟨g', 0, none⟩) (k + 1) cap') (k + 1) (vs ++ [.slice (some ⟨g, 0, none⟩) ((l k).length + 700) cap])) :
    Mores H1 w7 (.slice (some ⟨g', 0, none⟩) (k + 1) cap') l (k + 1) := by
  have hsz : (wr.alloc o).heap.size = wr.heap.size + 1 := by simp
  have hlen : vs.length = k := by have := hM.1.1; omega
  have keep : ∀ j, j < wr.heap.size → some j ≠ v.ownBlock → w7.heap[j]? = wr.heap[j]? := fun j hj hn => (hgrow.block j (by omega) hn).trans (Below.heap_alloc wr o j hj)
  refine ⟨_, hown, fun j hj => ?_⟩
  rcases Nat.lt_or_ge j k with h | h
  · obtain ⟨gj, cj, e1, e2, e3, e4, e6, e5⟩ := hM.2 j h
    refine ⟨gj, cj, ?_, e2, by have := hgrow.size; omega, ?_, e6, bytes_keep e5 (keep gj e3 e4)⟩
    · rw [List.getElem?_append_left (by omega)]
      exact e1
    · intro e
      have e : gj = g' := by cases e; rfl
      rcases hat with h | h
      · rw [h] at e4
        exact e4 (by rw [e])
      · omega
  · obtain rfl : j = k := by omega
    refine ⟨g, cap, ?_, by omega, by have := hgrow.size; omega, ?_, hcap, bytes_keep hb (keep g hgl (fun e => by have := hv g e.symm; omega))⟩
    · rw [List.getElem?_append_right (by omega), hlen, Nat.sub_self]
      rfl
    · intro e
      have e : g = g' := by cases e; rfl
      rcases hat with h | h
      · have := hv g' h
        omega
      · omega
theorem owns_bytes {w : World} {H2 n : Nat} {v : Value} {L : List UInt8} (h : w.ownsRow H2 5 1 v n (L.map bv)) (hn : 0 < n) : ∃ g cap, v = .slice (some ⟨g, 0, none⟩) n cap ∧ H2 ≤ g ∧ g < w.heap.size ∧ n ≤ cap ∧ Bytes w (some ⟨g, 0, none⟩) L := by
  obtain ⟨hl, h⟩ := h
  rcases h with ⟨_, h0⟩ | ⟨g, cap, cur, rfl, hb, hg, q1, q2, q3, q4⟩
  · omega
  · have hk : Blk w g cur 5 := hg
    refine ⟨g, cap, rfl, hb, hk.lt, q1, fun j hj => ⟨_, rfl, ?_⟩⟩
    have hj2 : j < n := by rw [List.length_map] at hl; omega
    rw [add_block, hk.cell, ← Array.getElem?_toList]
    have e := congrArg (fun l => l[j]?) q4
    rw [List.getElem?_take, if_pos (by omega), List.getElem?_map] at e
    rw [e, List.getElem?_eq_getElem hj]
    rfl
theorem third {a b c : Prop} (h : a ∧ b ∧ c) : c := h.2.2
theorem owns_at {w : World} {base n j cap : Nat} {e : TypeId} {A : Option Addr} {xs : List Value} {u : Value} (h : w.ownsRow base e 1 (.slice A n cap) n xs) (hj : j < n) (hu : xs[j]? = some u) : ∃ b, A = some ⟨b, 0, none⟩ ∧ w.cell? ⟨b, j, none⟩ = some u := by
  obtain ⟨hl, h⟩ := h
  rcases h with ⟨_, h0⟩ | ⟨g, c, cur, hv, hb, hg, q1, q2, q3, q4⟩
  · omega
  · have hk : Blk w g cur e := hg
    have e1 : A = some ⟨g, 0, none⟩ := by injection hv
    refine ⟨g, e1, ?_⟩
    rw [hk.cell, ← Array.getElem?_toList]
    have e := congrArg (fun l => l[j]?) q4
    rw [List.getElem?_take, if_pos (by omega), hu] at e
    exact e
theorem marks_of_bytes {w : World} {A : Option Addr} {j n : Nat} {r : List UInt8} (h : Bytes w A (markB j n ++ r)) : Marks w A n j := fun k hk => by
  obtain ⟨ad, e, hc⟩ := h k (by rw [List.length_append, markB_length]; omega)
  refine ⟨ad, e, ?_⟩
  rw [hc, List.getElem_append_left (by rw [markB_length]; exact hk)]
  have e2 := markB_get j n k hk
  rw [List.getElem?_eq_getElem (by rw [markB_length]; exact hk)] at e2
  rw [Option.some.inj e2, v8_mark]
theorem bytes_tail {w : World} {g n : Nat} {l r : List UInt8} (h : Bytes w (some ⟨g, 0, none⟩) (l ++ r)) (hl : l.length = n) : Bytes w (some ⟨g, n, none⟩) r := fun k hk => by
  subst hl
  obtain ⟨ad, e, hc⟩ := h (l.length + k) (by rw [List.length_append]; omega)
  cases e
  refine ⟨_, rfl, ?_⟩
  rw [add_block] at hc
  rw [List.getElem_append_right (by omega)] at hc
  have e : (⟨g, l.length, none⟩ : Addr).add k = ⟨g, l.length + k, none⟩ := by
    unfold Addr.add
    by_cases h : k = 0
    · simp [h]
    · simp [h]
  rw [e, hc]
  congr 3
  simp
theorem same_at (A A' : Option Addr) (x y c c' : Nat) (l : List UInt8) (w : World) (hl : l.length = 700) (hx : x = 700) (hy : y = 700) (H : Hid (Bytes w A l)) (H' : Hid (Bytes w A' l)) :
    Calls Try.prog 26 #[.slice A x c, .slice A' y c'] w fun e w' => e = .returned (.bool true) ∧ Hid (Still w w') := by
  subst hx
  subst hy
  have h := same_any A A' c c' l l w (by omega) H H'
  rw [hl] at h
  refine h.mono ?_
  rintro e w' ⟨rfl, h⟩
  exact ⟨by simp, h⟩
theorem owns_block {w : World} {base size n : Nat} {e : TypeId} {v : Value} {xs : List Value} (h : w.ownsRow base e size v n xs) : ∀ b, v.ownBlock = some b → b < w.heap.size := by
  intro b hb
  rcases h.2 with ⟨rfl, _⟩ | ⟨g, cap, cur, rfl, _, hg, _⟩
  · cases hb
  · cases hb
    exact (Array.getElem?_eq_some_iff.1 hg).1
set_option maxRecDepth 100000 in
set_option maxHeartbeats 3200000 in
theorem grown_any (gK n c : Nat) (B : Nat → Nat) (l : Nat → List UInt8) (w : World) (hp : Places gK n B l) (hk : Kept w gK n B l) (hf : Full w n B l 0 0) :
    Calls Try.prog 42 #[.slice (some ⟨gK, 0, none⟩) n c] w fun e w' => e = .returned (.bool true) ∧ Hid (Chg (fun b => ∃ j, j < n ∧ b = B j) w w') := by
  have HP := Lib.hid hp
  have H0 : Hid (One w w gK n B l 0 0) := ⟨⟨rfl, rfl, rfl, Nat.le_refl _, fun _ _ _ => rfl⟩, hk, hf⟩
  clear hp hk hf
  obtain ⟨i5, hi5, hz0, hz1, hz2⟩ := info_parts info5
  have HI := Lib.hid (And.intro hi5 (And.intro hz0 (And.intro hz1 hz2)))
  obtain ⟨i34, hi34, hy0, hy1, hy2⟩ := info_parts info34
  have HJ := Lib.hid (And.intro hi34 (And.intro hy0 (And.intro hy1 hy2)))
  clear hi5 hz0 hz1 hz2 hi34 hy0 hy1 hy2
  go_enter Try.func42, Try.ntmps42
  go_wp2_with fail
  go_loopg [3] n (fun g i wr => ∃ (k : Nat), g = n - k ∧ k ≤ n ∧ i = .int .i64 k ∧ Hid (One w wr gK n B l k 0))
  case atStart => exact ⟨0, rfl, Nat.zero_le _, rfl, H0⟩
  case round =>
    obtain ⟨i, rfl, hi, rfl, h1⟩ := hrel
    have hi9 : (i : Int) ≤ 8388608 := by have := HP.out.many; omega
    by_cases hlt : i < n
    · have hlti : (i : Int) < (n : Int) := by omega
      have HLT := Lib.hid hlt
      clear hi hlt
      go_wp2_with fail
      go_loopg [4] (l i).length (fun g q wr => ∃ (k : Nat), g = (l i).length - k ∧ k ≤ (l i).length ∧ q = .int .i64 k ∧ Hid (One w wr gK n B l i k))
      case atStart => exact ⟨0, rfl, Nat.zero_le _, rfl, h1⟩
      case round =>
        obtain ⟨k, rfl, hk, rfl, h2⟩ := hrel
        have hL := HP.out.len i HLT.out
        have hc0 := h2.out.2.1 i HLT.out
        have hb := h2.out.2.2 i HLT.out
        rw [if_neg (Nat.lt_irrefl i), if_pos rfl] at hb
        have b0 : (0 : Int) ≤ (i : Int) := by omega
        have b1 : (0 : Int) ≤ (k : Int) := by omega
        by_cases hkl : k < (l i).length
        · have hlt2 : (k : Int) < ((l i).length : Int) := by omega
          obtain ⟨y0, hc1⟩ : ∃ y0 : Int, wr.cell? ⟨B i, k, none⟩ = some (.int .u8 y0) := ⟨_, by
            rw [hb.cell, bvs_get _ _ (by rw [upTo_length _ _ _ hk]; exact hkl)]⟩
          have hf1 : wr.frozen? ⟨B i, k, none⟩ = false := hb.frozen k
          have HKL := Lib.hid hkl
          have HC := Lib.hid (fun w1 : World => mark_any i k w1 (by have := HP.out.many; have := HLT.out; omega) (by omega))
          have hk9 : (k : Int) ≤ 512 := by omega
          clear hb hL hk hkl
          go_upto_region 7 with (fail)
          have hS : wr.cell? ⟨gK, i, none⟩ = some (.slice (some ⟨B i, 0, none⟩) (l i).length (l i).length) ∧ wr.cell? ⟨B i, k, none⟩ = some (.int .u8 y0) ∧ wr.frozen? ⟨B i, k, none⟩ = false ∧ Hid (One w wr gK n B l i k) := ⟨hc0, hc1, hf1, h2⟩
          clear hc0 hc1 hf1 h2
          obtain ⟨L, hLL⟩ : ∃ L, (l i).length = L := ⟨_, rfl⟩
          rw [hLL] at hS hlt2
          have HLL := Lib.hid hLL
          clear hLL
          have hq := at8_of hS.2.1
          go_region_held3 (fun w' => w'.cell? ⟨gK, i, none⟩ = some (.slice (some ⟨B i, 0, none⟩) L L) ∧ w'.cell? ⟨B i, k, none⟩ = some (.int .u8 (at8 w' ⟨B i, k, none⟩)) ∧ w'.frozen? ⟨B i, k, none⟩ = false ∧ Hid (Sto w' gK n B w l i k)) (first | assumption | exact ⟨hS.1, hq, hS.2.2.1, .inl hS.2.2.2.out.drew⟩ | exact sto_next HP.out HLT.out HKL.out hS) (first | (go_at_call 64; refine (HC.out _).mono ?_; rintro e wx ⟨rfl, rfl⟩))
          have h3 : Hid (One w (wr.setCell ⟨B i, k, none⟩ (.int .u8 (mk i k))).drew gK n B l i (k + 1)) := (one_next HP.out HLT.out HKL.out hS.2.2.2.out).drew
          generalize (wr.setCell ⟨B i, k, none⟩ (.int .u8 (mk i k))).drew = w9 at *
          clear hS
          go_wp2_with fail
          go_roundg ((l i).length - (k + 1))
          case measure => have := HKL.out; omega
          case rel => exact ⟨k + 1, rfl, HKL.out, by go_num, h3⟩
        · obtain rfl : k = (l i).length := by omega
          have hlt2 : ¬ (((l i).length : Int) < ((l i).length : Int)) := by omega
          have h3 : Hid (One w wr gK n B l (i + 1) 0) := ⟨h2.out.1, h2.out.2.1, h2.out.2.2.next⟩
          clear hb hL hk
          go_wp2_with fail
          go_roundg (n - (i + 1))
          case measure => have := HLT.out; omega
          case rel => exact ⟨i + 1, rfl, HLT.out, by go_num, h3⟩
    · obtain rfl : i = n := by omega
      have hlti : ¬ ((i : Int) < (i : Int)) := by omega
      have HD := Lib.hid (Full.done h1.out.2.2)
      have HK := Lib.hid h1.out.2.1
      have HW := Lib.hid h1.out.1
      obtain ⟨H1, hH1⟩ : ∃ H1, wr.heap.size = H1 := ⟨_, rfl⟩
      have HH := Lib.hid hH1
      clear hH1 h1 H0
      generalize wr = w1 at *
      go_wp2_with fail
      go_loopg [6, 5] i (fun g q v wx => ∃ (k : Nat), g = i - k ∧ k ≤ i ∧ q = .int .i64 k ∧ Hid (Below H1 w1 wx ∧ Mores H1 wx v l k))
      case atStart => exact ⟨0, rfl, Nat.zero_le _, rfl, Below.refl _ _, [], ⟨rfl, .inl ⟨rfl, rfl⟩⟩, fun j hj => absurd hj (Nat.not_lt_zero j)⟩
      case round =>
        obtain ⟨k, rfl, hk, rfl, h1⟩ := hrel
        by_cases hlt : k < i
        · have hlt2 : (k : Int) < (i : Int) := by omega
          have hk9 : (k : Int) ≤ 8388608 := by omega
          have b0 : (0 : Int) ≤ (k : Int) := by omega
          have HLT := Lib.hid hlt
          have hck : wr.cell? ⟨gK, k, none⟩ = some (.slice (some ⟨B k, 0, none⟩) (l k).length (l k).length) := by
            have h := HK.out k hlt
            rw [← h]
            exact h1.out.1.cell (by rw [← HH.out]; exact World.block_lt_of_cell? _ _ h)
          clear hlt hk
          go_wp2_with fail
          refine (tail_any k _ (by have := HLT.out; have := HP.out.many; omega)).mono ?_
          rintro e w2 ⟨gt, ct, rfl, ht⟩
          have HBK : Hid (Blk w2 (B k) (bvs (markB k (l k).length)) 5) := ((HD.out k HLT.out).below h1.out.1 (by rw [← HH.out]; exact (HD.out k HLT.out).lt)).below ht.out.2.2 ((HD.out k HLT.out).below h1.out.1 (by rw [← HH.out]; exact (HD.out k HLT.out).lt)).lt
          obtain ⟨vs, hvs⟩ := h1.out.2
          have HM2 : Hid (Below H1 w1 w2 ∧ MoresAt H1 w2 u5 vs l k) := ⟨h1.out.1.trans (ht.out.2.2.mono (by rw [← HH.out]; exact h1.out.1.size)), hvs.below ht.out.2.2⟩
          clear hvs h1
          obtain ⟨H2, hH2⟩ : ∃ H2, w2.heap.size = H2 := ⟨_, rfl⟩
          have HH2 := Lib.hid hH2
          clear hH2 hck
          obtain ⟨L, hL⟩ : ∃ L, (l k).length = L := ⟨_, rfl⟩
          have HLL := Lib.hid hL
          have hL9 : (L : Int) ≤ 512 := by have := HP.out.len k HLT.out; omega
          rw [hL] at HBK ⊢
          clear hL
          go_wp2_with fail
          go_loopg [9, 7] 700 (fun g q v wx => ∃ (m : Nat), g = 700 - m ∧ m ≤ 700 ∧ q = .int .i64 m ∧ Hid (Below H2 w2 wx ∧ Grows H2 wx v (B k) L k m))
          case atStart => exact ⟨0, rfl, Nat.zero_le _, rfl, Below.refl _ _, .inl ⟨rfl, rfl⟩⟩
          case round =>
            obtain ⟨m, rfl, hm, rfl, h3⟩ := hrel
            by_cases hm7 : m < 700
            · have hmi : (m : Int) < 700 := by omega
              have m0 : (0 : Int) ≤ (m : Int) := by omega
              obtain ⟨ad, had, hct⟩ := ht.out.2.1 m (by rw [tailL_length]; exact hm7)
              obtain rfl : (⟨gt, 0, none⟩ : Addr) = ad := by injection had
              generalize hy : (tailL k)[m]'(by rw [tailL_length]; exact hm7) = y at hct
              have HSN : Hid ((tailL k).take (m + 1) = (tailL k).take m ++ [y]) := by
                show _ = _
                rw [List.take_succ_eq_append_getElem (by rw [tailL_length]; exact hm7), hy]
              clear hy had
              have hct2 : wr.cell? ⟨gt, m, none⟩ = some (.int .u8 (v8 y)) := by
                rw [← add_block, ← hct]
                exact h3.out.1.cell (by rw [← HH2.out]; exact World.block_lt_of_cell? _ _ hct)
              have HM7 := Lib.hid hm7
              clear hct hm hm7
              have hbw : Below H2 w2 (wr.alloc (.cells #[Value.int .u8 (v8 y)] 5)) := h3.out.1.alloc (by rw [← HH2.out]; exact h3.out.1.size) _
              have HBW := Lib.hid hbw
              have C1 : Hid (∀ j u, [Value.int .u8 (v8 y)][j]? = some u → (wr.alloc (.cells #[Value.int .u8 (v8 y)] 5)).cell? ((⟨wr.heap.size, 0, none⟩ : Addr).add j) = some u) := fun j u hu => by
                rw [add_block, (Blk.new wr #[Value.int .u8 (v8 y)] 5).cell j]
                simpa using hu
              have C2 : Hid (∀ u ∈ [Value.int .u8 (v8 y)], u.oneCell' = true) := fun u hu => by
                simp at hu
                subst hu
                rfl
              have C3 : Hid (L + m + 1 ≤ maxLen) := by have := HM7.out; show _ ≤ _; unfold maxLen; omega
              have C4 : Hid ((L + m + 1) * 1 ≤ 140737488355328) := by have := HM7.out; show _ ≤ _; omega
              clear hbw
              rcases h3.out.2 with ⟨hm0, rfl⟩ | ⟨hm0, hown⟩
              · have HM0 := Lib.hid hm0
                have C3a : Hid (L + 1 ≤ maxLen) := by have := HM7.out; show _ ≤ _; unfold maxLen; omega
                have C4a : Hid ((L + 1) * 1 ≤ 140737488355328) := by have := HM7.out; show _ ≤ _; omega
                have C6 : Hid (∀ b, some (⟨B k, 0, none⟩ : Addr) = some b → ∀ j u, ((markB k L).map bv)[j]? = some u → (wr.alloc (.cells #[Value.int .u8 (v8 y)] 5)).cell? (b.add j) = some u) := fun b hb j u hu => by
                  cases hb
                  have hx := HBK.out.below HBW.out (by rw [← HH2.out]; exact HBK.out.lt)
                  rw [add_block, hx.cell, ← hu]
                  unfold bvs
                  simp
                have C7 : Hid (((markB k L).map bv).length = L * 1) := by show _ = _; simp [markB_length]
                have C8 : Hid (L < L + 1) := Nat.lt_succ_self L
                have C9 : Hid (some (⟨B k, 0, none⟩ : Addr) = none → L = 0 ∧ L = 0) := fun h => by cases h
                clear hm0 h3
                go_wp2_with (first | (at_builtin; go_loud (refine wpList_append_grows _ rfl (.tmp 54) (.tmp 59) 34 rfl 5 i5 (.int .u8 0) 1 1 Try.underlying34 HI.out.1 HI.out.2.1 HI.out.2.2.1 HI.out.2.2.2 rfl (by decide) (some ⟨B k, 0, none⟩) L L ((markB k L).map bv) rfl C9.out C7.out C6.out ⟨wr.heap.size, 0, none⟩ 1 1 [Value.int .u8 (v8 y)] rfl rfl C1.out C2.out C8.out C3a.out C4a.out ?_); intro v' w7 hown7 hgrow7; have HOWN7 := Lib.hid hown7; have HGROW7 := Lib.hid hgrow7; clear hown7 hgrow7))
                have hb7 : Below H2 w2 w7 := grown_below HBW.out HGROW7.out (fun b hb h => by cases h) HH2.out
                go_roundg (700 - (m + 1))
                case measure => have := HM7.out; omega
                case rel =>
                  refine ⟨m + 1, rfl, HM7.out, by go_num, hb7, .inr ⟨Nat.succ_pos m, ?_⟩⟩
                  have h := owns_mono HOWN7.out (show H2 ≤ _ from by have := HBW.out.size; rw [HH2.out] at this; exact this)
                  have e : (List.map bv (markB k L) ++ [Value.int .u8 (v8 y)]) = ((markB k L ++ (tailL k).take (m + 1)).map bv) := by
                    rw [HSN.out, HM0.out]
                    simp [bv]
                  rw [← e, HM0.out]
                  exact h
              · have HM0 := Lib.hid hm0
                have C5 : Hid (H2 ≤ (wr.alloc (.cells #[Value.int .u8 (v8 y)] 5)).heap.size) := by have := HBW.out.size; rw [HH2.out] at this; exact this
                have C6 : Hid ((wr.alloc (.cells #[Value.int .u8 (v8 y)] 5)).ownsRow H2 5 1 u7 (L + m) ((markB k L ++ (tailL k).take m).map bv)) := owns_chg hown (Chg.of_below (S := fun _ => False) ((Below.refl _ _).alloc (Nat.le_refl _) _)) (fun _ _ h => h)
                clear hm0 h3 hown
                go_wp2_with (first | (at_builtin; go_loud (refine wpList_append_own _ rfl (.tmp 54) (.tmp 59) 34 rfl H2 5 i5 (.int .u8 0) 1 1 Try.underlying34 HI.out.1 HI.out.2.1 HI.out.2.2.1 HI.out.2.2.2 rfl (by decide) u7 (L + m) ((markB k L ++ (tailL k).take m).map bv) rfl C6.out ⟨wr.heap.size, 0, none⟩ 1 1 [Value.int .u8 (v8 y)] rfl rfl C1.out C2.out C3.out C4.out C5.out ?_); intro v' w7 hown7 hgrow7 _; have HOWN7 := Lib.hid hown7; have HGROW7 := Lib.hid hgrow7; clear hown7 hgrow7))
                have hb7 : Below H2 w2 w7 := grown_below HBW.out HGROW7.out (owns_apart C6.out) HH2.out
                go_roundg (700 - (m + 1))
                case measure => have := HM7.out; omega
                case rel =>
                  refine ⟨m + 1, rfl, HM7.out, by go_num, hb7, .inr ⟨Nat.succ_pos m, ?_⟩⟩
                  have h := HOWN7.out
                  have e : (List.map bv (markB k L ++ (tailL k).take m) ++ [Value.int .u8 (v8 y)]) = ((markB k L ++ (tailL k).take (m + 1)).map bv) := by
                    rw [HSN.out]
                    simp [bv]
                  rw [← e]
                  exact h
            · obtain rfl : m = 700 := by omega
              have hown : wr.ownsRow H2 5 1 u7 (L + 700) ((markB k L ++ tailL k).map bv) := by
                rcases h3.out.2 with ⟨h0, _⟩ | ⟨_, h⟩
                · omega
                · rw [List.take_of_length_le (by rw [tailL_length]; exact Nat.le_refl _)] at h
                  exact h
              obtain ⟨g, cap, rfl, q1, q2, q3, q4⟩ := owns_bytes hown (by omega)
              have HQ := Lib.hid (And.intro q1 (And.intro q2 (And.intro q3 q4)))
              have HB3 := Lib.hid h3.out.1
              have HMR : Hid (Below H1 w1 wr ∧ MoresAt H1 wr u5 vs l k) := ⟨HM2.out.1.trans (HB3.out.mono (by rw [← HH2.out, ← HH.out]; exact HM2.out.1.size)), HM2.out.2.below (by rw [HH2.out]; exact HB3.out)⟩
              clear hown h3 q1 q2 q3 q4 hm hm7
              have C6 : Hid ((wr.alloc (.cells #[.slice (some ⟨g, 0, none⟩) (L + 700) cap] 34)).ownsRow H1 34 1 u5 k vs) := owns_chg HMR.out.2.1 (Chg.of_below (S := fun _ => False) ((Below.refl _ _).alloc (Nat.le_refl _) _)) (fun _ _ h => h)
              have C1 : Hid (∀ j u, [Value.slice (some ⟨g, 0, none⟩) (L + 700) cap][j]? = some u → (wr.alloc (.cells #[.slice (some ⟨g, 0, none⟩) (L + 700) cap] 34)).cell? ((⟨wr.heap.size, 0, none⟩ : Addr).add j) = some u) := fun j u hu => by
                rw [add_block, (Blk.new wr #[.slice (some ⟨g, 0, none⟩) (L + 700) cap] 34).cell j]
                simpa using hu
              have C2 : Hid (∀ u ∈ [Value.slice (some ⟨g, 0, none⟩) (L + 700) cap], u.oneCell' = true) := fun u hu => by
                simp at hu
                subst hu
                rfl
              have C3 : Hid (k + 1 ≤ maxLen) := by have := HLT.out; have := HP.out.many; show _ ≤ _; unfold maxLen; omega
              have C4 : Hid ((k + 1) * 24 ≤ 140737488355328) := by have := HLT.out; have := HP.out.many; show _ ≤ _; omega
              have C5 : Hid (H1 ≤ (wr.alloc (.cells #[.slice (some ⟨g, 0, none⟩) (L + 700) cap] 34)).heap.size) := by have := HMR.out.1.size; rw [HH.out] at this; show _ ≤ _; simp; omega
              have hm7 : ¬ (((700 : Nat) : Int) < 700) := by omega
              go_wp2_with (first | (at_builtin; go_loud (refine wpList_append_lies _ rfl (.tmp 61) (.tmp 63) 32 rfl H1 34 i34 (.slice none 0 0) 1 24 Try.underlying32 HJ.out.1 HJ.out.2.1 HJ.out.2.2.1 HJ.out.2.2.2 rfl (by decide) u5 k vs rfl C6.out ⟨wr.heap.size, 0, none⟩ 1 1 [Value.slice (some ⟨g, 0, none⟩) (L + 700) cap] rfl rfl C1.out C2.out (by decide) C3.out C4.out C5.out _ rfl ?_); intro g' cap' w7 hown7 hgrow7 hat7 _; have HOWN7 := Lib.hid (And.intro hown7 (And.intro hgrow7 hat7)); clear hown7 hgrow7 hat7))
              have hM := mores_next HMR.out.2 (fun b hb => by rw [← HH2.out]; exact owns_block HM2.out.2.1 b hb) HQ.out.1 HQ.out.2.1 (by rw [← HH2.out, ← HH.out]; exact HM2.out.1.size) (by rw [HLL.out]; exact HQ.out.2.2.1) (by rw [HLL.out]; exact HQ.out.2.2.2) HOWN7.out.2.1 HOWN7.out.2.2 (by rw [HLL.out]; exact HOWN7.out.1)
              have hb7 : Below H1 w1 w7 := grown_below (HMR.out.1.alloc (by rw [← HH.out]; exact HMR.out.1.size) _) HOWN7.out.2.1 (owns_apart C6.out) HH.out
              go_roundg (i - (k + 1))
              case measure => have := HLT.out; omega
              case rel => exact ⟨k + 1, rfl, HLT.out, by go_num, hb7, hM⟩
        · obtain rfl : k = i := by omega
          have hlt2 : ¬ ((k : Int) < (k : Int)) := by omega
          obtain ⟨vs, hvs⟩ := h1.out.2
          have HM := Lib.hid hvs
          have HB1 := Lib.hid h1.out.1
          clear h1 hvs hk hlt
          obtain ⟨gM, cM, rfl⟩ : ∃ gM cM, u5 = .slice gM k cM := by
            rcases HM.out.1.2 with ⟨h, h0⟩ | ⟨g, cap, cur, h, _⟩
            · exact ⟨none, 0, by rw [h, h0]⟩
            · exact ⟨_, _, h⟩
          obtain ⟨H4, hH4⟩ : ∃ H4, wr.heap.size = H4 := ⟨_, rfl⟩
          have HH4 := Lib.hid hH4
          clear hH4
          generalize wr = w9 at *
          go_wp2_with fail
          go_loopg [10] k (fun g q wx => ∃ (m : Nat), g = k - m ∧ m ≤ k ∧ q = .int .i64 m ∧ Hid (Below H4 w9 wx))
          case atStart => exact ⟨0, rfl, Nat.zero_le _, rfl, Below.refl _ _⟩
          case round =>
            obtain ⟨m, rfl, hm, rfl, h5⟩ := hrel
            by_cases hlt : m < k
            · have hltm : (m : Int) < (k : Int) := by omega
              have m0 : (0 : Int) ≤ (m : Int) := by omega
              have hm9 : (m : Int) ≤ 8388608 := by have := HP.out.many; omega
              have HLT := Lib.hid hlt
              obtain ⟨g, cap, e1, e2, e3, e4, e6, e5⟩ := HM.out.2 m hlt
              obtain ⟨b5, rfl, hc5⟩ := owns_at HM.out.1 hlt e1
              have hcK : w9.cell? ⟨gK, m, none⟩ = some (.slice (some ⟨B m, 0, none⟩) (l m).length (l m).length) := by
                have h := HK.out m hlt
                rw [← h]
                exact HB1.out.cell (by rw [← HH.out]; exact World.block_lt_of_cell? _ _ h)
              have hL9 := HP.out.len m hlt
              have HBK : Hid (Blk w9 (B m) (bvs (markB m (l m).length)) 5) := (HD.out m hlt).below HB1.out (by rw [← HH.out]; exact (HD.out m hlt).lt)
              have HE5 := Lib.hid e5
              have hcap1 : (l m).length < cap := by omega
              obtain ⟨L, hL⟩ : ∃ L, (l m).length = L := ⟨_, rfl⟩
              rw [hL] at e6 HBK HE5 hcK hc5 hL9 hcap1
              clear hL e1 e2 e3 e4 e5 hm hlt
              have HALL : Hid (∀ w', Hid (Below H4 w9 w') → w'.cell? ⟨gK, m, none⟩ = some (.slice (some ⟨B m, 0, none⟩) L L) ∧ w'.cell? ⟨b5, m, none⟩ = some (.slice (some ⟨g, 0, none⟩) (L + 700) cap) ∧ Hid (Below H4 w9 w')) := fun w' h =>
                ⟨(h.out.cell (by rw [← HH4.out]; exact World.block_lt_of_cell? _ _ hcK)).trans hcK, (h.out.cell (by rw [← HH4.out]; exact World.block_lt_of_cell? _ _ hc5)).trans hc5, h⟩
              have HMN : Hid (m ≤ 8388608 ∧ L ≤ 512) := ⟨by omega, hL9⟩
              have CA : Hid (∀ w', Hid (Below H4 w9 w') → Calls Try.prog 66 #[.slice (some ⟨B m, 0, none⟩) L L, .int .i64 L, .int .i64 m] w' fun e w2 => e = .returned (.bool true) ∧ Hid (Below H4 w9 w2)) := fun w' h => by
                refine (marked_any (some ⟨B m, 0, none⟩) L L L m w' (Nat.le_refl _) (by have := HMN.out; omega) (by have := HMN.out; omega) (by have := HMN.out; omega) (marks_of_bytes (r := []) (by rw [List.append_nil]; exact Bytes.own' (HBK.out.below h.out (by rw [← HH4.out]; exact HBK.out.lt))))).mono ?_
                rintro e w2 ⟨rfl, n, rfl⟩
                exact ⟨rfl, h.out.trans ⟨rfl, rfl, rfl, Nat.le_refl _, fun _ _ => rfl⟩⟩
              have CB : Hid (∀ w', Hid (Below H4 w9 w') → Calls Try.prog 66 #[.slice (some ⟨g, 0, none⟩) (L + 700) cap, .int .i64 L, .int .i64 m] w' fun e w2 => e = .returned (.bool true) ∧ Hid (Below H4 w9 w2)) := fun w' h => by
                refine (marked_any (some ⟨g, 0, none⟩) (L + 700) cap L m w' (by omega) (by have := HMN.out; omega) (by have := HMN.out; omega) (by have := HMN.out; omega) (marks_of_bytes (HE5.out.below (by rw [HH4.out]; exact h.out)))).mono ?_
                rintro e w2 ⟨rfl, n, rfl⟩
                exact ⟨rfl, h.out.trans ⟨rfl, rfl, rfl, Nat.le_refl _, fun _ _ => rfl⟩⟩
              have CT : Hid (∀ w', Hid (Below H4 w9 w') → Calls Try.prog 65 #[.int .i64 m] w' fun e w2 => ∃ gt ct, e = .returned (.slice (some ⟨gt, 0, none⟩) 700 ct) ∧ Hid (Below H4 w9 w2) ∧ Hid (Bytes w2 (some ⟨gt, 0, none⟩) (tailL m))) := fun w' h => by
                refine (tail_any m w' (by have := HMN.out; omega)).mono ?_
                rintro e w2 ⟨gt, ct, rfl, ht⟩
                exact ⟨gt, ct, rfl, h.out.trans (ht.out.2.2.mono (by rw [← HH4.out]; exact h.out.size)), ht.out.2.1⟩
              have CS : Hid (∀ w' (gt x c ct : Nat), x = 700 → Hid (Below H4 w9 w') → Hid (Bytes w' (some ⟨gt, 0, none⟩) (tailL m)) → Calls Try.prog 26 #[.slice (some ⟨g, L, none⟩) x c, .slice (some ⟨gt, 0, none⟩) 700 ct] w' fun e w2 => e = .returned (.bool true) ∧ Hid (Below H4 w9 w2)) := fun w' gt x c ct hx h ht => by
                refine (same_at _ _ _ _ _ _ _ w' (tailL_length m) hx rfl (bytes_tail (HE5.out.below (by rw [HH4.out]; exact h.out)) (markB_length m L)) ht).mono ?_
                rintro e w2 ⟨rfl, hs⟩
                exact ⟨rfl, h.out.trans (hs.out.below H4)⟩
              clear hcK hc5
              have hcW := (HALL.out wr h5).1
              go_upto_region 23 with (fail)
              have hcap2 : (L : Int) ≤ (cap : Int) := by omega
              have hcap3 : (0 : Int) ≤ (L : Int) := by omega
              have hcap4 : (L : Int) + 700 ≤ (cap : Int) := by omega
              have hcap5 : (L : Int) ≤ (L : Int) + 700 := by omega
              have hcap6 : ¬ (cap = L) := by omega
              have hcap7 : ¬ (cap - L = 0) := by omega
              go_region_held3 (fun w' => w'.cell? ⟨gK, m, none⟩ = some (.slice (some ⟨B m, 0, none⟩) L L) ∧ w'.cell? ⟨b5, m, none⟩ = some (.slice (some ⟨g, 0, none⟩) (L + 700) cap) ∧ Hid (Below H4 w9 w')) (first | assumption | exact HALL.out _ (by assumption) | exact HALL.out _ h5.out.drew) (first | (go_at_call 66; (with_reducible refine (CA.out _ (by first | assumption | exact third (by assumption))).mono ?_); rintro e wx ⟨rfl, hB⟩) | (go_at_call 66; (with_reducible refine (CB.out _ (by first | assumption | exact third (by assumption))).mono ?_); rintro e wx ⟨rfl, hB⟩) | (go_at_call 65; (with_reducible refine (CT.out _ (by first | assumption | exact third (by assumption))).mono ?_); rintro e wx ⟨gt, ct, rfl, hB, hT⟩) | (go_at_call 26; (with_reducible refine (CS.out _ gt _ _ _ (by omega) (by first | assumption | exact third (by assumption)) (by assumption)).mono ?_); rintro e wx ⟨rfl, hB⟩))
              go_wp2_with fail
              go_roundg (k - (m + 1))
              case measure => have := HLT.out; omega
              case rel => exact ⟨m + 1, rfl, HLT.out, by go_num, by assumption⟩
            · obtain rfl : m = k := by omega
              have hltm : ¬ ((m : Int) < (m : Int)) := by omega
              have hfin : Hid (Chg (fun b => ∃ j, j < m ∧ b = B j) w wr) := (HW.out.trans (Chg.of_below (by rw [HH.out]; exact HB1.out))).trans (Chg.of_below (by rw [HH4.out]; exact h5.out))
              go_wp2_with fail
              go_ret
              exact ⟨rfl, hfin⟩
end Go.Proofs.Ytefmihbjboacdaa.GrownB
