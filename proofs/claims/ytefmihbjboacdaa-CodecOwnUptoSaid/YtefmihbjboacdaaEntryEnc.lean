/- EncodeEntry: the 64 bytes of an entry; zeros for the empty one; ErrField for one that does not fit. -/
import Derived.Test.YtefmihbjboacdaaLists
import Derived.Test.YtefmihbjboacdaaName
import Derived.Test.YtefmihbjboacdaaEqual
import Derived.Lib.BufferWrite
namespace Go.Proofs.Ytefmihbjboacdaa.EntryEnc
open Go.ChangeShapes Go.WideShapes Go.ChangeAt Go.RowKit
open Go.Proofs.Ytefmihbjboacdaa.Kit Go.Proofs.Ytefmihbjboacdaa.Crc Go.Proofs.Ytefmihbjboacdaa.Reads Go.Proofs.Ytefmihbjboacdaa.Copy Go.Proofs.Ytefmihbjboacdaa.Sum Go.Proofs.Ytefmihbjboacdaa.Lay Go.Proofs.Ytefmihbjboacdaa.Writer Go.Proofs.Ytefmihbjboacdaa.SuperEnc Go.Proofs.Ytefmihbjboacdaa.Lists Go.Proofs.Ytefmihbjboacdaa.Name
set_option linter.unusedVariables false

/-- an entry's fields so far -/
def L1 (n : Nat) : List UInt8 := leN 4 n
def L2 (n k : Nat) : List UInt8 := L1 n ++ leN 1 k
def L3 (n k m : Nat) : List UInt8 := L2 n k ++ leN 1 m
def L4 (n k : Nat) (s : List UInt8) : List UInt8 := L3 n k s.length ++ s
theorem L1_length (n : Nat) : (L1 n).length = 4 := leN_length ..
theorem L2_length (n k : Nat) : (L2 n k).length = 5 := by unfold L2; rw [List.length_append, L1_length, leN_length]
theorem L3_length (n k m : Nat) : (L3 n k m).length = 6 := by unfold L3; rw [List.length_append, L2_length, leN_length]
theorem L4_length (n k : Nat) (s : List UInt8) : (L4 n k s).length = 6 + s.length := by unfold L4; rw [List.length_append, L3_length]
/-- the entry's 64 bytes -/
def entryBytes (n k : Nat) (s : List UInt8) : List UInt8 := sealed4 (put (zs 64) 0 (L4 n k s))
theorem put_zs (xs : List UInt8) (h : xs.length ≤ 64) : (put (zs 64) 0 xs).length = 64 := by rw [put_length _ _ _ (by rw [zs_length]; omega), zs_length]
theorem entryBytes_length (n k : Nat) (s : List UInt8) (h : s.length ≤ 58) : (entryBytes n k s).length = 64 := by
  have h1 := put_zs (L4 n k s) (by rw [L4_length]; omega)
  unfold entryBytes
  rw [sealed4_length _ (by rw [h1]; decide), h1]
/-- may such an entry be laid down? -/
def EFits (n k : Int) (s : ByteArray) : Prop := 1 ≤ n ∧ n ≤ 1024 ∧ 1 ≤ k ∧ k ≤ 3 ∧ nameErr s = 0
instance (n k : Int) (s : ByteArray) : Decidable (EFits n k s) := by unfold EFits; infer_instance
def EZero (n k : Int) (s : ByteArray) : Prop := n = 0 ∧ k = 0 ∧ s = ⟨#[]⟩
instance (n k : Int) (s : ByteArray) : Decidable (EZero n k s) := by unfold EZero; infer_instance
theorem size_of_ok {s : ByteArray} (h : nameErr s = 0) : s.size ≤ 54 ∧ 0 < s.size := by
  unfold nameErr at h
  by_cases h1 : 54 < s.size
  · rw [if_pos h1] at h; omega
  · rw [if_neg h1] at h
    refine ⟨by omega, ?_⟩
    by_cases h2 : s = ⟨#[]⟩
    · rw [if_pos (.inl h2)] at h; omega
    · have : s.size ≠ 0 := fun e => h2 (by
        cases s with
        | mk d =>
          have : d.size = 0 := e
          rw [Array.eq_empty_of_size_eq_zero this])
      omega

def BetPost (v lo hi : Int) (w : World) (e : Ending) (w' : World) : Prop := e = .returned (.bool (decide (lo ≤ v ∧ v ≤ hi))) ∧ w = w'
theorem between_any (v lo hi : Int) (w : World) : Calls Try.prog 63 #[.int .i64 v, .int .i64 lo, .int .i64 hi] w (BetPost v lo hi w) := by
  by_cases h1 : lo ≤ v
  · by_cases h2 : v ≤ hi
    · have HD := Lib.hid (decide_eq_true (And.intro h1 h2))
      go_enter Try.func63, Try.ntmps63
      go_wp2_with fail
      go_ret
      exact ⟨by rw [HD.out]; rfl, rfl⟩
    · have HD := Lib.hid (decide_eq_false (fun h : lo ≤ v ∧ v ≤ hi => h2 h.2))
      go_enter Try.func63, Try.ntmps63
      go_wp2_with fail
      go_ret
      exact ⟨by rw [HD.out]; rfl, rfl⟩
  · have HD := Lib.hid (decide_eq_false (fun h : lo ≤ v ∧ v ≤ hi => h1 h.1))
    go_enter Try.func63, Try.ntmps63
    go_wp2_with fail
    go_ret
    exact ⟨by rw [HD.out]; rfl, rfl⟩
theorem between_yes (v lo hi : Int) (w : World) (h : lo ≤ v ∧ v ≤ hi) : Calls Try.prog 63 #[.int .i64 v, .int .i64 lo, .int .i64 hi] w fun e w' => e = .returned (.bool true) ∧ w = w' := by
  have := between_any v lo hi w
  unfold BetPost at this
  rwa [decide_eq_true h] at this
theorem between_no (v lo hi : Int) (w : World) (h : ¬ (lo ≤ v ∧ v ≤ hi)) : Calls Try.prog 63 #[.int .i64 v, .int .i64 lo, .int .i64 hi] w fun e w' => e = .returned (.bool false) ∧ w = w' := by
  have := between_any v lo hi w
  unfold BetPost at this
  rwa [decide_eq_false h] at this
theorem name_at (s : ByteArray) (q : Int) (w : World) (h : nameErr s = q) : Calls Try.prog 32 #[.string s] w fun e w' => e = .returned (.int .i64 q) ∧ Below w.heap.size w w' := by
  refine (name_any s w).mono ?_
  rintro e w' ⟨rfl, hb⟩
  exact ⟨by rw [h], hb.out⟩
theorem name_yes (s : ByteArray) (w : World) (h : nameErr s = 0) : Calls Try.prog 32 #[.string s] w fun e w' => e = .returned (.int .i64 0) ∧ Below w.heap.size w w' := by
  refine (name_any s w).mono ?_
  rintro e w' ⟨rfl, hb⟩
  exact ⟨by rw [h], hb.out⟩

theorem name_copy {w : World} {B : Nat} {n k : Nat} {s : ByteArray} (h : s.size ≤ 54) (hk : Blk w B (bvs (put (zs 64) 0 (L3 n k s.size))) 5) :
    ∃ w', (Builtin.copy_ #[34, 9] 3 #[.slice (some ⟨B, 6, none⟩) 58 58, .string s]).run Try.prog w = .ok (.int .i64 s.size) w' ∧ Blk w' B (bvs (put (zs 64) 0 (L4 n k s.data.toList))) 5 ∧ Only B w w' := by
  have hlen : s.data.toList.length = s.size := Array.length_toList
  have hpl : (put (zs 64) 0 (L3 n k s.size)).length = 64 := put_zs _ (by rw [L3_length]; decide)
  have hrun := Lib.run_copy_row_string (P := Try.prog) w 34 9 3 5 B 6 58 58 s (bvs (put (zs 64) 0 (L3 n k s.size))) 5 Try.underlying34 (by kernel_rfl) hk (by omega) (by rw [bvs_size, hpl]; omega)
  refine ⟨w.setRow B (bvs (put (zs 64) 0 (L4 n k s.data.toList))), hrun.trans ?_, setRow_heap w B _ _ 5 _ hk, ⟨rfl, rfl, rfl, by simp [World.setRow], fun k hk => setRow_other w B k _ (by omega)⟩⟩
  have e := bvs_splice (put (zs 64) 0 (L3 n k s.size)) s.data.toList 6
  have e2 : Lib.byteCells s.data.toList = s.data.toList.map bv := rfl
  have e3 : s.size = (s.data.toList.map bv).length := by rw [List.length_map, hlen]
  have e4 : put (put (zs 64) 0 (L3 n k s.size)) 6 s.data.toList = put (zs 64) 0 (L4 n k s.data.toList) := by
    rw [put_put (by rw [L3_length]) (by rw [zs_length, hlen]; omega)]
    unfold L4
    rw [hlen]
  rw [e2]
  conv in (6 + s.size) => rw [e3]
  rw [e]
  have e5 : List.take 6 (put (zs 64) 0 (L3 n k s.size)) ++ s.data.toList ++ List.drop (6 + s.data.toList.length) (put (zs 64) 0 (L3 n k s.size)) = put (put (zs 64) 0 (L3 n k s.size)) 6 s.data.toList := rfl
  rw [e5, e4]
  rfl
set_option maxRecDepth 100000 in
set_option maxHeartbeats 1600000 in
theorem enc_zero (sl : Int) (w : World) :
    Calls Try.prog 35 #[.agg #[.int .i64 0, .int .i64 0, .string ⟨#[]⟩, .int .i64 sl]] w fun e w' => ∃ B, e = .returned (.tuple #[.slice (some ⟨B, 0, none⟩) 64 64, .int .i64 0]) ∧ Made w w' B (zs 64) := by
  obtain ⟨i5, hi, hz0, hz1, hz2⟩ := info_parts info5
  have hmk : ∀ w, (Instr.makeSlice 34 (.int .i64 64) (.int .i64 64)).run Try.prog w = .ok (.slice (some ⟨w.heap.size, 0, none⟩) 64 64) (w.alloc (.cells (bvs (zs 64)) 5)) := make_bytes Try.underlying34 hi hz0 hz1 hz2 64 64 rfl (by omega)
  clear hi hz0 hz1 hz2
  go_enter Try.func35, Try.ntmps35
  go_upto_region 2 with (fail)
  refine gen_world (fun w' => Hid (Below w.heap.size w w' ∧ Blk w' w.heap.size #[.int .i64 0, .int .i64 0, .string ⟨#[]⟩, .int .i64 sl] 61 ∧ Wr w' (w.heap.size + 2) (w.heap.size + 1) (zs 64) 0)) ?_ ?_
  · refine ⟨?_, ((Blk.new w _ _).alloc _).alloc _, by omega, ?_, ?_⟩
    · exact (((Below.refl _ _).alloc (Nat.le_refl _) _).alloc (by simp) _).alloc (by simp; omega) _
    · have h := Blk.new ((w.alloc (.cells #[.int .i64 0, .int .i64 0, .string ⟨#[]⟩, .int .i64 sl] 61)).alloc (.cells (bvs (zs 64)) 5)) #[.slice (some ⟨w.heap.size + 1, 0, none⟩) 64 64, .int .i64 0] 86
      rw [zs_length]
      simpa using h
    · have h := (Blk.new (w.alloc (.cells #[.int .i64 0, .int .i64 0, .string ⟨#[]⟩, .int .i64 sl] 61)) (bvs (zs 64)) 5).alloc (.cells #[.slice (some ⟨w.heap.size + 1, 0, none⟩) 64 64, .int .i64 0] 86)
      simpa using h
  rintro w1 h1
  have c0 : w1.cell? ⟨w.heap.size, 0, none⟩ = some (.int .i64 0) := (h1.out.2.1.cell 0).trans rfl
  have c1 : w1.cell? ⟨w.heap.size, 1, none⟩ = some (.int .i64 0) := (h1.out.2.1.cell 1).trans rfl
  have c2 : w1.cell? ⟨w.heap.size, 2, none⟩ = some (.string ⟨#[]⟩) := (h1.out.2.1.cell 2).trans rfl
  have d0 : w1.cell? ⟨w.heap.size + 2, 0, none⟩ = some (.slice (some ⟨w.heap.size + 1, 0, none⟩) 64 64) := by rw [h1.out.2.2.2.1.cell, zs_length]; rfl
  go_wp2_with fail
  go_ret2
  exact ⟨w.heap.size + 1, rfl, by omega, h1.out.1, h1.out.2.2.2.2⟩

def Begun (n k : Int) (s : ByteArray) (sl : Int) (w w' : World) : Prop := Below w.heap.size w w' ∧ Blk w' w.heap.size #[.int .i64 n, .int .i64 k, .string s, .int .i64 sl] 61 ∧ Wr w' (w.heap.size + 2) (w.heap.size + 1) (zs 64) 0
theorem begun (n k : Int) (s : ByteArray) (sl : Int) (w : World) : Begun n k s sl w (((w.alloc (.cells #[.int .i64 n, .int .i64 k, .string s, .int .i64 sl] 61)).alloc (.cells (bvs (zs 64)) 5)).alloc (.cells #[.slice (some ⟨w.heap.size + 1, 0, none⟩) 64 64, .int .i64 0] 86)) := by
  refine ⟨?_, ((Blk.new w _ _).alloc _).alloc _, by omega, ?_, ?_⟩
  · exact (((Below.refl _ _).alloc (Nat.le_refl _) _).alloc (by simp) _).alloc (by simp; omega) _
  · have h := Blk.new ((w.alloc (.cells #[.int .i64 n, .int .i64 k, .string s, .int .i64 sl] 61)).alloc (.cells (bvs (zs 64)) 5)) #[.slice (some ⟨w.heap.size + 1, 0, none⟩) 64 64, .int .i64 0] 86
    rw [zs_length]
    simpa using h
  · have h := (Blk.new (w.alloc (.cells #[.int .i64 n, .int .i64 k, .string s, .int .i64 sl] 61)) (bvs (zs 64)) 5).alloc (.cells #[.slice (some ⟨w.heap.size + 1, 0, none⟩) 64 64, .int .i64 0] 86)
    simpa using h
theorem not_empty {s : ByteArray} (h : ¬ s = ⟨#[]⟩) : s.toList.isEmpty = false := by
  have e0 := list_ne h
  cases hs : s.toList with
  | nil => exact absurd hs e0
  | cons a l => rfl
theorem not_zero {n k : Int} {s : ByteArray} (h : ¬ EZero n k s) : ¬ n = 0 ∨ (n = 0 ∧ ¬ k = 0) ∨ (n = 0 ∧ k = 0 ∧ s.toList.isEmpty = false) := by
  by_cases h1 : n = 0
  · by_cases h2 : k = 0
    · exact .inr (.inr ⟨h1, h2, not_empty (fun e => h ⟨h1, h2, e⟩)⟩)
    · exact .inr (.inl ⟨h1, h2⟩)
  · exact .inl h1
theorem not_fits {n k : Int} {s : ByteArray} (h : ¬ EFits n k s) : ¬ (1 ≤ n ∧ n ≤ 1024) ∨ ((1 ≤ n ∧ n ≤ 1024) ∧ ¬ (1 ≤ k ∧ k ≤ 3)) ∨ ((1 ≤ n ∧ n ≤ 1024) ∧ (1 ≤ k ∧ k ≤ 3) ∧ ¬ nameErr s = 0) := by
  by_cases h1 : 1 ≤ n ∧ n ≤ 1024
  · by_cases h2 : 1 ≤ k ∧ k ≤ 3
    · exact .inr (.inr ⟨h1, h2, fun e => h ⟨h1.1, h1.2, h2.1, h2.2, e⟩⟩)
    · exact .inr (.inl ⟨h1, h2⟩)
  · exact .inl h1

set_option maxRecDepth 100000 in
set_option maxHeartbeats 1600000 in
theorem enc_no (n k : Int) (s : ByteArray) (sl : Int) (w : World) (hz : ¬ EZero n k s) (hf : ¬ EFits n k s) :
    Calls Try.prog 35 #[.agg #[.int .i64 n, .int .i64 k, .string s, .int .i64 sl]] w fun e w' => e = .returned (.tuple #[.slice none 0 0, .int .i64 20]) ∧ Below w.heap.size w w' := by
  obtain ⟨i5, hi, hz0, hz1, hz2⟩ := info_parts info5
  have hmk : ∀ w, (Instr.makeSlice 34 (.int .i64 64) (.int .i64 64)).run Try.prog w = .ok (.slice (some ⟨w.heap.size, 0, none⟩) 64 64) (w.alloc (.cells (bvs (zs 64)) 5)) := make_bytes Try.underlying34 hi hz0 hz1 hz2 64 64 rfl (by omega)
  clear hi hz0 hz1 hz2
  have HZ := Lib.hid (not_zero hz)
  have HF := Lib.hid (not_fits hf)
  clear hz hf
  have HB := Lib.hid (begun n k s sl w)
  go_enter Try.func35, Try.ntmps35
  go_upto_region 2 with (fail)
  refine gen_world (fun w' => Hid (Begun n k s sl w w')) HB ?_
  clear HB hmk
  rintro w1 h1
  have c0 : w1.cell? ⟨w.heap.size, 0, none⟩ = some (.int .i64 n) := (h1.out.2.1.cell 0).trans rfl
  have c1 : w1.cell? ⟨w.heap.size, 1, none⟩ = some (.int .i64 k) := (h1.out.2.1.cell 1).trans rfl
  have c2 : w1.cell? ⟨w.heap.size, 2, none⟩ = some (.string s) := (h1.out.2.1.cell 2).trans rfl
  rcases HZ.out with hn | ⟨rfl, hk⟩ | ⟨rfl, rfl, hs⟩
  · clear HZ
    go_wp2_with fail
    rcases HF.out with hx | ⟨hx, hy⟩ | ⟨hx, hy, hw⟩
    · refine (between_no _ _ _ _ hx).mono ?_
      clear HF hx
      rintro e w2 ⟨rfl, rfl⟩
      go_wp2_with fail
      go_ret2
      exact ⟨rfl, h1.out.1⟩
    · refine (between_yes _ _ _ _ hx).mono ?_
      clear HF hx
      rintro e w2 ⟨rfl, rfl⟩
      go_wp2_with fail
      refine (between_no _ _ _ _ hy).mono ?_
      clear hy
      rintro e w2 ⟨rfl, rfl⟩
      go_wp2_with fail
      go_ret2
      exact ⟨rfl, h1.out.1⟩
    · refine (between_yes _ _ _ _ hx).mono ?_
      clear HF hx
      rintro e w2 ⟨rfl, rfl⟩
      go_wp2_with fail
      refine (between_yes _ _ _ _ hy).mono ?_
      clear hy
      rintro e w2 ⟨rfl, rfl⟩
      go_wp2_with fail
      obtain ⟨q, hq⟩ : ∃ q, nameErr s = q := ⟨_, rfl⟩
      refine (name_at s q _ hq).mono ?_
      rw [hq] at hw
      have t0 : (q != 0) = true := by simp [hw]
      clear hq
      rintro e w2 ⟨rfl, hb'⟩
      have hb := Lib.hid hb'
      clear hb'
      clear c0 c1 c2
      go_wp2_with fail
      go_ret2
      exact ⟨rfl, h1.out.1.trans (hb.out.mono h1.out.1.size)⟩
  · clear HZ HF
    go_wp2_with fail
    refine (between_no _ _ _ _ (by omega)).mono ?_
    rintro e w2 ⟨rfl, rfl⟩
    go_wp2_with fail
    go_ret2
    exact ⟨rfl, h1.out.1⟩
  · clear HZ HF
    go_wp2_with fail
    refine (between_no _ _ _ _ (by omega)).mono ?_
    rintro e w2 ⟨rfl, rfl⟩
    go_wp2_with fail
    go_ret2
    exact ⟨rfl, h1.out.1⟩

theorem number_st (W B : Nat) (z xs : List UInt8) (place n N : Nat) (q v : Int) (w : World) (hz : z.length = N) (hpl : place = xs.length) (hq : q = (n : Int)) (hn : n ≤ 8) (h0 : 0 ≤ v) (hv : v < 9223372036854775808) (hfit : place + n ≤ N) (hl : N ≤ 140737488351232) (H : Hid (Wr w W B (put z 0 xs) place)) :
    Calls Try.prog 52 #[.pointer (some ⟨W, 0, none⟩), .int .i64 q, .int .i64 v] w fun e w' => e = .returned (.tuple #[]) ∧ Hid (Two W B w w' ∧ Wr w' W B (put z 0 (xs ++ leN n v.toNat)) (place + n)) := by
  have hlen : (put z 0 xs).length = z.length := put_length _ _ _ (by omega)
  refine (number_at W B (put z 0 xs) place n q v w hq hn h0 hv (by rw [hlen, hz]; exact hfit) (by rw [hlen, hz]; exact hl) H).mono ?_
  rintro e w' ⟨rfl, h⟩
  refine ⟨rfl, h.out.1, ?_⟩
  have h2 := h.out.2
  rw [put_put (by omega) (by rw [leN_length]; omega)] at h2
  exact h2

set_option maxRecDepth 100000 in
set_option maxHeartbeats 1600000 in
theorem enc_yes (n k : Nat) (s : ByteArray) (sl : Int) (w : World) (hf : EFits n k s) :
    Calls Try.prog 35 #[.agg #[.int .i64 n, .int .i64 k, .string s, .int .i64 sl]] w fun e w' => ∃ B, e = .returned (.tuple #[.slice (some ⟨B, 0, none⟩) 64 64, .int .i64 0]) ∧ Made w w' B (entryBytes n k s.data.toList) := by
  obtain ⟨i5, hi, hz0, hz1, hz2⟩ := info_parts info5
  have hmk : ∀ w, (Instr.makeSlice 34 (.int .i64 64) (.int .i64 64)).run Try.prog w = .ok (.slice (some ⟨w.heap.size, 0, none⟩) 64 64) (w.alloc (.cells (bvs (zs 64)) 5)) := make_bytes Try.underlying34 hi hz0 hz1 hz2 64 64 rfl (by omega)
  clear hi hz0 hz1 hz2
  obtain ⟨f1, f2, f3, f4, f5⟩ := hf
  have HS := Lib.hid (size_of_ok f5)
  have F5 := Lib.hid f5
  clear f5
  have HB := Lib.hid (begun n k s sl w)
  go_enter Try.func35, Try.ntmps35
  go_upto_region 2 with (fail)
  refine gen_world (fun w' => Hid (Begun n k s sl w w')) HB ?_
  clear HB hmk
  rintro w1 h1
  have c0 : w1.cell? ⟨w.heap.size, 0, none⟩ = some (.int .i64 n) := (h1.out.2.1.cell 0).trans rfl
  have c1 : w1.cell? ⟨w.heap.size, 1, none⟩ = some (.int .i64 k) := (h1.out.2.1.cell 1).trans rfl
  have c2 : w1.cell? ⟨w.heap.size, 2, none⟩ = some (.string s) := (h1.out.2.1.cell 2).trans rfl
  go_wp2_with fail
  refine (between_yes _ _ _ _ ⟨f1, f2⟩).mono ?_
  rintro e w2 ⟨rfl, rfl⟩
  go_wp2_with fail
  refine (between_yes _ _ _ _ ⟨f3, f4⟩).mono ?_
  rintro e w2 ⟨rfl, rfl⟩
  go_wp2_with fail
  refine (name_yes s _ F5.out).mono ?_
  rintro e w2 ⟨rfl, hb2⟩
  have h2 : Hid (Below w.heap.size w w2 ∧ Blk w2 w.heap.size #[.int .i64 n, .int .i64 k, .string s, .int .i64 sl] 61 ∧ Wr w2 (w.heap.size + 2) (w.heap.size + 1) (put (zs 64) 0 []) 0) := by
    refine ⟨h1.out.1.trans (hb2.mono h1.out.1.size), h1.out.2.1.below hb2 h1.out.2.1.lt, ?_⟩
    rw [put_nil]
    exact h1.out.2.2.below hb2
  clear hb2 h1 c0 c1 c2
  have c0 : w2.cell? ⟨w.heap.size, 0, none⟩ = some (.int .i64 n) := (h2.out.2.1.cell 0).trans rfl
  go_wp2_with fail
  clear c0
  refine (number_st (w.heap.size + 2) (w.heap.size + 1) (zs 64) [] 0 4 64 4 _ _ (zs_length _) rfl rfl (by decide) (by omega) (by omega) (by decide) (by decide) h2.out.2.2).mono ?_
  rintro e w3 ⟨rfl, g⟩
  have h3 : Hid (Below w.heap.size w w3 ∧ Blk w3 w.heap.size #[.int .i64 n, .int .i64 k, .string s, .int .i64 sl] 61 ∧ Wr w3 (w.heap.size + 2) (w.heap.size + 1) (put (zs 64) 0 (L1 n)) 4) :=
    ⟨h2.out.1.trans (g.out.1.below (by omega) (by omega)), g.out.1.blk h2.out.2.1 (by omega) (by omega), g.out.2⟩
  clear g h2
  have c0 : w3.cell? ⟨w.heap.size, 1, none⟩ = some (.int .i64 k) := (h3.out.2.1.cell 1).trans rfl
  go_wp2_with fail
  clear c0
  refine (number_st (w.heap.size + 2) (w.heap.size + 1) (zs 64) (L1 n) 4 1 64 1 _ _ (zs_length _) (L1_length _).symm rfl (by decide) (by omega) (by omega) (by decide) (by decide) h3.out.2.2).mono ?_
  rintro e w4 ⟨rfl, g⟩
  have h4 : Hid (Below w.heap.size w w4 ∧ Blk w4 w.heap.size #[.int .i64 n, .int .i64 k, .string s, .int .i64 sl] 61 ∧ Wr w4 (w.heap.size + 2) (w.heap.size + 1) (put (zs 64) 0 (L2 n k)) 5) :=
    ⟨h3.out.1.trans (g.out.1.below (by omega) (by omega)), g.out.1.blk h3.out.2.1 (by omega) (by omega), g.out.2⟩
  clear g h3
  have c0 : w4.cell? ⟨w.heap.size, 2, none⟩ = some (.string s) := (h4.out.2.1.cell 2).trans rfl
  go_wp2_with fail
  clear c0
  refine (number_st (w.heap.size + 2) (w.heap.size + 1) (zs 64) (L2 n k) 5 1 64 1 _ _ (zs_length _) (L2_length _ _).symm rfl (by decide) (by omega) (by have := HS.out; omega) (by decide) (by decide) h4.out.2.2).mono ?_
  rintro e w5 ⟨rfl, g⟩
  have h5 : Hid (Below w.heap.size w w5 ∧ Blk w5 w.heap.size #[.int .i64 n, .int .i64 k, .string s, .int .i64 sl] 61 ∧ Wr w5 (w.heap.size + 2) (w.heap.size + 1) (put (zs 64) 0 (L3 n k s.size)) 6) :=
    ⟨h4.out.1.trans (g.out.1.below (by omega) (by omega)), g.out.1.blk h4.out.2.1 (by omega) (by omega), g.out.2⟩
  clear g h4
  obtain ⟨w6, hrun, hk6, ho6⟩ := name_copy (w := w5.drew) HS.out.1 h5.out.2.2.2.2
  have HO := Lib.hid ho6
  have HK := Lib.hid hk6
  clear hk6 ho6
  have c0 : w5.cell? ⟨w.heap.size, 2, none⟩ = some (.string s) := (h5.out.2.1.cell 2).trans rfl
  have c1 : w5.cell? ⟨w.heap.size + 2, 0, none⟩ = some (.slice (some ⟨w.heap.size + 1, 0, none⟩) 64 64) := by rw [h5.out.2.2.2.1.cell, put_zs _ (by rw [L3_length]; decide)]; rfl
  have c2 : w5.cell? ⟨w.heap.size + 2, 1, none⟩ = some (.int .i64 6) := (h5.out.2.2.2.1.cell 1).trans rfl
  go_wp2_with fail
  go_region
  have h7 : Hid (Below w.heap.size w w6 ∧ Wr w6 (w.heap.size + 2) (w.heap.size + 1) (put (zs 64) 0 (L4 n k s.data.toList)) 6) := by
    have hb := HO.out.below (B0 := w.heap.size) (by omega)
    have hw := HO.out.blk (h5.out.2.2.2.1.drew) (by omega)
    refine ⟨h5.out.1.drew.trans hb, by omega, ?_, HK.out⟩
    have hl : (L4 n k s.data.toList).length ≤ 64 := by rw [L4_length]; have := HS.out; have e : s.data.toList.length = s.size := Array.length_toList; omega
    rw [put_zs _ hl]
    rw [put_zs _ (by rw [L3_length]; decide)] at hw
    exact hw
  clear c0 c1 c2 h5 HO HK hrun
  go_wp2_with fail
  refine (sealed_any (w.heap.size + 2) (w.heap.size + 1) 60 (put (zs 64) 0 (L4 n k s.data.toList)) 6 _ (by rw [put_zs _ (by rw [L4_length]; have := HS.out; have e : s.data.toList.length = s.size := Array.length_toList; omega)]) (by omega) h7.out.2).mono ?_
  rintro e w8 ⟨rfl, h8⟩
  go_wp2_with fail
  go_ret2
  exact ⟨w.heap.size + 1, rfl, by omega, h7.out.1.trans (h8.out.1.below h7.out.1.size (fun k hk => by omega)), h8.out.2.2.2⟩

/-- may it be laid down; its bytes -/
def EOk (n k : Int) (s : ByteArray) : Prop := EZero n k s ∨ EFits n k s
instance (n k : Int) (s : ByteArray) : Decidable (EOk n k s) := by unfold EOk; infer_instance
def entryOf (n k : Int) (s : ByteArray) : List UInt8 := if EZero n k s then zs 64 else entryBytes n.toNat k.toNat s.data.toList
theorem entryOf_length {n k : Int} {s : ByteArray} (h : EOk n k s) : (entryOf n k s).length = 64 := by
  unfold entryOf
  by_cases hz : EZero n k s
  · rw [if_pos hz, zs_length]
  · rw [if_neg hz]
    refine entryBytes_length _ _ _ ?_
    rcases h with h | h
    · exact absurd h hz
    · have h1 := size_of_ok h.2.2.2.2
      have h2 : s.data.toList.length = s.size := Array.length_toList
      omega
theorem eok_bounds {n k : Int} {s : ByteArray} (h : EOk n k s) : 0 ≤ n ∧ n ≤ 1024 ∧ 0 ≤ k ∧ k ≤ 3 := by
  rcases h with ⟨h1, h2, _⟩ | ⟨h1, h2, h3, h4, _⟩ <;> omega
theorem enc_ok (n k : Int) (s : ByteArray) (sl : Int) (w : World) (h : EOk n k s) :
    Calls Try.prog 35 #[.agg #[.int .i64 n, .int .i64 k, .string s, .int .i64 sl]] w fun e w' => ∃ B, e = .returned (.tuple #[.slice (some ⟨B, 0, none⟩) 64 64, .int .i64 0]) ∧ Made w w' B (entryOf n k s) := by
  by_cases hz : EZero n k s
  · unfold entryOf
    rw [if_pos hz]
    obtain ⟨rfl, rfl, rfl⟩ := hz
    exact enc_zero sl w
  · have hf : EFits n k s := h.resolve_left hz
    unfold entryOf
    rw [if_neg hz]
    have hb := eok_bounds h
    obtain ⟨a, rfl⟩ := Int.eq_ofNat_of_zero_le hb.1
    obtain ⟨b, rfl⟩ := Int.eq_ofNat_of_zero_le hb.2.2.1
    rw [Int.toNat_natCast, Int.toNat_natCast]
    exact enc_yes a b s sl w hf
theorem enc_bad (n k : Int) (s : ByteArray) (sl : Int) (w : World) (h : ¬ EOk n k s) :
    Calls Try.prog 35 #[.agg #[.int .i64 n, .int .i64 k, .string s, .int .i64 sl]] w fun e w' => e = .returned (.tuple #[.slice none 0 0, .int .i64 20]) ∧ Below w.heap.size w w' :=
  enc_no n k s sl w (fun hz => h (.inl hz)) (fun hf => h (.inr hf))
end Go.Proofs.Ytefmihbjboacdaa.EntryEnc
