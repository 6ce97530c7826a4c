/- api.Errno.Error: the word of a number. (Printed by genwords.py.) -/
import Derived.Test.YtcdhkeahcliefaaKit
import Derived.Test.YtcdhkeahcliefaaFrame
import Derived.Lib.Hide
import Derived.Laws.Tables
import Derived.Great.BuildSlice
namespace Go.Proofs.Ytcdhkeahcliefaa.Words
open Go.ChangeShapes Go.WideShapes Go.ChangeAt Go.RowKit
open Go.Proofs.Ytcdhkeahcliefaa.Kit
set_option linter.unusedVariables false
def table : List (Int × ByteArray) := [(0, { data := #[111, 107] }), (1, { data := #[97, 114, 103] }), (2, { data := #[108, 101, 110, 103, 116, 104] }), (3, { data := #[100, 101, 97, 100] }), (4, { data := #[101, 110, 100, 101, 100] }), (5, { data := #[98, 117, 115, 121] }), (6, { data := #[99, 111, 114, 114, 117, 112, 116] }), (7, { data := #[108, 111, 110, 103] }), (10, { data := #[115, 101, 99, 116, 111, 114, 115] }), (11, { data := #[114, 97, 110, 103, 101] }), (20, { data := #[102, 105, 101, 108, 100] }), (21, { data := #[110, 97, 109, 101] }), (22, { data := #[103, 101, 111, 109, 101, 116, 114, 121] }), (30, { data := #[116, 111, 114, 110] }), (31, { data := #[115, 116, 97, 108, 101] }), (40, { data := #[102, 117, 108, 108] }), (41, { data := #[119, 111, 114, 110] }), (50, { data := #[98, 117, 100, 103, 101, 116] }), (60, { data := #[110, 111, 115, 112, 97, 99, 101] }), (61, { data := #[110, 111, 110, 111, 100, 101, 115] }), (62, { data := #[102, 114, 101, 101] }), (70, { data := #[110, 111, 100, 101] }), (71, { data := #[111, 119, 110, 101, 100] }), (80, { data := #[98, 105, 103] }), (90, { data := #[115, 116, 101, 112] }), (100, { data := #[110, 111, 116, 102, 111, 117, 110, 100] }), (101, { data := #[101, 120, 105, 115, 116, 115] }), (110, { data := #[112, 97, 116, 104] }), (111, { data := #[110, 111, 116, 100, 105, 114] }), (112, { data := #[108, 111, 111, 112] }), (120, { data := #[119, 111, 114, 107, 101, 114, 115] }), (130, { data := #[111, 112] }), (131, { data := #[105, 115, 100, 105, 114] }), (132, { data := #[110, 111, 116, 101, 109, 112, 116, 121] }), (133, { data := #[108, 105, 110, 107, 115] }), (134, { data := #[105, 110, 115, 105, 100, 101] }), (136, { data := #[110, 111, 116, 108, 105, 110, 107] }), (137, { data := #[110, 111, 116, 104, 101, 108, 100] }), (140, { data := #[104, 97, 110, 100, 108, 101] }), (141, { data := #[109, 111, 100, 101] }), (142, { data := #[109, 97, 110, 121] }), (150, { data := #[97, 114, 99, 104, 105, 118, 101] }), (160, { data := #[119, 111, 114, 100] }), (180, { data := #[112, 97, 116, 99, 104] }), (181, { data := #[98, 97, 115, 101] }), (190, { data := #[112, 97, 116, 116, 101, 114, 110] }), (191, { data := #[113, 117, 101, 114, 121] }), (192, { data := #[100, 101, 101, 112] }), (200, { data := #[115, 101, 115, 115, 105, 111, 110] }), (201, { data := #[119, 97, 105, 116, 115] }), (202, { data := #[100, 101, 97, 100, 108, 111, 99, 107] }), (203, { data := #[108, 111, 99, 107, 115] })]
def wordIn : List (Int × ByteArray) → Int → ByteArray
  | [], _ => { data := #[101, 114, 114, 111, 114] }
  | (n, s) :: l, e => if n = e then s else wordIn l e
def word (e : Int) : ByteArray := wordIn table e
def cell (p : Int × ByteArray) : Value := .agg #[.int .i64 p.1, .string p.2]
def parts : Array (Nat × Value) := #[(0, .agg #[.int .i64 0, .string { data := #[111, 107] }]), (1, .agg #[.int .i64 1, .string { data := #[97, 114, 103] }]), (2, .agg #[.int .i64 2, .string { data := #[108, 101, 110, 103, 116, 104] }]), (3, .agg #[.int .i64 3, .string { data := #[100, 101, 97, 100] }]), (4, .agg #[.int .i64 4, .string { data := #[101, 110, 100, 101, 100] }]), (5, .agg #[.int .i64 5, .string { data := #[98, 117, 115, 121] }]), (6, .agg #[.int .i64 6, .string { data := #[99, 111, 114, 114, 117, 112, 116] }]), (7, .agg #[.int .i64 7, .string { data := #[108, 111, 110, 103] }]), (8, .agg #[.int .i64 10, .string { data := #[115, 101, 99, 116, 111, 114, 115] }]), (9, .agg #[.int .i64 11, .string { data := #[114, 97, 110, 103, 101] }]), (10, .agg #[.int .i64 20, .string { data := #[102, 105, 101, 108, 100] }]), (11, .agg #[.int .i64 21, .string { data := #[110, 97, 109, 101] }]), (12, .agg #[.int .i64 22, .string { data := #[103, 101, 111, 109, 101, 116, 114, 121] }]), (13, .agg #[.int .i64 30, .string { data := #[116, 111, 114, 110] }]), (14, .agg #[.int .i64 31, .string { data := #[115, 116, 97, 108, 101] }]), (15, .agg #[.int .i64 40, .string { data := #[102, 117, 108, 108] }]), (16, .agg #[.int .i64 41, .string { data := #[119, 111, 114, 110] }]), (17, .agg #[.int .i64 50, .string { data := #[98, 117, 100, 103, 101, 116] }]), (18, .agg #[.int .i64 60, .string { data := #[110, 111, 115, 112, 97, 99, 101] }]), (19, .agg #[.int .i64 61, .string { data := #[110, 111, 110, 111, 100, 101, 115] }]), (20, .agg #[.int .i64 62, .string { data := #[102, 114, 101, 101] }]), (21, .agg #[.int .i64 70, .string { data := #[110, 111, 100, 101] }]), (22, .agg #[.int .i64 71, .string { data := #[111, 119, 110, 101, 100] }]), (23, .agg #[.int .i64 80, .string { data := #[98, 105, 103] }]), (24, .agg #[.int .i64 90, .string { data := #[115, 116, 101, 112] }]), (25, .agg #[.int .i64 100, .string { data := #[110, 111, 116, 102, 111, 117, 110, 100] }]), (26, .agg #[.int .i64 101, .string { data := #[101, 120, 105, 115, 116, 115] }]), (27, .agg #[.int .i64 110, .string { data := #[112, 97, 116, 104] }]), (28, .agg #[.int .i64 111, .string { data := #[110, 111, 116, 100, 105, 114] }]), (29, .agg #[.int .i64 112, .string { data := #[108, 111, 111, 112] }]), (30, .agg #[.int .i64 120, .string { data := #[119, 111, 114, 107, 101, 114, 115] }]), (31, .agg #[.int .i64 130, .string { data := #[111, 112] }]), (32, .agg #[.int .i64 131, .string { data := #[105, 115, 100, 105, 114] }]), (33, .agg #[.int .i64 132, .string { data := #[110, 111, 116, 101, 109, 112, 116, 121] }]), (34, .agg #[.int .i64 133, .string { data := #[108, 105, 110, 107, 115] }]), (35, .agg #[.int .i64 134, .string { data := #[105, 110, 115, 105, 100, 101] }]), (36, .agg #[.int .i64 136, .string { data := #[110, 111, 116, 108, 105, 110, 107] }]), (37, .agg #[.int .i64 137, .string { data := #[110, 111, 116, 104, 101, 108, 100] }]), (38, .agg #[.int .i64 140, .string { data := #[104, 97, 110, 100, 108, 101] }]), (39, .agg #[.int .i64 141, .string { data := #[109, 111, 100, 101] }]), (40, .agg #[.int .i64 142, .string { data := #[109, 97, 110, 121] }]), (41, .agg #[.int .i64 150, .string { data := #[97, 114, 99, 104, 105, 118, 101] }]), (42, .agg #[.int .i64 160, .string { data := #[119, 111, 114, 100] }]), (43, .agg #[.int .i64 180, .string { data := #[112, 97, 116, 99, 104] }]), (44, .agg #[.int .i64 181, .string { data := #[98, 97, 115, 101] }]), (45, .agg #[.int .i64 190, .string { data := #[112, 97, 116, 116, 101, 114, 110] }]), (46, .agg #[.int .i64 191, .string { data := #[113, 117, 101, 114, 121] }]), (47, .agg #[.int .i64 192, .string { data := #[100, 101, 101, 112] }]), (48, .agg #[.int .i64 200, .string { data := #[115, 101, 115, 115, 105, 111, 110] }]), (49, .agg #[.int .i64 201, .string { data := #[119, 97, 105, 116, 115] }]), (50, .agg #[.int .i64 202, .string { data := #[100, 101, 97, 100, 108, 111, 99, 107] }]), (51, .agg #[.int .i64 203, .string { data := #[108, 111, 99, 107, 115] }])]
def rows : Array Value := #[.int .i64 0, .string { data := #[111, 107] }, .int .i64 1, .string { data := #[97, 114, 103] }, .int .i64 2, .string { data := #[108, 101, 110, 103, 116, 104] }, .int .i64 3, .string { data := #[100, 101, 97, 100] }, .int .i64 4, .string { data := #[101, 110, 100, 101, 100] }, .int .i64 5, .string { data := #[98, 117, 115, 121] }, .int .i64 6, .string { data := #[99, 111, 114, 114, 117, 112, 116] }, .int .i64 7, .string { data := #[108, 111, 110, 103] }, .int .i64 10, .string { data := #[115, 101, 99, 116, 111, 114, 115] }, .int .i64 11, .string { data := #[114, 97, 110, 103, 101] }, .int .i64 20, .string { data := #[102, 105, 101, 108, 100] }, .int .i64 21, .string { data := #[110, 97, 109, 101] }, .int .i64 22, .string { data := #[103, 101, 111, 109, 101, 116, 114, 121] }, .int .i64 30, .string { data := #[116, 111, 114, 110] }, .int .i64 31, .string { data := #[115, 116, 97, 108, 101] }, .int .i64 40, .string { data := #[102, 117, 108, 108] }, .int .i64 41, .string { data := #[119, 111, 114, 110] }, .int .i64 50, .string { data := #[98, 117, 100, 103, 101, 116] }, .int .i64 60, .string { data := #[110, 111, 115, 112, 97, 99, 101] }, .int .i64 61, .string { data := #[110, 111, 110, 111, 100, 101, 115] }, .int .i64 62, .string { data := #[102, 114, 101, 101] }, .int .i64 70, .string { data := #[110, 111, 100, 101] }, .int .i64 71, .string { data := #[111, 119, 110, 101, 100] }, .int .i64 80, .string { data := #[98, 105, 103] }, .int .i64 90, .string { data := #[115, 116, 101, 112] }, .int .i64 100, .string { data := #[110, 111, 116, 102, 111, 117, 110, 100] }, .int .i64 101, .string { data := #[101, 120, 105, 115, 116, 115] }, .int .i64 110, .string { data := #[112, 97, 116, 104] }, .int .i64 111, .string { data := #[110, 111, 116, 100, 105, 114] }, .int .i64 112, .string { data := #[108, 111, 111, 112] }, .int .i64 120, .string { data := #[119, 111, 114, 107, 101, 114, 115] }, .int .i64 130, .string { data := #[111, 112] }, .int .i64 131, .string { data := #[105, 115, 100, 105, 114] }, .int .i64 132, .string { data := #[110, 111, 116, 101, 109, 112, 116, 121] }, .int .i64 133, .string { data := #[108, 105, 110, 107, 115] }, .int .i64 134, .string { data := #[105, 110, 115, 105, 100, 101] }, .int .i64 136, .string { data := #[110, 111, 116, 108, 105, 110, 107] }, .int .i64 137, .string { data := #[110, 111, 116, 104, 101, 108, 100] }, .int .i64 140, .string { data := #[104, 97, 110, 100, 108, 101] }, .int .i64 141, .string { data := #[109, 111, 100, 101] }, .int .i64 142, .string { data := #[109, 97, 110, 121] }, .int .i64 150, .string { data := #[97, 114, 99, 104, 105, 118, 101] }, .int .i64 160, .string { data := #[119, 111, 114, 100] }, .int .i64 180, .string { data := #[112, 97, 116, 99, 104] }, .int .i64 181, .string { data := #[98, 97, 115, 101] }, .int .i64 190, .string { data := #[112, 97, 116, 116, 101, 114, 110] }, .int .i64 191, .string { data := #[113, 117, 101, 114, 121] }, .int .i64 192, .string { data := #[100, 101, 101, 112] }, .int .i64 200, .string { data := #[115, 101, 115, 115, 105, 111, 110] }, .int .i64 201, .string { data := #[119, 97, 105, 116, 115] }, .int .i64 202, .string { data := #[100, 101, 97, 100, 108, 111, 99, 107] }, .int .i64 203, .string { data := #[108, 111, 99, 107, 115] }]
set_option maxRecDepth 100000 in
theorem build_all (w : World) : (Instr.build 72 parts).run Try.prog w = .ok (.agg rows) w := run_build w 72 parts rows (by kernel_rfl)
def tn (k : Nat) : Int := (table.getD k (0, ⟨#[]⟩)).1
def ts (k : Nat) : ByteArray := (table.getD k (0, ⟨#[]⟩)).2
theorem word_hit : ∀ (l : List (Int × ByteArray)) (k : Nat) (e : Int), k < l.length → (∀ j, j < k → (l.getD j (0, ⟨#[]⟩)).1 ≠ e) → (l.getD k (0, ⟨#[]⟩)).1 = e → wordIn l e = (l.getD k (0, ⟨#[]⟩)).2
  | [], k, e, h, _, _ => absurd h (Nat.not_lt_zero k)
  | (n, s) :: l, 0, e, _, _, he => if_pos he
  | (n, s) :: l, k + 1, e, h, hn, he => by
    rw [show wordIn ((n, s) :: l) e = wordIn l e from if_neg (hn 0 (Nat.zero_lt_succ k))]
    exact word_hit l k e (Nat.lt_of_succ_lt_succ h) (fun j hj => hn (j + 1) (Nat.succ_lt_succ hj)) he
theorem word_miss : ∀ (l : List (Int × ByteArray)) (e : Int), (∀ j, j < l.length → (l.getD j (0, ⟨#[]⟩)).1 ≠ e) → wordIn l e = { data := #[101, 114, 114, 111, 114] }
  | [], e, _ => rfl
  | (n, s) :: l, e, hn => by
    rw [show wordIn ((n, s) :: l) e = wordIn l e from if_neg (hn 0 (Nat.zero_lt_succ _))]
    exact word_miss l e fun j hj => hn (j + 1) (Nat.succ_lt_succ hj)
set_option maxRecDepth 100000 in
theorem index_at : ∀ (k : Nat), k < 52 → ∀ w, (Instr.index 72 (.agg rows) (.int .i64 k)).run Try.prog w = .ok (.agg #[.int .i64 (tn k), .string (ts k)]) w
  | 0, _, w => by kernel_rfl
  | 1, _, w => by kernel_rfl
  | 2, _, w => by kernel_rfl
  | 3, _, w => by kernel_rfl
  | 4, _, w => by kernel_rfl
  | 5, _, w => by kernel_rfl
  | 6, _, w => by kernel_rfl
  | 7, _, w => by kernel_rfl
  | 8, _, w => by kernel_rfl
  | 9, _, w => by kernel_rfl
  | 10, _, w => by kernel_rfl
  | 11, _, w => by kernel_rfl
  | 12, _, w => by kernel_rfl
  | 13, _, w => by kernel_rfl
  | 14, _, w => by kernel_rfl
  | 15, _, w => by kernel_rfl
  | 16, _, w => by kernel_rfl
  | 17, _, w => by kernel_rfl
  | 18, _, w => by kernel_rfl
  | 19, _, w => by kernel_rfl
  | 20, _, w => by kernel_rfl
  | 21, _, w => by kernel_rfl
  | 22, _, w => by kernel_rfl
  | 23, _, w => by kernel_rfl
  | 24, _, w => by kernel_rfl
  | 25, _, w => by kernel_rfl
  | 26, _, w => by kernel_rfl
  | 27, _, w => by kernel_rfl
  | 28, _, w => by kernel_rfl
  | 29, _, w => by kernel_rfl
  | 30, _, w => by kernel_rfl
  | 31, _, w => by kernel_rfl
  | 32, _, w => by kernel_rfl
  | 33, _, w => by kernel_rfl
  | 34, _, w => by kernel_rfl
  | 35, _, w => by kernel_rfl
  | 36, _, w => by kernel_rfl
  | 37, _, w => by kernel_rfl
  | 38, _, w => by kernel_rfl
  | 39, _, w => by kernel_rfl
  | 40, _, w => by kernel_rfl
  | 41, _, w => by kernel_rfl
  | 42, _, w => by kernel_rfl
  | 43, _, w => by kernel_rfl
  | 44, _, w => by kernel_rfl
  | 45, _, w => by kernel_rfl
  | 46, _, w => by kernel_rfl
  | 47, _, w => by kernel_rfl
  | 48, _, w => by kernel_rfl
  | 49, _, w => by kernel_rfl
  | 50, _, w => by kernel_rfl
  | 51, _, w => by kernel_rfl
  | k + 52, h, w => absurd h (by omega)
set_option maxRecDepth 100000 in
set_option maxHeartbeats 1600000 in
theorem error_any (e : Int) (w : World) : Calls Try.prog 27 #[.int .i64 e] w fun x w' => x = .returned (.string (word e)) ∧ Hid (Below w.heap.size w w') := by
  have h71 : ∀ (n : Int) (s : ByteArray) (w : World), (Instr.build 71 #[(0, .int .i64 n), (1, .string s)]).run Try.prog w = .ok (.agg #[.int .i64 n, .string s]) w := fun n s w => run_build w 71 _ _ (by kernel_rfl)
  go_enter Try.func27, Try.ntmps27
  go_upto_region 2 with (first | (refine wpList_buildTo rfl 72 _ rfl (some 57) rfl rows (by kernel_rfl) ?_))
  clear h71
  generalize hR : rows = R
  have HR := Lib.hid hR
  clear hR
  go_loopw [58] (fun i wr => ∃ (k : Nat), i = .int .i64 k ∧ k ≤ 52 ∧ Hid (∀ j, j < k → tn j ≠ e) ∧ Hid (Below w.heap.size w wr)) (fun i _ => 52 - (intOf i).toNat)
  case atStart => exact ⟨0, rfl, by decide, fun j h => absurd h (Nat.not_lt_zero j), Below.refl _ _⟩
  case round =>
    obtain ⟨k, rfl, hk, HN, HB⟩ := hrel
    by_cases hlt : k < 52
    · have hx : ∀ w, (Instr.index 72 (.agg R) (.int .i64 k)).run Try.prog w = .ok (.agg #[.int .i64 (tn k), .string (ts k)]) w := fun w => by
        rw [← HR.out]
        exact index_at k hlt w
      go_upto_region 4 with (fail)
      obtain ⟨P, hP⟩ : ∃ P, wr.heap.size = P := ⟨_, rfl⟩
      rw [hP]
      refine gen_world (fun w' => Hid (Below w.heap.size w w' ∧ Blk w' P #[.int .i64 (tn k), .string (ts k)] 71)) ?_ ?_
      · subst hP
        exact ⟨HB.out.alloc HB.out.size _, Blk.new _ _ _⟩
      clear hP hx HB wr
      rintro wr h1
      have c0 : wr.cell? ⟨P, 0, none⟩ = some (.int .i64 (tn k)) := (h1.out.2.cell 0).trans rfl
      have c1 : wr.cell? ⟨P, 1, none⟩ = some (.string (ts k)) := (h1.out.2.cell 1).trans rfl
      by_cases he : tn k = e
      · have HE : Hid (word e = ts k) := word_hit table k e hlt HN.out he
        have hq : (tn k == e) = true := by simp [he]
        clear he
        generalize tn k = m at *
        go_wp2_with fail
        go_ret
        exact ⟨by rw [HE.out]; rfl, h1.out.1⟩
      · have HE : Hid (∀ j, j < k + 1 → tn j ≠ e) := fun j hj => by
          by_cases hjk : j = k
          · subst hjk; exact he
          · exact HN.out j (by omega)
        have hq : (tn k == e) = false := by simp [he]
        generalize tn k = m at *
        go_wp2_with fail
        exact ⟨⟨k + 1, by go_num, by omega, HE, h1.out.1⟩, by simp [intOf]; omega⟩
    · go_wp2_with fail
      go_ret
      obtain rfl : k = 52 := by omega
      exact ⟨by rw [show word e = _ from word_miss table e HN.out]; rfl, HB⟩
end Go.Proofs.Ytcdhkeahcliefaa.Words
