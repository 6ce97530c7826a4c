/- CodecMixes: the sum of three lists mixed by exclusive or is their sums'; a list with its own sum behind it has a fixed sum; no condition. -/
import Derived.Test.YtefmihbjboacdaaCopy
import Derived.Test.YtefmihbjboacdaaSum
import Derived.Test.YtefmihbjboacdaaCrcMix
import Derived.Deep.RegionHeld3
import Derived.Deep.CutBlock
import Derived.Lib.SlBytesConst
import Derived.Lib.SmallJoins
import Derived.Laws.AppendOwn
namespace Go.Proofs.Ytefmihbjboacdaa.MixLaw
open Go.ChangeShapes Go.WideShapes Go.ChangeAt Go.RowKit
open Go.Proofs.Ytefmihbjboacdaa.Kit Go.Proofs.Ytefmihbjboacdaa.Crc Go.Proofs.Ytefmihbjboacdaa.Reads Go.Proofs.Ytefmihbjboacdaa.Copy Go.Proofs.Ytefmihbjboacdaa.Sum
set_option linter.unusedVariables false

theorem sum_letter : sum [97] = 3251651376 := by decide +kernel
def letterCells : Array Value := #[.int .u8 97]
theorem letter_cells : bvs [97] = letterCells := rfl
theorem letter_lies (w : World) : Bytes (w.alloc (.cells letterCells 5 (1, 2))) (some ⟨w.heap.size, 0, none⟩) [97] := fun i hi => by
  refine ⟨_, rfl, ?_⟩
  rw [add_block, World.cell?_alloc_mark, ← letter_cells, bvs_get _ _ hi]

/-- a list, laid down so far -/
def laid (d : List UInt8) (k : Nat) : List UInt8 := d.take k ++ List.replicate (d.length - k) 0
theorem laid_length (d : List UInt8) (k : Nat) (h : k ≤ d.length) : (laid d k).length = d.length := by
  unfold laid
  simp
  omega
theorem laid_set (d : List UInt8) (k : Nat) (h : k < d.length) : (laid d k).set k d[k] = laid d (k + 1) := by
  unfold laid
  have e1 : d.length - k = (d.length - (k + 1)) + 1 := by omega
  rw [List.set_append_right _ _ (by simp; omega), List.length_take, Nat.min_eq_left (by omega), Nat.sub_self, e1, List.replicate_succ, List.set_cons_zero, List.take_succ_eq_append_getElem h, List.append_assoc]
  rfl
theorem laid_end (d : List UInt8) : laid d d.length = d := by
  unfold laid
  simp
theorem laid_start (d : List UInt8) : laid d 0 = List.replicate d.length 0 := by
  unfold laid
  simp

theorem bytes_take {w : World} {A : Option Addr} {l : List UInt8} (h : Bytes w A l) (n : Nat) : Bytes w A (l.take n) := fun i hi => by
  rw [List.length_take] at hi
  obtain ⟨ad, e, hc⟩ := h i (by omega)
  exact ⟨ad, e, by rw [hc, List.getElem_take]⟩

theorem sum_at (A : Option Addr) (n c : Nat) (l : List UInt8) (w : World) (hl : l.length = n) (hn : n ≤ 9223372036854775807) (H : Hid (Bytes w A l)) :
    Calls Try.prog 17 #[.slice A n c] w fun e w' => e = .returned (.int .i64 (sum l)) ∧ Below w.heap.size w w' := by
  subst hl
  exact sum_any A c l w hn H
theorem held_step2 {w wc w4 : World} {D : Nat} {cs : Array Value} (h : Hid (Below w.heap.size w wc) ∧ Hid (Blk wc D cs 5)) (hb : Below wc.heap.size wc w4) :
    Hid (Below w.heap.size w w4) ∧ Hid (Blk w4 D cs 5) := ⟨h.1.out.trans (hb.mono h.1.out.size), h.2.out.below hb h.2.out.lt⟩
theorem held_own2 {w wc : World} {D : Nat} {l : List UInt8} (h : Hid (Below w.heap.size w wc) ∧ Hid (Blk wc D (bvs l) 5)) : Bytes wc (some ⟨D, 0, none⟩) l := Bytes.own' h.2.out
theorem held_arg2 {w wc : World} {D : Nat} {cs : Array Value} {A : Option Addr} {l : List UInt8} (h : Hid (Below w.heap.size w wc) ∧ Hid (Blk wc D cs 5)) (hA : Bytes w A l) : Bytes wc A l := hA.below h.1.out

theorem own_row {w : World} {base B : Nat} {l : List UInt8} (h : Blk w B (bvs l) 5) (hb : base ≤ B) (hl : l.length ≤ maxLen) : w.ownsRow base 5 1 (.slice (some ⟨B, 0, none⟩) l.length l.length) l.length (bvs l).toList := by
  refine ⟨by simp [bvs], .inr ⟨B, l.length, bvs l, rfl, hb, h, Nat.le_refl _, hl, by simp [bvs_size], ?_⟩⟩
  rw [List.take_of_length_le (by simp [bvs])]
theorem own_bytes {w : World} {base n : Nat} {v : Value} {l : List UInt8} (h : w.ownsRow base 5 1 v n (l.map bv)) (hn : l.length = n) (h0 : 0 < n) : ∃ g cap, v = .slice (some ⟨g, 0, none⟩) n cap ∧ Bytes w (some ⟨g, 0, none⟩) l := by
  obtain ⟨_, h | ⟨g, cap, cur, hv, _, hh, _, _, _, ht⟩⟩ := h
  · omega
  · refine ⟨g, cap, hv, fun i hi => ⟨_, rfl, ?_⟩⟩
    have hb : Blk w g cur 5 := hh
    rw [add_block, hb.cell]
    have h1 : (l.map bv)[i]? = some (bv l[i]) := by simp [List.getElem?_eq_getElem hi]
    rw [← ht, List.getElem?_take] at h1
    rw [Nat.mul_one, if_pos (by omega)] at h1
    simpa [bv] using h1
theorem news_new (w : World) (l : List Value) : ∀ j u, l[j]? = some u → (w.alloc (.cells l.toArray 5)).cell? ((⟨w.heap.size, 0, none⟩ : Addr).add j) = some u := fun j u h => by
  rw [add_block, (Blk.new w l.toArray 5).cell]
  simpa using h
theorem le4_cells (x : UInt32) : (le4 x).map bv = [Value.int IntKind.u8 (u x % 256), Value.int IntKind.u8 (u x / 256 % 256), Value.int IntKind.u8 (u x / 65536 % 256), Value.int IntKind.u8 (u x / 16777216 % 256)] := by
  have h : ∀ k, v8 (b8 x k) = (u x / ((256 ^ k : Nat) : Int)) % 256 := fun k => by
    unfold v8 b8 u
    rw [UInt8.toNat_ofNat', ← Int.natCast_ediv]
    omega
  unfold le4 bv
  simp only [List.map_cons, List.map_nil, h]
  simp

set_option maxRecDepth 100000 in
set_option maxHeartbeats 1600000 in
theorem law_any (A B C : Option Addr) (ca cb cc : Nat) (a b c : List UInt8) (w : World) (ha : a.length ≤ 140737488351232) (hb : b.length ≤ 140737488351232) (hc : c.length ≤ 140737488351232) (hca : a.length ≤ ca) (hcb : b.length ≤ cb) (hcc : c.length ≤ cc)
    (HA : Hid (Bytes w A a)) (HB : Hid (Bytes w B b)) (HC : Hid (Bytes w C c)) :
    Calls Try.prog 6 #[.slice A a.length ca, .slice B b.length cb, .slice C c.length cc] w fun e w' => e = .returned (.bool true) ∧ Below w.heap.size w w' := by
  have hcv := Lib.run_convert_bytes_const (P := Try.prog) w 34 5 letterCells 1 1 Try.underlying34 Try.underlying5
  unfold letterCells at hcv
  have LA := Lib.hid ha
  have LB := Lib.hid hb
  have LC := Lib.hid hc
  clear ha hb hc
  go_enter Try.func6, Try.ntmps6
  go_wp2_with fail
  refine (sum_any (some ⟨w.heap.size, 0, none⟩) 1 [97] _ (by decide) ?_).mono ?_
  · exact letter_lies w
  rw [sum_letter]
  rintro e w1 ⟨rfl, hb⟩
  have HW1 := Lib.hid (((Below.refl w.heap.size w).alloc (Nat.le_refl _) _).trans (hb.mono (by simp)))
  clear hb hcv
  go_upto_if 21 with (fail)
  go_cut [7] (fun v wc => ∃ n : Nat, v = .int .i64 n ∧ n ≤ a.length ∧ n ≤ b.length ∧ w1 = wc)
  case first =>
    by_cases hlt : b.length < a.length
    · go_wp2_with fail
      go_meet
      case rel => exact ⟨b.length, rfl, by omega, by omega, rfl⟩
    · go_wp2_with fail
      go_meet
      case rel => exact ⟨a.length, rfl, by omega, by omega, rfl⟩
  case rest =>
    obtain ⟨n1, rfl, hn1, hn2, rfl⟩ := hcut
    go_upto_if 27 with (fail)
    go_cut [7] (fun v wc2 => ∃ n : Nat, v = .int .i64 n ∧ n ≤ a.length ∧ n ≤ b.length ∧ n ≤ c.length ∧ w1 = wc2)
    case first =>
      by_cases hlt : c.length < n1
      · go_wp2_with fail
        go_meet
        case rel => exact ⟨c.length, rfl, by omega, by omega, by omega, rfl⟩
      · go_wp2_with fail
        go_meet
        case rel => exact ⟨n1, rfl, by omega, by omega, by omega, rfl⟩
    case rest =>
      clear hn1 hn2
      obtain ⟨n, rfl, hna, hnb, hnc, rfl⟩ := hcut
      obtain ⟨i5, hi, hz0, hz1, hz2⟩ := info_parts info5
      have hmk := make_bytes Try.underlying34 hi hz0 hz1 hz2 (n : Int) n rfl (by have := LA.out; omega)
      have hmk2 := Lib.hid (make_bytes Try.underlying34 hi hz0 hz1 hz2 (a.length : Int) a.length rfl (by have := LA.out; omega))
      clear hi hz0 hz1 hz2
      have hn63 : n ≤ 9223372036854775807 := by have := LA.out; omega
      have HD : Hid (∃ d : List UInt8, d.length = n ∧ (∀ k (h : k < d.length) (h1 : k < a.length) (h2 : k < b.length) (h3 : k < c.length), d[k] = a[k] ^^^ b[k] ^^^ c[k]) ∧ d = xors (xors (a.take n) (b.take n)) (c.take n)) := by
        refine ⟨_, ?_, ?_, rfl⟩
        · simp [xors]; omega
        · intro k h h1 h2 h3
          simp [xors]
      obtain ⟨d, hdl, hdk, hdx⟩ := HD.out
      have HDL := Lib.hid hdl
      have HDK := Lib.hid hdk
      have HDX := Lib.hid hdx
      clear HD hdl hdk hdx
      go_wp2_with fail
      refine gen_world (fun w' => Blk w' w1.heap.size (bvs (laid d 0)) 5 ∧ Below w.heap.size w w') ?_ ?_
      · refine ⟨?_, HW1.out.alloc HW1.out.size _⟩
        rw [laid_start, HDL.out]
        exact Blk.new _ _ _
      have HBW := Lib.hid HW1.out.size
      clear hmk
      generalize w1.heap.size = D at *
      rintro w2 ⟨hk2, hw2⟩
      have HK2 := Lib.hid hk2
      have HW2 := Lib.hid hw2
      clear hk2 hw2
      go_loopw [9] (fun i wr => ∃ (k : Nat), i = .int .i64 k ∧ k ≤ n ∧ Hid (Blk wr D (bvs (laid d k)) 5) ∧ Hid (Below w.heap.size w wr)) (fun i _ => n - (intOf i).toNat)
      case atStart => exact ⟨0, rfl, Nat.zero_le _, HK2, HW2⟩
      case round =>
        obtain ⟨k, rfl, hk, HK, HW⟩ := hrel
        clear HK2 HW2
        by_cases hlt : k < n
        · obtain ⟨ad, rfl, h0⟩ := HA.out k (by omega)
          obtain ⟨bd, rfl, h1⟩ := HB.out k (by omega)
          obtain ⟨cd, rfl, h2⟩ := HC.out k (by omega)
          rw [← HW.out.cell (World.block_lt_of_cell? w _ h0)] at h0
          rw [← HW.out.cell (World.block_lt_of_cell? w _ h1)] at h1
          rw [← HW.out.cell (World.block_lt_of_cell? w _ h2)] at h2
          have hdk := Lib.hid (HDK.out k (by rw [HDL.out]; exact hlt) (by omega) (by omega) (by omega))
          generalize a[k] = xa at h0 hdk
          generalize b[k] = xb at h1 hdk
          generalize c[k] = xc at h2 hdk
          obtain ⟨y, h3⟩ : ∃ y, wr.cell? ⟨D, k, none⟩ = some (.int .u8 y) := ⟨_, (HK.out.cell k).trans (bvs_get _ _ (by rw [laid_length _ _ (by rw [HDL.out]; exact hk), HDL.out]; exact hlt))⟩
          have hf := HK.out.frozen k
          have e1 := v8_xor
          have i1 : (k : Int) < (a.length : Int) := by omega
          have i2 : (k : Int) < (b.length : Int) := by omega
          have i3 : (k : Int) < (c.length : Int) := by omega
          have i4 : (k : Int) < (n : Int) := by omega
          have i0 : (0 : Int) ≤ (k : Int) := by omega
          go_wp2_with fail
          go_region
          go_wp2_with fail
          refine ⟨⟨k + 1, by go_num, by omega, ?_, (HW.out.setCell HBW.out _).drew⟩, by simp [intOf]; omega⟩
          have hp := (HK.out.put k (.int .u8 (v8 (xa ^^^ xb ^^^ xc)))).drew
          rw [bvs_set, ← hdk.out, laid_set _ _ (by rw [HDL.out]; exact hlt)] at hp
          rw [← hdk.out]
          exact hp
        · have ek : k = d.length := by rw [HDL.out]; omega
          have hk1 := HK.out
          rw [ek, laid_end] at hk1
          have HK1 := Lib.hid hk1
          clear ek hk1 HK
          go_wp2_with fail
          refine (sum_any A ca a _ (by have := LA.out; omega) (HA.out.below HW.out)).mono ?_
          rintro e w3 ⟨rfl, hb⟩
          have HW3 := Lib.hid (HW.out.trans (hb.mono HW.out.size))
          have HK3 := Lib.hid (HK1.out.below hb HK1.out.lt)
          clear hb
          go_wp2_with fail
          have l1 : (a.take n).length = n := by simp; omega
          have l2 : (b.take n).length = n := by simp; omega
          have l3 : (c.take n).length = n := by simp; omega
          have hsum : sum d = u (sumU (a.take n) ^^^ sumU (b.take n) ^^^ sumU (c.take n)) := by
            unfold sum
            rw [HDX.out, sum_three _ _ _ (by rw [l1, l2]) (by rw [l1, l3])]
          have L1 := Lib.hid l1
          have L2 := Lib.hid l2
          have L3 := Lib.hid l3
          have ba : Bytes w A (a.take n) := bytes_take HA.out n
          have bb : Bytes w B (b.take n) := bytes_take HB.out n
          have bc : Bytes w C (c.take n) := bytes_take HC.out n
          have BA := Lib.hid ba
          have BB := Lib.hid bb
          have BC := Lib.hid bc
          clear l1 l2 l3 ba bb bc
          have n0 : 0 ≤ sum a := u_nonneg _
          have n1 : sum a ≤ 4294967295 := by have := u_lt (sumU a); unfold sum; omega
          have N0 := Lib.hid n0
          have N1 := Lib.hid n1
          generalize hsa : sum a = sa at *
          have HSA := Lib.hid hsa
          have g1 : decide (sa < 0) = false := decide_eq_false (by omega)
          have g2 : decide (4294967295 < sa) = false := decide_eq_false (by omega)
          clear n0 n1
          have e2 : bits .xor .i64 (sum (a.take n)) (sum (b.take n)) = u (sumU (a.take n) ^^^ sumU (b.take n)) := u_xor64 _ _
          have e3 : bits .xor .i64 (u (sumU (a.take n) ^^^ sumU (b.take n))) (sum (c.take n)) = sum d := by rw [hsum]; exact u_xor64 _ _
          have HSUM := Lib.hid hsum
          clear hsum hsa
          generalize hta : a.take n = ta at *
          generalize htb : b.take n = tb at *
          generalize htc : c.take n = tc at *
          clear hta htb htc
          have i1 : (n : Int) ≤ (ca : Int) := by omega
          have i2 : (n : Int) ≤ (cb : Int) := by omega
          have i3 : (n : Int) ≤ (cc : Int) := by omega
          have i0 : (0 : Int) ≤ (n : Int) := by omega
          have hS : Hid (Below w.heap.size w w3) ∧ Hid (Blk w3 D (bvs d) 5) := ⟨HW3, HK3⟩
          go_region_held3 (fun w' => Hid (Below w.heap.size w w') ∧ Hid (Blk w' D (bvs d) 5)) (first | assumption | exact ⟨hS.1.drew, hS.2.drew⟩)
            (first | (go_at_call_of 17 (Value.slice (some ⟨D, 0, none⟩) n n); refine (sum_at (some ⟨D, 0, none⟩) n n d _ HDL.out hn63 (by exact held_own2 (w := w) (by assumption))).mono ?_; rintro e w4 ⟨rfl, hb4⟩; have hS4 := held_step2 (by assumption) hb4; clear hb4) | (go_at_call_of 17 (Value.slice A n ca); refine (sum_at A n ca ta _ L1.out hn63 (by exact held_arg2 (w := w) (D := D) (cs := bvs d) (by assumption) BA.out)).mono ?_; rintro e w4 ⟨rfl, hb4⟩; have hS4 := held_step2 (by assumption) hb4; clear hb4) | (go_at_call_of 17 (Value.slice B n cb); refine (sum_at B n cb tb _ L2.out hn63 (by exact held_arg2 (w := w) (D := D) (cs := bvs d) (by assumption) BB.out)).mono ?_; rintro e w4 ⟨rfl, hb4⟩; have hS4 := held_step2 (by assumption) hb4; clear hb4) | (go_at_call_of 17 (Value.slice C n cc); refine (sum_at C n cc tc _ L3.out hn63 (by exact held_arg2 (w := w) (D := D) (cs := bvs d) (by assumption) BC.out)).mono ?_; rintro e w4 ⟨rfl, hb4⟩; have hS4 := held_step2 (by assumption) hb4; clear hb4))
          have hw5 := hS4.1
          clear hS hS4 e2 e3 i0 i1 i2 i3 g1 g2
          go_upto_region 16 with (fail)
          refine gen_world (fun w' => Below w.heap.size w w') hw5.out ?_
          clear hw5
          rintro w5 hw5
          have HW5 := Lib.hid hw5
          clear hw5
          have hmk := hmk2.out
          obtain ⟨w6, hrun, hk6, ho6⟩ := copy_bytes (P := Try.prog) (dT := 34) (sT := 34) (ty := 3) Try.underlying34 (by kernel_rfl) (w5.alloc (.cells (bvs (List.replicate a.length 0)) 5)) w5.heap.size 0 a.length a.length A ca (List.replicate a.length 0) a 5
            (Blk.new _ _ _) (HA.out.below (HW5.out.alloc HW5.out.size _)) (Nat.le_refl _) (by simp)
          have hk6' : Blk w6 w5.heap.size (bvs a) 5 := by simpa using hk6
          have HK6 := Lib.hid hk6'
          have HW6 := Lib.hid ((HW5.out.alloc HW5.out.size _).trans (ho6.below HW5.out.size))
          clear hk6 ho6 hk6'
          go_upto_region 18 with (fail)
          clear hmk hrun
          obtain ⟨i5', hi', hz0', hz1', hz2'⟩ := info_parts info5
          have HI' := Lib.hid hi'
          have HZ' := Lib.hid (And.intro hz0' (And.intro hz1' hz2'))
          clear hi' hz0' hz1' hz2'
          have HOWN : Hid (w6.ownsRow w.heap.size 5 1 (.slice (some ⟨w5.heap.size, 0, none⟩) a.length a.length) a.length (bvs a).toList) := own_row HK6.out HW5.out.size (by have := LA.out; unfold maxLen; omega)
          have HNEWS : Hid ([Value.int IntKind.u8 (sa % 256), Value.int IntKind.u8 (sa / 256 % 256), Value.int IntKind.u8 (sa / 65536 % 256), Value.int IntKind.u8 (sa / 16777216 % 256)] = (le4 (sumU a)).map bv) := by
            have := HSA.out
            unfold sum at this
            rw [← this]
            exact (le4_cells (sumU a)).symm
          have C1 := Lib.hid (news_new w6 [Value.int IntKind.u8 (sa % 256), Value.int IntKind.u8 (sa / 256 % 256), Value.int IntKind.u8 (sa / 65536 % 256), Value.int IntKind.u8 (sa / 16777216 % 256)])
          have C2 : Hid (∀ u ∈ [Value.int IntKind.u8 (sa % 256), Value.int IntKind.u8 (sa / 256 % 256), Value.int IntKind.u8 (sa / 65536 % 256), Value.int IntKind.u8 (sa / 16777216 % 256)], u.oneCell' = true) := fun u hu => by
            simp at hu
            rcases hu with rfl | rfl | rfl | rfl <;> rfl
          have C3 : Hid (a.length + 4 ≤ maxLen) := by have := LA.out; show _ ≤ _; unfold maxLen; omega
          have C4 : Hid ((a.length + 4) * 1 ≤ 140737488355328) := by have := LA.out; show _ ≤ _; omega
          have C5 : Hid (w.heap.size ≤ (w6.alloc (Obj.cells #[Value.int IntKind.u8 (sa % 256), Value.int IntKind.u8 (sa / 256 % 256), Value.int IntKind.u8 (sa / 65536 % 256), Value.int IntKind.u8 (sa / 16777216 % 256)] 5)).heap.size) := by have := HW6.out.size; show _ ≤ _; simp; omega
          go_wp2_with (first | (at_builtin; go_loud (refine wpList_append_own _ rfl (.tmp 87) (.tmp 99) 34 rfl w.heap.size 5 i5' (.int .u8 0) 1 1 Try.underlying34 HI'.out HZ'.out.1 HZ'.out.2.1 HZ'.out.2.2 rfl (by decide) (.slice (some ⟨w5.heap.size, 0, none⟩) a.length a.length) a.length (bvs a).toList rfl (HOWN.out.alloc _) ⟨w6.heap.size, 0, none⟩ 4 4 [Value.int IntKind.u8 (sa % 256), Value.int IntKind.u8 (sa / 256 % 256), Value.int IntKind.u8 (sa / 65536 % 256), Value.int IntKind.u8 (sa / 16777216 % 256)] rfl rfl C1.out C2.out C3.out C4.out C5.out ?_); intro v' w7 hown7 hgrow7 _; have HOWN7 := Lib.hid hown7; have HGROW7 := Lib.hid hgrow7; clear hown7 hgrow7))
          have hrow := HOWN7.out
          rw [HNEWS.out] at hrow
          obtain ⟨g, cap, hv, hby⟩ := own_bytes (l := a ++ le4 (sumU a)) (by simpa [bvs] using hrow) (by simp [le4]) (by simp)
          subst hv
          refine (sum_at (some ⟨g, 0, none⟩) (a.length + 4) cap (a ++ le4 (sumU a)) _ (by simp [le4]) (by have := LA.out; omega) hby).mono ?_
          have hres : sum (a ++ le4 (sumU a)) = 1214729159 := by unfold sum; rw [residue]; rfl
          rw [hres]
          rintro e w8 ⟨rfl, hb8⟩
          have HB8 := Lib.hid hb8
          clear hb8 hres hby hrow
          go_wp2_with fail
          go_ret
          refine ⟨rfl, ?_⟩
          have h7 : Below w.heap.size w w7 := (HW6.out.alloc HW6.out.size _).grown HGROW7.out C5.out (fun k hk => by have e : w5.heap.size = k := Option.some.inj hk; have := HW5.out.size; omega)
          exact h7.trans (HB8.out.mono h7.size)
end Go.Proofs.Ytefmihbjboacdaa.MixLaw
