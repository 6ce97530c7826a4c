/- The document's EncodeSuper: the same sector. -/
import Derived.Test.YtefmihbjboacdaaSuperEnc
namespace Go.Proofs.Ytefmihbjboacdaa.RefSuper
open Go.ChangeShapes Go.WideShapes Go.ChangeAt Go.RowKit
open Go.Proofs.Ytefmihbjboacdaa.Kit Go.Proofs.Ytefmihbjboacdaa.Crc Go.Proofs.Ytefmihbjboacdaa.Reads Go.Proofs.Ytefmihbjboacdaa.Copy Go.Proofs.Ytefmihbjboacdaa.Sum Go.Proofs.Ytefmihbjboacdaa.Lay Go.Proofs.Ytefmihbjboacdaa.Writer Go.Proofs.Ytefmihbjboacdaa.Plan Go.Proofs.Ytefmihbjboacdaa.SuperEnc Go.Proofs.Ytefmihbjboacdaa.RefLay Go.Proofs.Ytefmihbjboacdaa.RefSum
set_option linter.unusedVariables false

def vell : List UInt8 := [118, 101, 108, 108, 117, 109]
theorem vell_magic : (put zeros512 0 vell).set 7 1 = put zeros512 0 magic := by decide +kernel

theorem sum_toNat (l : List UInt8) : (sum l).toNat = (sumU l).toNat := by
  unfold sum u
  rw [Int.toNat_natCast]
theorem lay_at (B c at' n N : Nat) (q0 q1 v : Int) (l : List UInt8) (w : World) (hN : l.length = N) (h0 : q0 = (at' : Int)) (h1 : q1 = (n : Int)) (hn : n ≤ 8) (hv0 : 0 ≤ v) (hv : v < 9223372036854775808) (hfit : at' + n ≤ N) (hl : N ≤ 140737488351232) (HK : Hid (Blk w B (bvs l) 5)) :
    Calls Try.prog 54 #[.slice (some ⟨B, 0, none⟩) N c, .int .i64 q0, .int .i64 q1, .int .i64 v] w fun e w' => e = .returned (.tuple #[]) ∧ Hid (Only B w w' ∧ Blk w' B (bvs (put l at' (leN n v.toNat))) 5) := by
  subst hN h0 h1
  obtain ⟨k, rfl⟩ := Int.eq_ofNat_of_zero_le hv0
  exact lay_any B c at' n k l w hn (by omega) hfit hl HK
theorem refsum_at (A : Option Addr) (n c : Nat) (l : List UInt8) (w : World) (hl : l.length = n) (hn : n ≤ 9223372036854775807) (H : Hid (Bytes w A l)) :
    Calls Try.prog 19 #[.slice A n c] w fun e w' => e = .returned (.int .i64 (sum l)) ∧ w = w' := by
  subst hl
  exact ref_any A c l w hn H

set_option maxRecDepth 100000 in
set_option maxHeartbeats 1600000 in
theorem ref_no (a b c : Int) (w : World) (h : ¬ Fits a b c) :
    Calls Try.prog 25 #[.agg #[.int .i64 a, .int .i64 b, .int .i64 c]] w fun e w' => e = .returned (.tuple #[.slice none 0 0, .int .i64 22]) ∧ Below w.heap.size w w' := by
  go_enter Try.func25, Try.ntmps25
  go_wp2_with fail
  refine (Plan.ref_any _ _ _ _).mono ?_
  rw [answer_no h]
  unfold refused
  rintro e w1 ⟨rfl, hb⟩
  have HW1 := Lib.hid (((Below.refl w.heap.size w).alloc (Nat.le_refl _) _).trans (hb.mono (by simp)))
  clear hb
  have hle := HW1.out.size
  go_wp2_with fail
  go_ret2
  refine ⟨rfl, ?_⟩
  exact HW1.out.alloc hle _

set_option maxRecDepth 100000 in
set_option maxHeartbeats 1600000 in
theorem ref_yes (a b c : Nat) (w : World) (h : Fits a b c) :
    Calls Try.prog 25 #[.agg #[.int .i64 a, .int .i64 b, .int .i64 c]] w fun e w' => ∃ B, e = .returned (.tuple #[.slice (some ⟨B, 0, none⟩) 512 512, .int .i64 0]) ∧ Made w w' B (superBytes a b c) := by
  obtain ⟨i5, hi, hz0, hz1, hz2⟩ := info_parts info5
  have hmk : ∀ w, (Instr.makeSlice 34 (.int .i64 512) (.int .i64 512)).run Try.prog w = .ok (.slice (some ⟨w.heap.size, 0, none⟩) 512 512) (w.alloc (.cells (bvs zeros512) 5)) := make_bytes Try.underlying34 hi hz0 hz1 hz2 512 512 rfl (by omega)
  clear hi hz0 hz1 hz2
  go_enter Try.func25, Try.ntmps25
  go_wp2_with fail
  refine (Plan.ref_any _ _ _ _).mono ?_
  rw [answer_yes h]
  unfold planned
  rintro e w1 ⟨rfl, hb⟩
  have HB1 := Lib.hid (Blk.new w #[.int .i64 a, .int .i64 b, .int .i64 c] 30)
  have HK1 := Lib.hid (HB1.out.below hb (by simp))
  have HW1 := Lib.hid (((Below.refl w.heap.size w).alloc (Nat.le_refl _) _).trans (hb.mono (by simp)))
  clear hb HB1
  go_upto_region 4 with (fail)
  refine gen_world (fun w' => Hid (Below w.heap.size w w' ∧ Blk w' w.heap.size #[.int .i64 a, .int .i64 b, .int .i64 c] 30 ∧ w.heap.size < w'.heap.size)) ?_ ?_
  · exact ⟨HW1.out.alloc HW1.out.size _, HK1.out.alloc _, by have := HK1.out.lt; simp; omega⟩
  clear HW1 HK1
  rintro w2 h2
  go_upto_region 5 with (fail)
  generalize hB : w2.heap.size = B at *
  refine gen_world (fun w' => Hid (Below w.heap.size w w' ∧ Blk w' w.heap.size #[.int .i64 a, .int .i64 b, .int .i64 c] 30 ∧ w.heap.size < B ∧ Blk w' B (bvs (put zeros512 0 (vell.take 0))) 5)) ?_ ?_
  · have hle : w.heap.size ≤ w2.heap.size := h2.out.1.size
    subst hB
    refine ⟨h2.out.1.alloc hle _, h2.out.2.1.alloc _, h2.out.2.2, ?_⟩
    rw [List.take_zero, put_nil]
    exact Blk.new w2 (bvs zeros512) 5
  clear h2 hmk hB w2
  rintro w3 h3
  go_wp2_with fail
  have hidx : ∀ k : Nat, (hk : k < 6) → ∀ w, (Instr.index 9 (.string { data := #[118, 101, 108, 108, 117, 109] }) (.int .i64 k)).run Try.prog w = .ok (.int .u8 (v8 vell[k])) w := by
    intro k hk
    match k, hk with
    | 0, _ => exact fun _ => by kernel_rfl
    | 1, _ => exact fun _ => by kernel_rfl
    | 2, _ => exact fun _ => by kernel_rfl
    | 3, _ => exact fun _ => by kernel_rfl
    | 4, _ => exact fun _ => by kernel_rfl
    | 5, _ => exact fun _ => by kernel_rfl
  have HIDX := Lib.hid hidx
  clear hidx

  go_loopw [8] (fun i wr => ∃ (k : Nat), i = .int .i64 k ∧ k ≤ 6 ∧ Hid (Below w.heap.size w wr ∧ Blk wr w.heap.size #[.int .i64 a, .int .i64 b, .int .i64 c] 30 ∧ w.heap.size < B ∧ Blk wr B (bvs (put zeros512 0 (vell.take k))) 5)) (fun i _ => 6 - (intOf i).toNat)
  case atStart => exact ⟨0, rfl, by omega, h3⟩
  case round =>
    clear h3
    obtain ⟨k, rfl, hk, HR⟩ := hrel
    by_cases hlt : k < 6
    · have hx := HIDX.out k hlt
      have hput := Lib.hid (put_set zeros512 0 (vell.take k) vell[k] (by rw [zeros512_length, List.length_take]; omega))
      have hlk : (vell.take k).length = k := by rw [List.length_take]; show min k 6 = k; omega
      have hl : (put zeros512 0 (vell.take k)).length = 512 := by rw [put_length _ _ _ (by rw [zeros512_length, hlk]; omega), zeros512_length]
      have htk := Lib.hid (List.take_succ_eq_append_getElem (l := vell) (i := k) hlt)
      obtain ⟨y, c2⟩ : ∃ y, wr.cell? ⟨B, k, none⟩ = some (.int .u8 y) := ⟨_, (HR.out.2.2.2.cell _).trans (bvs_get _ _ (by rw [hl]; omega))⟩
      have f2 := HR.out.2.2.2.frozen k
      have HLK := Lib.hid hlk
      clear hlk hl
      generalize vell[k] = z at *
      go_wp2_with fail
      have hlt2 := HR.out.2.2.1
      refine ⟨⟨k + 1, by go_num, by omega, HR.out.1.setCell (by show _ ≤ B; omega) _, HR.out.2.1.far (by show _ ≠ B; omega) _, hlt2, ?_⟩, by simp [intOf]; omega⟩
      have h := HR.out.2.2.2.put k (.int .u8 (v8 z))
      rw [bvs_set] at h
      have hp := hput.out
      rw [HLK.out, Nat.zero_add, ← htk.out] at hp
      rw [hp] at h
      exact h
    · have ek : k = 6 := by omega
      subst ek
      obtain ⟨y7, c7⟩ : ∃ y, wr.cell? ⟨B, 7, none⟩ = some (.int .u8 y) := ⟨_, (HR.out.2.2.2.cell _).trans (bvs_get _ _ (by rw [put_length _ _ _ (by rw [zeros512_length]; decide), zeros512_length]; decide))⟩
      have f7 := HR.out.2.2.2.frozen 7
      obtain ⟨hb1, hb2, hc1, hc2, _, ha, ha2⟩ := h
      have hc4 : 0 ≤ (c : Int) / 4 := by omega
      go_upto_region 11 with (fail)
      refine gen_world (fun w' => Hid (Below w.heap.size w w' ∧ Blk w' w.heap.size #[.int .i64 a, .int .i64 b, .int .i64 c] 30 ∧ w.heap.size < B ∧ Blk w' B (bvs (E a b c 0)) 5)) ?_ ?_
      · have hlt2 := HR.out.2.2.1
        refine ⟨HR.out.1.setCell (by show _ ≤ B; omega) _, HR.out.2.1.far (by show _ ≠ B; omega) _, hlt2, ?_⟩
        have h := HR.out.2.2.2.put 7 (.int .u8 (v8 1))
        rw [bvs_set, show vell.take 6 = vell from rfl, vell_magic] at h
        exact h
      clear c7 f7 HR
      rintro w4 h4
      have c4 : w4.cell? ⟨w.heap.size, 0, none⟩ = some (.int .i64 a) := (h4.out.2.1.cell 0).trans rfl
      go_wp2_with fail
      refine (lay_at B 512 8 4 512 8 4 _ (E a b c 0) _ (E_length _ _ _ _) rfl rfl (by decide) (by omega) (by omega) (by omega) (by omega) h4.out.2.2.2).mono ?_
      clear c4
      rintro e w5 ⟨rfl, k5⟩
      have h5 : Hid (Below w.heap.size w w5 ∧ Blk w5 w.heap.size #[.int .i64 a, .int .i64 b, .int .i64 c] 30 ∧ w.heap.size < B ∧ Blk w5 B (bvs (E a b c 1)) 5) :=
        ⟨h4.out.1.trans (k5.out.1.below (Nat.le_of_lt h4.out.2.2.1)), k5.out.1.blk h4.out.2.1 (Nat.ne_of_lt h4.out.2.2.1), h4.out.2.2.1, by have h := k5.out.2; rw [Int.toNat_natCast] at h; exact h⟩
      clear k5 h4
      have c5 : w5.cell? ⟨w.heap.size, 1, none⟩ = some (.int .i64 b) := (h5.out.2.1.cell 1).trans rfl
      go_wp2_with fail
      refine (lay_at B 512 12 4 512 12 4 _ (E a b c 1) _ (E_length _ _ _ _) rfl rfl (by decide) (by omega) (by omega) (by omega) (by omega) h5.out.2.2.2).mono ?_
      clear c5
      rintro e w6 ⟨rfl, k6⟩
      have h6 : Hid (Below w.heap.size w w6 ∧ Blk w6 w.heap.size #[.int .i64 a, .int .i64 b, .int .i64 c] 30 ∧ w.heap.size < B ∧ Blk w6 B (bvs (E a b c 2)) 5) :=
        ⟨h5.out.1.trans (k6.out.1.below (Nat.le_of_lt h5.out.2.2.1)), k6.out.1.blk h5.out.2.1 (Nat.ne_of_lt h5.out.2.2.1), h5.out.2.2.1, by have h := k6.out.2; rw [Int.toNat_natCast] at h; exact h⟩
      clear k6 h5
      have c6 : w6.cell? ⟨w.heap.size, 2, none⟩ = some (.int .i64 c) := (h6.out.2.1.cell 2).trans rfl
      go_wp2_with fail
      refine (lay_at B 512 16 4 512 16 4 _ (E a b c 2) _ (E_length _ _ _ _) rfl rfl (by decide) (by omega) (by omega) (by omega) (by omega) h6.out.2.2.2).mono ?_
      clear c6
      rintro e w7 ⟨rfl, k7⟩
      have h7 : Hid (Below w.heap.size w w7 ∧ Blk w7 w.heap.size #[.int .i64 a, .int .i64 b, .int .i64 c] 30 ∧ w.heap.size < B ∧ Blk w7 B (bvs (E a b c 3)) 5) :=
        ⟨h6.out.1.trans (k7.out.1.below (Nat.le_of_lt h6.out.2.2.1)), k7.out.1.blk h6.out.2.1 (Nat.ne_of_lt h6.out.2.2.1), h6.out.2.2.1, by have h := k7.out.2; rw [Int.toNat_natCast] at h; exact h⟩
      clear k7 h6
      go_wp2_with fail
      have ht : ((E a b c 3).take 508).length = 508 := by rw [List.length_take, E_length]; rfl
      refine (refsum_at (some ⟨B, 0, none⟩) 508 512 ((E a b c 3).take 508) _ ht (by omega) (Bytes.own (r := (E a b c 3).drop 508) (by rw [List.take_append_drop]; exact h7.out.2.2.2))).mono ?_
      rintro e w8 ⟨rfl, rfl⟩
      go_wp2_with fail
      refine (lay_at B 512 508 4 512 508 4 _ (E a b c 3) _ (E_length _ _ _ _) rfl rfl (by decide) (sum_lo _) (sum_hi _) (by omega) (by omega) h7.out.2.2.2).mono ?_
      rintro e w9 ⟨rfl, k9⟩
      go_wp2_with fail
      go_ret2
      refine ⟨B, rfl, Nat.le_of_lt h7.out.2.2.1, h7.out.1.trans (k9.out.1.below (Nat.le_of_lt h7.out.2.2.1)), ?_⟩
      have hs : superBytes a b c = put (E a b c 3) 508 (leN 4 (sum ((E a b c 3).take 508)).toNat) := by
        unfold superBytes sealed4
        rw [E_length, sum_toNat]
      rw [hs]
      exact k9.out.2
end Go.Proofs.Ytefmihbjboacdaa.RefSuper
