/- EncodeNode: the 128 bytes of a node; zeros for the empty one; ErrField for one that does not fit. -/
import Derived.Test.YtefmihbjboacdaaNodeFits
namespace Go.Proofs.Ytefmihbjboacdaa.NodeEnc
open Go.ChangeShapes Go.WideShapes Go.ChangeAt Go.RowKit
open Go.Proofs.Ytefmihbjboacdaa.Kit Go.Proofs.Ytefmihbjboacdaa.Crc Go.Proofs.Ytefmihbjboacdaa.Reads Go.Proofs.Ytefmihbjboacdaa.Copy Go.Proofs.Ytefmihbjboacdaa.Sum Go.Proofs.Ytefmihbjboacdaa.Lay Go.Proofs.Ytefmihbjboacdaa.Writer Go.Proofs.Ytefmihbjboacdaa.SuperEnc Go.Proofs.Ytefmihbjboacdaa.Lists Go.Proofs.Ytefmihbjboacdaa.NodeLay Go.Proofs.Ytefmihbjboacdaa.EntryEnc Go.Proofs.Ytefmihbjboacdaa.NodeEq Go.Proofs.Ytefmihbjboacdaa.NodeFits
set_option linter.unusedVariables false

theorem fits_ok (f : Nat → Int) (w : World) (h : NOk f) : Calls Try.prog 58 #[.agg #[.int .i64 (f 0), .int .i64 (f 1), .int .i64 (f 2), .int .i64 (f 3), .int .i64 (f 4), .int .i64 (f 5), .int .i64 (f 6), .int .i64 (f 7), .int .i64 (f 8), .int .i64 (f 9), .int .i64 (f 10), .int .i64 (f 11), .int .i64 (f 12), .int .i64 (f 13), .int .i64 (f 14), .int .i64 (f 15), .int .i64 (f 16)]] w fun e w' => e = .returned (.bool true) ∧ Below w.heap.size w w' := by
  by_cases hz : NZero f
  · exact fits_zero f w hz
  · have := fits_else f w hz
    rwa [decide_eq_true (h.resolve_left hz)] at this
theorem fits_bad (f : Nat → Int) (w : World) (h : ¬ NOk f) : Calls Try.prog 58 #[.agg #[.int .i64 (f 0), .int .i64 (f 1), .int .i64 (f 2), .int .i64 (f 3), .int .i64 (f 4), .int .i64 (f 5), .int .i64 (f 6), .int .i64 (f 7), .int .i64 (f 8), .int .i64 (f 9), .int .i64 (f 10), .int .i64 (f 11), .int .i64 (f 12), .int .i64 (f 13), .int .i64 (f 14), .int .i64 (f 15), .int .i64 (f 16)]] w fun e w' => e = .returned (.bool false) ∧ Below w.heap.size w w' := by
  have := fits_else f w (fun hz => h (.inl hz))
  rwa [decide_eq_false (fun hf => h (.inr hf))] at this

/-- the node's copy lies there -/
def Nd (f : Nat → Int) (w w' : World) : Prop := Below w.heap.size w w' ∧ Blk w' w.heap.size (ncs f) 51

set_option maxRecDepth 100000 in
set_option maxHeartbeats 1600000 in
theorem enc_bad (f : Nat → Int) (w : World) (h : ¬ NOk f) :
    Calls Try.prog 29 #[.agg #[.int .i64 (f 0), .int .i64 (f 1), .int .i64 (f 2), .int .i64 (f 3), .int .i64 (f 4), .int .i64 (f 5), .int .i64 (f 6), .int .i64 (f 7), .int .i64 (f 8), .int .i64 (f 9), .int .i64 (f 10), .int .i64 (f 11), .int .i64 (f 12), .int .i64 (f 13), .int .i64 (f 14), .int .i64 (f 15), .int .i64 (f 16)]] w fun e w' => e = .returned (.tuple #[.slice none 0 0, .int .i64 20]) ∧ Below w.heap.size w w' := by
  have HN := Lib.hid h
  clear h
  go_enter Try.func29, Try.ntmps29
  go_upto_region 1 with (fail)
  refine gen_world (fun w' => Hid (Nd f w w')) ?_ ?_
  · exact ⟨(Below.refl _ _).alloc (Nat.le_refl _) _, Blk.new w _ _⟩
  rintro w1 h1
  have c0 : w1.cell? ⟨w.heap.size, 0, none⟩ = some (.int .i64 (f 0)) := (h1.out.2.cell 0).trans rfl
  have c1 : w1.cell? ⟨w.heap.size, 1, none⟩ = some (.int .i64 (f 1)) := (h1.out.2.cell 1).trans rfl
  have c2 : w1.cell? ⟨w.heap.size, 2, none⟩ = some (.int .i64 (f 2)) := (h1.out.2.cell 2).trans rfl
  have c3 : w1.cell? ⟨w.heap.size, 3, none⟩ = some (.int .i64 (f 3)) := (h1.out.2.cell 3).trans rfl
  have c4 : w1.cell? ⟨w.heap.size, 4, none⟩ = some (.int .i64 (f 4)) := (h1.out.2.cell 4).trans rfl
  have c5 : w1.cell? ⟨w.heap.size, 5, none⟩ = some (.int .i64 (f 5)) := (h1.out.2.cell 5).trans rfl
  have c6 : w1.cell? ⟨w.heap.size, 6, none⟩ = some (.int .i64 (f 6)) := (h1.out.2.cell 6).trans rfl
  have c7 : w1.cell? ⟨w.heap.size, 7, none⟩ = some (.int .i64 (f 7)) := (h1.out.2.cell 7).trans rfl
  have c8 : w1.cell? ⟨w.heap.size, 8, none⟩ = some (.int .i64 (f 8)) := (h1.out.2.cell 8).trans rfl
  have c9 : w1.cell? ⟨w.heap.size, 9, none⟩ = some (.int .i64 (f 9)) := (h1.out.2.cell 9).trans rfl
  have c10 : w1.cell? ⟨w.heap.size, 10, none⟩ = some (.int .i64 (f 10)) := (h1.out.2.cell 10).trans rfl
  have c11 : w1.cell? ⟨w.heap.size, 11, none⟩ = some (.int .i64 (f 11)) := (h1.out.2.cell 11).trans rfl
  have c12 : w1.cell? ⟨w.heap.size, 12, none⟩ = some (.int .i64 (f 12)) := (h1.out.2.cell 12).trans rfl
  have c13 : w1.cell? ⟨w.heap.size, 13, none⟩ = some (.int .i64 (f 13)) := (h1.out.2.cell 13).trans rfl
  have c14 : w1.cell? ⟨w.heap.size, 14, none⟩ = some (.int .i64 (f 14)) := (h1.out.2.cell 14).trans rfl
  have c15 : w1.cell? ⟨w.heap.size, 15, none⟩ = some (.int .i64 (f 15)) := (h1.out.2.cell 15).trans rfl
  have c16 : w1.cell? ⟨w.heap.size, 16, none⟩ = some (.int .i64 (f 16)) := (h1.out.2.cell 16).trans rfl
  go_wp2_with fail
  refine (fits_bad f _ HN.out).mono ?_
  rintro e w2 ⟨rfl, hb2⟩
  have HB2 := Lib.hid hb2
  clear hb2 c0 c1 c2 c3 c4 c5 c6 c7 c8 c9 c10 c11 c12 c13 c14 c15 c16
  go_wp2_with fail
  go_ret2
  exact ⟨rfl, h1.out.1.trans (HB2.out.mono h1.out.1.size)⟩
/-- behind the guard: a writer over 128 zeros -/
def Ready (f : Nat → Int) (k : Nat) (B : Nat) (w w' : World) : Prop := Below w.heap.size w w' ∧ Blk w' w.heap.size (ncs f) 51 ∧ w.heap.size < B ∧ Wr w' (B + 1) B (put (zs 128) 0 (rowN (fun k => (f k).toNat) k)) (pos k)
theorem ready {f : Nat → Int} {w w2 : World} (h : Nd f w w2) : Ready f 0 w2.heap.size w ((w2.alloc (.cells (bvs (zs 128)) 5)).alloc (.cells #[.slice (some ⟨w2.heap.size, 0, none⟩) 128 128, .int .i64 0] 86)) := by
  have hle := h.1.size
  have hlt := h.2.lt
  refine ⟨(h.1.alloc hle _).alloc (by simp; omega) _, (h.2.alloc _).alloc _, hlt, by omega, ?_, ?_⟩
  · rw [rowN, put_nil]
    have h := Blk.new (w2.alloc (.cells (bvs (zs 128)) 5)) #[.slice (some ⟨w2.heap.size, 0, none⟩) 128 128, .int .i64 0] 86
    rw [zs_length, show pos 0 = 0 from rfl]
    simpa using h
  · rw [rowN, put_nil]
    exact (Blk.new w2 (bvs (zs 128)) 5).alloc _
theorem Ready.step {f : Nat → Int} {k B : Nat} {w wa wb : World} (h : Ready f k B w wa) {q : Nat} (hq : q = wd k) (ho : Two (B + 1) B wa wb ∧ Wr wb (B + 1) B (put (zs 128) 0 (rowN (fun k => (f k).toNat) k ++ leN q (f k).toNat)) (pos k + q)) : Ready f (k + 1) B w wb := by
  subst hq
  have hlt := h.2.2.1
  exact ⟨h.1.trans (ho.1.below (by omega) (by omega)), ho.1.blk h.2.1 (by omega) (by omega), hlt, ho.2⟩
theorem number_rd {f : Nat → Int} {k B : Nat} {w wa : World} (h : Hid (Ready f k B w wa)) (q v : Int) (n : Nat) (hk : k < 17) (hn : n = wd k) (hq : q = (n : Int)) (hv : v = f k) (hok : NOk f) :
    Calls Try.prog 52 #[.pointer (some ⟨B + 1, 0, none⟩), .int .i64 q, .int .i64 v] wa fun e wb => e = .returned (.tuple #[]) ∧ Hid (Ready f (k + 1) B w wb) := by
  subst hv
  have hl := nok_lt hok k hk
  have hp := pos_le k hk
  have hw : wd k ≤ 8 := by unfold wd; split <;> (try split) <;> (try split) <;> omega
  have hb : f k < 9223372036854775808 := by
    obtain ⟨h0, h1, h2, h3, h4, h5⟩ := nok_bounds hok
    match k, hk with
    | 0, _ => omega
    | 1, _ => omega
    | 2, _ => omega
    | 3, _ => omega
    | 4, _ => omega
    | k + 5, hk =>
      have := h5 k (by omega)
      rw [Nat.add_comm k 5]
      omega
  refine (number_st (B + 1) B (zs 128) (rowN (fun k => (f k).toNat) k) (pos k) n 128 q (f k) wa (zs_length _) (rowN_length _ _).symm hq (by omega) hl.1 hb (by omega) (by decide) h.out.2.2.2).mono ?_
  rintro e wb ⟨rfl, g⟩
  exact ⟨rfl, h.out.step hn g.out⟩

set_option maxRecDepth 100000 in
set_option maxHeartbeats 1600000 in
theorem enc_zero (f : Nat → Int) (w : World) (hz : NZero f) :
    Calls Try.prog 29 #[.agg #[.int .i64 (f 0), .int .i64 (f 1), .int .i64 (f 2), .int .i64 (f 3), .int .i64 (f 4), .int .i64 (f 5), .int .i64 (f 6), .int .i64 (f 7), .int .i64 (f 8), .int .i64 (f 9), .int .i64 (f 10), .int .i64 (f 11), .int .i64 (f 12), .int .i64 (f 13), .int .i64 (f 14), .int .i64 (f 15), .int .i64 (f 16)]] w fun e w' => ∃ B, e = .returned (.tuple #[.slice (some ⟨B, 0, none⟩) 128 128, .int .i64 0]) ∧ Made w w' B (zs 128) := by
  obtain ⟨i5, hi, hz0, hz1, hz2⟩ := info_parts info5
  have hmk : ∀ w, (Instr.makeSlice 34 (.int .i64 128) (.int .i64 128)).run Try.prog w = .ok (.slice (some ⟨w.heap.size, 0, none⟩) 128 128) (w.alloc (.cells (bvs (zs 128)) 5)) := make_bytes Try.underlying34 hi hz0 hz1 hz2 128 128 rfl (by omega)
  clear hi hz0 hz1 hz2
  have HZ := Lib.hid hz
  clear hz
  go_enter Try.func29, Try.ntmps29
  go_upto_region 1 with (fail)
  refine gen_world (fun w' => Hid (Nd f w w')) ?_ ?_
  · exact ⟨(Below.refl _ _).alloc (Nat.le_refl _) _, Blk.new w _ _⟩
  rintro w1 h1
  have c0 : w1.cell? ⟨w.heap.size, 0, none⟩ = some (.int .i64 (f 0)) := (h1.out.2.cell 0).trans rfl
  have c1 : w1.cell? ⟨w.heap.size, 1, none⟩ = some (.int .i64 (f 1)) := (h1.out.2.cell 1).trans rfl
  have c2 : w1.cell? ⟨w.heap.size, 2, none⟩ = some (.int .i64 (f 2)) := (h1.out.2.cell 2).trans rfl
  have c3 : w1.cell? ⟨w.heap.size, 3, none⟩ = some (.int .i64 (f 3)) := (h1.out.2.cell 3).trans rfl
  have c4 : w1.cell? ⟨w.heap.size, 4, none⟩ = some (.int .i64 (f 4)) := (h1.out.2.cell 4).trans rfl
  have c5 : w1.cell? ⟨w.heap.size, 5, none⟩ = some (.int .i64 (f 5)) := (h1.out.2.cell 5).trans rfl
  have c6 : w1.cell? ⟨w.heap.size, 6, none⟩ = some (.int .i64 (f 6)) := (h1.out.2.cell 6).trans rfl
  have c7 : w1.cell? ⟨w.heap.size, 7, none⟩ = some (.int .i64 (f 7)) := (h1.out.2.cell 7).trans rfl
  have c8 : w1.cell? ⟨w.heap.size, 8, none⟩ = some (.int .i64 (f 8)) := (h1.out.2.cell 8).trans rfl
  have c9 : w1.cell? ⟨w.heap.size, 9, none⟩ = some (.int .i64 (f 9)) := (h1.out.2.cell 9).trans rfl
  have c10 : w1.cell? ⟨w.heap.size, 10, none⟩ = some (.int .i64 (f 10)) := (h1.out.2.cell 10).trans rfl
  have c11 : w1.cell? ⟨w.heap.size, 11, none⟩ = some (.int .i64 (f 11)) := (h1.out.2.cell 11).trans rfl
  have c12 : w1.cell? ⟨w.heap.size, 12, none⟩ = some (.int .i64 (f 12)) := (h1.out.2.cell 12).trans rfl
  have c13 : w1.cell? ⟨w.heap.size, 13, none⟩ = some (.int .i64 (f 13)) := (h1.out.2.cell 13).trans rfl
  have c14 : w1.cell? ⟨w.heap.size, 14, none⟩ = some (.int .i64 (f 14)) := (h1.out.2.cell 14).trans rfl
  have c15 : w1.cell? ⟨w.heap.size, 15, none⟩ = some (.int .i64 (f 15)) := (h1.out.2.cell 15).trans rfl
  have c16 : w1.cell? ⟨w.heap.size, 16, none⟩ = some (.int .i64 (f 16)) := (h1.out.2.cell 16).trans rfl
  go_wp2_with fail
  refine (fits_ok f _ (.inl HZ.out)).mono ?_
  rintro e w2 ⟨rfl, hb2⟩
  have h2 : Hid (Nd f w w2) := ⟨h1.out.1.trans (hb2.mono h1.out.1.size), h1.out.2.below hb2 h1.out.2.lt⟩
  clear hb2 c0 c1 c2 c3 c4 c5 c6 c7 c8 c9 c10 c11 c12 c13 c14 c15 c16 h1
  have HR := Lib.hid (ready h2.out)
  go_upto_region 4 with (fail)
  refine gen_world (fun w' => Hid (Ready f 0 w2.heap.size w w')) HR ?_
  generalize w2.heap.size = B
  clear HR hmk h2
  rintro w3 h3
  have c0 : w3.cell? ⟨w.heap.size, 0, none⟩ = some (.int .i64 0) := ((h3.out.2.1.cell 0).trans (ncs_get f 0 (by decide))).trans (by rw [HZ.out 0 (by decide)])
  have d0 : w3.cell? ⟨B + 1, 0, none⟩ = some (.slice (some ⟨B, 0, none⟩) 128 128) := by rw [h3.out.2.2.2.2.1.cell, put_zs _ _ (by decide)]; rfl
  go_wp2_with fail
  go_ret2
  refine ⟨B, rfl, Nat.le_of_lt h3.out.2.2.1, h3.out.1, ?_⟩
  have h := h3.out.2.2.2.2.2
  rw [rowN, put_nil] at h
  exact h

set_option maxRecDepth 100000 in
set_option maxHeartbeats 3200000 in
theorem enc_yes (f : Nat → Int) (w : World) (hz : ¬ NZero f) (hf : NFits f) :
    Calls Try.prog 29 #[.agg #[.int .i64 (f 0), .int .i64 (f 1), .int .i64 (f 2), .int .i64 (f 3), .int .i64 (f 4), .int .i64 (f 5), .int .i64 (f 6), .int .i64 (f 7), .int .i64 (f 8), .int .i64 (f 9), .int .i64 (f 10), .int .i64 (f 11), .int .i64 (f 12), .int .i64 (f 13), .int .i64 (f 14), .int .i64 (f 15), .int .i64 (f 16)]] w fun e w' => ∃ B, e = .returned (.tuple #[.slice (some ⟨B, 0, none⟩) 128 128, .int .i64 0]) ∧ Made w w' B (nodeBytes fun k => (f k).toNat) := by
  obtain ⟨i5, hi, hz0, hz1, hz2⟩ := info_parts info5
  have hmk : ∀ w, (Instr.makeSlice 34 (.int .i64 128) (.int .i64 128)).run Try.prog w = .ok (.slice (some ⟨w.heap.size, 0, none⟩) 128 128) (w.alloc (.cells (bvs (zs 128)) 5)) := make_bytes Try.underlying34 hi hz0 hz1 hz2 128 128 rfl (by omega)
  clear hi hz0 hz1 hz2
  have HOK : Hid (NOk f) := .inr hf
  have hk0 : (f 0 == 0) = false := beq_eq_false_iff_ne.2 (fun e => by have := hf.1.1; omega)
  clear hz hf
  have hidx : ∀ j : Nat, (hj : j < 10) → ∀ w, (Instr.index 49 (.agg #[.int .i64 (f 5), .int .i64 (f 6), .int .i64 (f 7), .int .i64 (f 8), .int .i64 (f 9), .int .i64 (f 10), .int .i64 (f 11), .int .i64 (f 12), .int .i64 (f 13), .int .i64 (f 14)]) (.int .i64 j)).run Try.prog w = .ok (.int .i64 (f (5 + j))) w := by
    intro j hj
    match j, hj with
    | 0, _ => exact fun _ => by kernel_rfl
    | 1, _ => exact fun _ => by kernel_rfl
    | 2, _ => exact fun _ => by kernel_rfl
    | 3, _ => exact fun _ => by kernel_rfl
    | 4, _ => exact fun _ => by kernel_rfl
    | 5, _ => exact fun _ => by kernel_rfl
    | 6, _ => exact fun _ => by kernel_rfl
    | 7, _ => exact fun _ => by kernel_rfl
    | 8, _ => exact fun _ => by kernel_rfl
    | 9, _ => exact fun _ => by kernel_rfl
    | j + 10, hj => exact absurd hj (by omega)
  have HIDX := Lib.hid hidx
  clear hidx
  go_enter Try.func29, Try.ntmps29
  go_upto_region 1 with (fail)
  refine gen_world (fun w' => Hid (Nd f w w')) ?_ ?_
  · exact ⟨(Below.refl _ _).alloc (Nat.le_refl _) _, Blk.new w _ _⟩
  rintro w1 h1
  have c0 : w1.cell? ⟨w.heap.size, 0, none⟩ = some (.int .i64 (f 0)) := (h1.out.2.cell 0).trans rfl
  have c1 : w1.cell? ⟨w.heap.size, 1, none⟩ = some (.int .i64 (f 1)) := (h1.out.2.cell 1).trans rfl
  have c2 : w1.cell? ⟨w.heap.size, 2, none⟩ = some (.int .i64 (f 2)) := (h1.out.2.cell 2).trans rfl
  have c3 : w1.cell? ⟨w.heap.size, 3, none⟩ = some (.int .i64 (f 3)) := (h1.out.2.cell 3).trans rfl
  have c4 : w1.cell? ⟨w.heap.size, 4, none⟩ = some (.int .i64 (f 4)) := (h1.out.2.cell 4).trans rfl
  have c5 : w1.cell? ⟨w.heap.size, 5, none⟩ = some (.int .i64 (f 5)) := (h1.out.2.cell 5).trans rfl
  have c6 : w1.cell? ⟨w.heap.size, 6, none⟩ = some (.int .i64 (f 6)) := (h1.out.2.cell 6).trans rfl
  have c7 : w1.cell? ⟨w.heap.size, 7, none⟩ = some (.int .i64 (f 7)) := (h1.out.2.cell 7).trans rfl
  have c8 : w1.cell? ⟨w.heap.size, 8, none⟩ = some (.int .i64 (f 8)) := (h1.out.2.cell 8).trans rfl
  have c9 : w1.cell? ⟨w.heap.size, 9, none⟩ = some (.int .i64 (f 9)) := (h1.out.2.cell 9).trans rfl
  have c10 : w1.cell? ⟨w.heap.size, 10, none⟩ = some (.int .i64 (f 10)) := (h1.out.2.cell 10).trans rfl
  have c11 : w1.cell? ⟨w.heap.size, 11, none⟩ = some (.int .i64 (f 11)) := (h1.out.2.cell 11).trans rfl
  have c12 : w1.cell? ⟨w.heap.size, 12, none⟩ = some (.int .i64 (f 12)) := (h1.out.2.cell 12).trans rfl
  have c13 : w1.cell? ⟨w.heap.size, 13, none⟩ = some (.int .i64 (f 13)) := (h1.out.2.cell 13).trans rfl
  have c14 : w1.cell? ⟨w.heap.size, 14, none⟩ = some (.int .i64 (f 14)) := (h1.out.2.cell 14).trans rfl
  have c15 : w1.cell? ⟨w.heap.size, 15, none⟩ = some (.int .i64 (f 15)) := (h1.out.2.cell 15).trans rfl
  have c16 : w1.cell? ⟨w.heap.size, 16, none⟩ = some (.int .i64 (f 16)) := (h1.out.2.cell 16).trans rfl
  go_wp2_with fail
  refine (fits_ok f _ HOK.out).mono ?_
  rintro e w2 ⟨rfl, hb2⟩
  have h2 : Hid (Nd f w w2) := ⟨h1.out.1.trans (hb2.mono h1.out.1.size), h1.out.2.below hb2 h1.out.2.lt⟩
  clear hb2 c0 c1 c2 c3 c4 c5 c6 c7 c8 c9 c10 c11 c12 c13 c14 c15 c16 h1
  have HR := Lib.hid (ready h2.out)
  go_upto_region 4 with (fail)
  refine gen_world (fun w' => Hid (Ready f 0 w2.heap.size w w')) HR ?_
  generalize w2.heap.size = B
  clear HR hmk h2
  rintro w3 h3
  have c0 : w3.cell? ⟨w.heap.size, 0, none⟩ = some (.int .i64 (f 0)) := (h3.out.2.1.cell 0).trans rfl
  go_wp2_with fail
  clear c0 hk0
  refine (number_rd h3 2 _ 2 (by decide) rfl rfl rfl HOK.out).mono ?_
  rintro e w4 ⟨rfl, h4⟩
  clear h3
  have c0 : w4.cell? ⟨w.heap.size, 1, none⟩ = some (.int .i64 (f 1)) := (h4.out.2.1.cell 1).trans rfl
  go_wp2_with fail
  clear c0
  refine (number_rd h4 2 _ 2 (by decide) rfl rfl rfl HOK.out).mono ?_
  rintro e w5 ⟨rfl, h5⟩
  clear h4
  have c0 : w5.cell? ⟨w.heap.size, 2, none⟩ = some (.int .i64 (f 2)) := (h5.out.2.1.cell 2).trans rfl
  go_wp2_with fail
  clear c0
  refine (number_rd h5 4 _ 4 (by decide) rfl rfl rfl HOK.out).mono ?_
  rintro e w6 ⟨rfl, h6⟩
  clear h5
  have c0 : w6.cell? ⟨w.heap.size, 3, none⟩ = some (.int .i64 (f 3)) := (h6.out.2.1.cell 3).trans rfl
  go_wp2_with fail
  clear c0
  refine (number_rd h6 8 _ 8 (by decide) rfl rfl rfl HOK.out).mono ?_
  rintro e w7 ⟨rfl, h7⟩
  clear h6
  have c0 : w7.cell? ⟨w.heap.size, 4, none⟩ = some (.int .i64 (f 4)) := (h7.out.2.1.cell 4).trans rfl
  go_wp2_with fail
  clear c0
  refine (number_rd h7 8 _ 8 (by decide) rfl rfl rfl HOK.out).mono ?_
  rintro e w8 ⟨rfl, h8⟩
  clear h7
  have c5 : w8.cell? ⟨w.heap.size, 5, none⟩ = some (.int .i64 (f 5)) := (h8.out.2.1.cell 5).trans rfl
  have c6 : w8.cell? ⟨w.heap.size, 6, none⟩ = some (.int .i64 (f 6)) := (h8.out.2.1.cell 6).trans rfl
  have c7 : w8.cell? ⟨w.heap.size, 7, none⟩ = some (.int .i64 (f 7)) := (h8.out.2.1.cell 7).trans rfl
  have c8 : w8.cell? ⟨w.heap.size, 8, none⟩ = some (.int .i64 (f 8)) := (h8.out.2.1.cell 8).trans rfl
  have c9 : w8.cell? ⟨w.heap.size, 9, none⟩ = some (.int .i64 (f 9)) := (h8.out.2.1.cell 9).trans rfl
  have c10 : w8.cell? ⟨w.heap.size, 10, none⟩ = some (.int .i64 (f 10)) := (h8.out.2.1.cell 10).trans rfl
  have c11 : w8.cell? ⟨w.heap.size, 11, none⟩ = some (.int .i64 (f 11)) := (h8.out.2.1.cell 11).trans rfl
  have c12 : w8.cell? ⟨w.heap.size, 12, none⟩ = some (.int .i64 (f 12)) := (h8.out.2.1.cell 12).trans rfl
  have c13 : w8.cell? ⟨w.heap.size, 13, none⟩ = some (.int .i64 (f 13)) := (h8.out.2.1.cell 13).trans rfl
  have c14 : w8.cell? ⟨w.heap.size, 14, none⟩ = some (.int .i64 (f 14)) := (h8.out.2.1.cell 14).trans rfl
  go_wp2_with fail
  clear c5 c6 c7 c8 c9 c10 c11 c12 c13 c14
  go_loopw [42] (fun i wr => ∃ (j : Nat), i = .int .i64 j ∧ j ≤ 10 ∧ Hid (Ready f (5 + j) B w wr)) (fun i _ => 10 - (intOf i).toNat)
  case atStart => exact ⟨0, rfl, by omega, h8⟩
  case round =>
    clear h8
    obtain ⟨j, rfl, hj, HR⟩ := hrel
    by_cases hlt : j < 10
    · have hx := HIDX.out j hlt
      go_wp2_with fail
      refine (number_rd HR 4 _ 4 (by omega) (wd_ptr j).symm rfl rfl HOK.out).mono ?_
      rintro e w9 ⟨rfl, h9⟩
      go_wp2_with fail
      exact ⟨⟨j + 1, by go_num, by omega, h9⟩, by simp [intOf]; omega⟩
    · obtain rfl : j = 10 := by omega
      have c0 : wr.cell? ⟨w.heap.size, 15, none⟩ = some (.int .i64 (f 15)) := (HR.out.2.1.cell 15).trans rfl
      go_wp2_with fail
      clear c0
      refine (number_rd HR 4 _ 4 (by decide) rfl rfl rfl HOK.out).mono ?_
      rintro e w9 ⟨rfl, h9⟩
      clear HR
      have c0 : w9.cell? ⟨w.heap.size, 16, none⟩ = some (.int .i64 (f 16)) := (h9.out.2.1.cell 16).trans rfl
      go_wp2_with fail
      clear c0
      refine (number_rd h9 4 _ 4 (by decide) rfl rfl rfl HOK.out).mono ?_
      rintro e w10 ⟨rfl, h10⟩
      clear h9
      go_wp2_with fail
      refine (sealed_any (B + 1) B 124 (put (zs 128) 0 (rowN (fun k => (f k).toNat) 17)) (pos 17) _ (by rw [put_zs _ _ (by decide)]) (by omega) h10.out.2.2.2).mono ?_
      rintro e w11 ⟨rfl, h11⟩
      go_wp2_with fail
      go_ret2
      have hlt2 := h10.out.2.2.1
      exact ⟨B, rfl, by omega, h10.out.1.trans (h11.out.1.below h10.out.1.size (fun k hk => by omega)), h11.out.2.2.2⟩
theorem enc_ok (f : Nat → Int) (w : World) (h : NOk f) :
    Calls Try.prog 29 #[.agg #[.int .i64 (f 0), .int .i64 (f 1), .int .i64 (f 2), .int .i64 (f 3), .int .i64 (f 4), .int .i64 (f 5), .int .i64 (f 6), .int .i64 (f 7), .int .i64 (f 8), .int .i64 (f 9), .int .i64 (f 10), .int .i64 (f 11), .int .i64 (f 12), .int .i64 (f 13), .int .i64 (f 14), .int .i64 (f 15), .int .i64 (f 16)]] w fun e w' => ∃ B, e = .returned (.tuple #[.slice (some ⟨B, 0, none⟩) 128 128, .int .i64 0]) ∧ Made w w' B (nodeOf f) := by
  unfold nodeOf
  by_cases hz : NZero f
  · rw [if_pos hz]
    exact enc_zero f w hz
  · rw [if_neg hz]
    exact enc_yes f w hz (h.resolve_left hz)
end Go.Proofs.Ytefmihbjboacdaa.NodeEnc
