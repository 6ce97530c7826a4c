/- The document's EncodeNode: the same 128 bytes. -/
import Derived.Test.YtefmihbjboacdaaNodeEnc
import Derived.Test.YtefmihbjboacdaaNodeRefFits
import Derived.Test.YtefmihbjboacdaaEntryRef
namespace Go.Proofs.Ytefmihbjboacdaa.NodeRef
open Go.ChangeShapes Go.WideShapes Go.ChangeAt Go.RowKit
open Go.Proofs.Ytefmihbjboacdaa.Kit Go.Proofs.Ytefmihbjboacdaa.Crc Go.Proofs.Ytefmihbjboacdaa.Reads Go.Proofs.Ytefmihbjboacdaa.Copy Go.Proofs.Ytefmihbjboacdaa.Lay Go.Proofs.Ytefmihbjboacdaa.Writer Go.Proofs.Ytefmihbjboacdaa.SuperEnc Go.Proofs.Ytefmihbjboacdaa.Lists Go.Proofs.Ytefmihbjboacdaa.RefSuper Go.Proofs.Ytefmihbjboacdaa.NodeLay Go.Proofs.Ytefmihbjboacdaa.NodeRefFits Go.Proofs.Ytefmihbjboacdaa.NodeEnc
open Go.Proofs.Ytefmihbjboacdaa.EntryRef (lay_st)
set_option linter.unusedVariables false

theorem rfits_ok (f : Nat → Int) (w : World) (h : NOk f) : Calls Try.prog 59 #[.agg #[.int .i64 (f 0), .int .i64 (f 1), .int .i64 (f 2), .int .i64 (f 3), .int .i64 (f 4), .int .i64 (f 5), .int .i64 (f 6), .int .i64 (f 7), .int .i64 (f 8), .int .i64 (f 9), .int .i64 (f 10), .int .i64 (f 11), .int .i64 (f 12), .int .i64 (f 13), .int .i64 (f 14), .int .i64 (f 15), .int .i64 (f 16)]] w fun e w' => e = .returned (.bool true) ∧ Below w.heap.size w w' := by
  by_cases hz : NZero f
  · exact rfits_zero f w hz
  · have := rfits_else f w hz
    unfold BoolPost at this
    rwa [decide_eq_true (h.resolve_left hz)] at this
theorem rfits_bad (f : Nat → Int) (w : World) (h : ¬ NOk f) : Calls Try.prog 59 #[.agg #[.int .i64 (f 0), .int .i64 (f 1), .int .i64 (f 2), .int .i64 (f 3), .int .i64 (f 4), .int .i64 (f 5), .int .i64 (f 6), .int .i64 (f 7), .int .i64 (f 8), .int .i64 (f 9), .int .i64 (f 10), .int .i64 (f 11), .int .i64 (f 12), .int .i64 (f 13), .int .i64 (f 14), .int .i64 (f 15), .int .i64 (f 16)]] w fun e w' => e = .returned (.bool false) ∧ Below w.heap.size w w' := by
  have := rfits_else f w (fun hz => h (.inl hz))
  unfold BoolPost at this
  rwa [decide_eq_false (fun hf => h (.inr hf))] at this

set_option maxRecDepth 100000 in
set_option maxHeartbeats 1600000 in
theorem ref_bad (f : Nat → Int) (w : World) (h : ¬ NOk f) :
    Calls Try.prog 30 #[.agg #[.int .i64 (f 0), .int .i64 (f 1), .int .i64 (f 2), .int .i64 (f 3), .int .i64 (f 4), .int .i64 (f 5), .int .i64 (f 6), .int .i64 (f 7), .int .i64 (f 8), .int .i64 (f 9), .int .i64 (f 10), .int .i64 (f 11), .int .i64 (f 12), .int .i64 (f 13), .int .i64 (f 14), .int .i64 (f 15), .int .i64 (f 16)]] w fun e w' => e = .returned (.tuple #[.slice none 0 0, .int .i64 20]) ∧ Below w.heap.size w w' := by
  have HN := Lib.hid h
  clear h
  go_enter Try.func30, Try.ntmps30
  go_upto_region 1 with (fail)
  refine gen_world (fun w' => Hid (Nd f w w')) ?_ ?_
  · exact ⟨(Below.refl _ _).alloc (Nat.le_refl _) _, Blk.new w _ _⟩
  rintro w1 h1
  have c0 : w1.cell? ⟨w.heap.size, 0, none⟩ = some (.int .i64 (f 0)) := (h1.out.2.cell 0).trans rfl
  have c1 : w1.cell? ⟨w.heap.size, 1, none⟩ = some (.int .i64 (f 1)) := (h1.out.2.cell 1).trans rfl
  have c2 : w1.cell? ⟨w.heap.size, 2, none⟩ = some (.int .i64 (f 2)) := (h1.out.2.cell 2).trans rfl
  have c3 : w1.cell? ⟨w.heap.size, 3, none⟩ = some (.int .i64 (f 3)) := (h1.out.2.cell 3).trans rfl
  have c4 : w1.cell? ⟨w.heap.size, 4, none⟩ = some (.int .i64 (f 4)) := (h1.out.2.cell 4).trans rfl
  have c5 : w1.cell? ⟨w.heap.size, 5, none⟩ = some (.int .i64 (f 5)) := (h1.out.2.cell 5).trans rfl
  have c6 : w1.cell? ⟨w.heap.size, 6, none⟩ = some (.int .i64 (f 6)) := (h1.out.2.cell 6).trans rfl
  have c7 : w1.cell? ⟨w.heap.size, 7, none⟩ = some (.int .i64 (f 7)) := (h1.out.2.cell 7).trans rfl
  have c8 : w1.cell? ⟨w.heap.size, 8, none⟩ = some (.int .i64 (f 8)) := (h1.out.2.cell 8).trans rfl
  have c9 : w1.cell? ⟨w.heap.size, 9, none⟩ = some (.int .i64 (f 9)) := (h1.out.2.cell 9).trans rfl
  have c10 : w1.cell? ⟨w.heap.size, 10, none⟩ = some (.int .i64 (f 10)) := (h1.out.2.cell 10).trans rfl
  have c11 : w1.cell? ⟨w.heap.size, 11, none⟩ = some (.int .i64 (f 11)) := (h1.out.2.cell 11).trans rfl
  have c12 : w1.cell? ⟨w.heap.size, 12, none⟩ = some (.int .i64 (f 12)) := (h1.out.2.cell 12).trans rfl
  have c13 : w1.cell? ⟨w.heap.size, 13, none⟩ = some (.int .i64 (f 13)) := (h1.out.2.cell 13).trans rfl
  have c14 : w1.cell? ⟨w.heap.size, 14, none⟩ = some (.int .i64 (f 14)) := (h1.out.2.cell 14).trans rfl
  have c15 : w1.cell? ⟨w.heap.size, 15, none⟩ = some (.int .i64 (f 15)) := (h1.out.2.cell 15).trans rfl
  have c16 : w1.cell? ⟨w.heap.size, 16, none⟩ = some (.int .i64 (f 16)) := (h1.out.2.cell 16).trans rfl
  go_wp2_with fail
  refine (rfits_bad f _ HN.out).mono ?_
  rintro e w2 ⟨rfl, hb2⟩
  have HB2 := Lib.hid hb2
  clear hb2 c0 c1 c2 c3 c4 c5 c6 c7 c8 c9 c10 c11 c12 c13 c14 c15 c16
  go_wp2_with fail
  go_ret2
  exact ⟨rfl, h1.out.1.trans (HB2.out.mono h1.out.1.size)⟩
/-- behind the guard: 128 bytes, the first fields laid; xs: what is laid -/
def Rdy (f : Nat → Int) (xs : List UInt8) (B : Nat) (w w' : World) : Prop := Below w.heap.size w w' ∧ Blk w' w.heap.size (ncs f) 51 ∧ w.heap.size < B ∧ Blk w' B (bvs (put (zs 128) 0 xs)) 5
theorem rdy {f : Nat → Int} {w w2 : World} (h : Nd f w w2) : Rdy f [] w2.heap.size w (w2.alloc (.cells (bvs (zs 128)) 5)) := by
  refine ⟨h.1.alloc h.1.size _, h.2.alloc _, h.2.lt, ?_⟩
  rw [put_nil]
  exact Blk.new w2 (bvs (zs 128)) 5
theorem wr_ptr (i : Nat) : wr (5 + i) = 4 := by
  unfold wr
  rw [if_neg (by omega), if_neg (by omega), wd_ptr]
/-- room for a field that is laid short: zeros lie there already -/
theorem put_pad (xs : List UInt8) (n k : Nat) (h : xs.length + k ≤ n) : put (zs n) 0 xs = put (zs n) 0 (xs ++ zs k) := by
  unfold put zs
  simp only [List.take_zero, List.nil_append, Nat.zero_add, List.drop_replicate, List.length_append, List.length_replicate, List.append_assoc, List.replicate_append_replicate]
  congr 2
  omega
theorem leN_short (m r v : Nat) (h : v < 256 ^ m) : leN (m + r) v = leN m v ++ zs r := by
  rw [leN_add, Nat.div_eq_of_lt h, leN_zero]
  rfl
theorem lay_rd {f : Nat → Int} {k B : Nat} {w wa : World} (h : Hid (Rdy f (rowN (fun k => (f k).toNat) k) B w wa)) (q0 q1 v : Int) (m : Nat) (hk : k < 17) (hm : m = wr k) (h0 : q0 = (pos k : Int)) (h1 : q1 = (m : Int)) (hv : v = f k) (hok : NOk f) :
    Calls Try.prog 54 #[.slice (some ⟨B, 0, none⟩) 128 128, .int .i64 q0, .int .i64 q1, .int .i64 v] wa fun e wb => e = .returned (.tuple #[]) ∧ Hid (Rdy f (rowN (fun k => (f k).toNat) (k + 1)) B w wb) := by
  subst hv hm
  have hl := nok_lt hok k hk
  have hr := nok_lt_r hok k hk
  have hp := pos_le k hk
  obtain ⟨r, hwr⟩ := wr_le k
  have hw : wd k ≤ 8 := by unfold wd; split <;> (try split) <;> (try split) <;> omega
  have hb : f k < 9223372036854775808 := by
    obtain ⟨h0, h1, h2, h3, h4, h5⟩ := nok_bounds hok
    match k, hk with
    | 0, _ => omega
    | 1, _ => omega
    | 2, _ => omega
    | 3, _ => omega
    | 4, _ => omega
    | k + 5, hk =>
      have := h5 k (by omega)
      rw [Nat.add_comm k 5]
      omega
  refine (lay_st B 128 (pos k) (wr k) 128 q0 q1 (f k) (zs 128) (rowN (fun k => (f k).toNat) k) wa (zs_length _) (rowN_length _ _).symm h0 h1 (by omega) hl.1 hb (by omega) (by decide) h.out.2.2.2).mono ?_
  rintro e wb ⟨rfl, g⟩
  have hlt := h.out.2.2.1
  refine ⟨rfl, h.out.1.trans (g.out.1.below (by omega)), g.out.1.blk h.out.2.1 (by omega), hlt, ?_⟩
  have hk2 := g.out.2
  have e : put (zs 128) 0 (rowN (fun k => (f k).toNat) k ++ leN (wr k) (f k).toNat) = put (zs 128) 0 (rowN (fun k => (f k).toNat) (k + 1)) := by
    rw [put_pad _ 128 r (by rw [List.length_append, rowN_length, leN_length]; omega), List.append_assoc, ← leN_short _ _ _ hr, hwr]
    rfl
  rw [e] at hk2
  exact hk2

set_option maxRecDepth 100000 in
set_option maxHeartbeats 1600000 in
theorem ref_zero (f : Nat → Int) (w : World) (hz : NZero f) :
    Calls Try.prog 30 #[.agg #[.int .i64 (f 0), .int .i64 (f 1), .int .i64 (f 2), .int .i64 (f 3), .int .i64 (f 4), .int .i64 (f 5), .int .i64 (f 6), .int .i64 (f 7), .int .i64 (f 8), .int .i64 (f 9), .int .i64 (f 10), .int .i64 (f 11), .int .i64 (f 12), .int .i64 (f 13), .int .i64 (f 14), .int .i64 (f 15), .int .i64 (f 16)]] w fun e w' => ∃ B, e = .returned (.tuple #[.slice (some ⟨B, 0, none⟩) 128 128, .int .i64 0]) ∧ Made w w' B (zs 128) := by
  obtain ⟨i5, hi, hz0, hz1, hz2⟩ := info_parts info5
  have hmk : ∀ w, (Instr.makeSlice 34 (.int .i64 128) (.int .i64 128)).run Try.prog w = .ok (.slice (some ⟨w.heap.size, 0, none⟩) 128 128) (w.alloc (.cells (bvs (zs 128)) 5)) := make_bytes Try.underlying34 hi hz0 hz1 hz2 128 128 rfl (by omega)
  clear hi hz0 hz1 hz2
  have HZ := Lib.hid hz
  clear hz
  go_enter Try.func30, Try.ntmps30
  go_upto_region 1 with (fail)
  refine gen_world (fun w' => Hid (Nd f w w')) ?_ ?_
  · exact ⟨(Below.refl _ _).alloc (Nat.le_refl _) _, Blk.new w _ _⟩
  rintro w1 h1
  have c0 : w1.cell? ⟨w.heap.size, 0, none⟩ = some (.int .i64 (f 0)) := (h1.out.2.cell 0).trans rfl
  have c1 : w1.cell? ⟨w.heap.size, 1, none⟩ = some (.int .i64 (f 1)) := (h1.out.2.cell 1).trans rfl
  have c2 : w1.cell? ⟨w.heap.size, 2, none⟩ = some (.int .i64 (f 2)) := (h1.out.2.cell 2).trans rfl
  have c3 : w1.cell? ⟨w.heap.size, 3, none⟩ = some (.int .i64 (f 3)) := (h1.out.2.cell 3).trans rfl
  have c4 : w1.cell? ⟨w.heap.size, 4, none⟩ = some (.int .i64 (f 4)) := (h1.out.2.cell 4).trans rfl
  have c5 : w1.cell? ⟨w.heap.size, 5, none⟩ = some (.int .i64 (f 5)) := (h1.out.2.cell 5).trans rfl
  have c6 : w1.cell? ⟨w.heap.size, 6, none⟩ = some (.int .i64 (f 6)) := (h1.out.2.cell 6).trans rfl
  have c7 : w1.cell? ⟨w.heap.size, 7, none⟩ = some (.int .i64 (f 7)) := (h1.out.2.cell 7).trans rfl
  have c8 : w1.cell? ⟨w.heap.size, 8, none⟩ = some (.int .i64 (f 8)) := (h1.out.2.cell 8).trans rfl
  have c9 : w1.cell? ⟨w.heap.size, 9, none⟩ = some (.int .i64 (f 9)) := (h1.out.2.cell 9).trans rfl
  have c10 : w1.cell? ⟨w.heap.size, 10, none⟩ = some (.int .i64 (f 10)) := (h1.out.2.cell 10).trans rfl
  have c11 : w1.cell? ⟨w.heap.size, 11, none⟩ = some (.int .i64 (f 11)) := (h1.out.2.cell 11).trans rfl
  have c12 : w1.cell? ⟨w.heap.size, 12, none⟩ = some (.int .i64 (f 12)) := (h1.out.2.cell 12).trans rfl
  have c13 : w1.cell? ⟨w.heap.size, 13, none⟩ = some (.int .i64 (f 13)) := (h1.out.2.cell 13).trans rfl
  have c14 : w1.cell? ⟨w.heap.size, 14, none⟩ = some (.int .i64 (f 14)) := (h1.out.2.cell 14).trans rfl
  have c15 : w1.cell? ⟨w.heap.size, 15, none⟩ = some (.int .i64 (f 15)) := (h1.out.2.cell 15).trans rfl
  have c16 : w1.cell? ⟨w.heap.size, 16, none⟩ = some (.int .i64 (f 16)) := (h1.out.2.cell 16).trans rfl
  go_wp2_with fail
  refine (rfits_ok f _ (.inl HZ.out)).mono ?_
  rintro e w2 ⟨rfl, hb2⟩
  have h2 : Hid (Nd f w w2) := ⟨h1.out.1.trans (hb2.mono h1.out.1.size), h1.out.2.below hb2 h1.out.2.lt⟩
  clear hb2 c0 c1 c2 c3 c4 c5 c6 c7 c8 c9 c10 c11 c12 c13 c14 c15 c16 h1
  have HR := Lib.hid (rdy h2.out)
  go_upto_region 4 with (fail)
  refine gen_world (fun w' => Hid (Rdy f [] w2.heap.size w w')) HR ?_
  generalize w2.heap.size = B
  clear HR hmk h2
  rintro w3 h3
  have c0 : w3.cell? ⟨w.heap.size, 0, none⟩ = some (.int .i64 0) := ((h3.out.2.1.cell 0).trans (ncs_get f 0 (by decide))).trans (by rw [HZ.out 0 (by decide)])
  go_wp2_with fail
  go_ret2
  refine ⟨B, rfl, Nat.le_of_lt h3.out.2.2.1, h3.out.1, ?_⟩
  have h := h3.out.2.2.2
  rw [put_nil] at h
  exact h

set_option maxRecDepth 100000 in
set_option maxHeartbeats 3200000 in
theorem ref_yes (f : Nat → Int) (w : World) (hz : ¬ NZero f) (hf : NFits f) :
    Calls Try.prog 30 #[.agg #[.int .i64 (f 0), .int .i64 (f 1), .int .i64 (f 2), .int .i64 (f 3), .int .i64 (f 4), .int .i64 (f 5), .int .i64 (f 6), .int .i64 (f 7), .int .i64 (f 8), .int .i64 (f 9), .int .i64 (f 10), .int .i64 (f 11), .int .i64 (f 12), .int .i64 (f 13), .int .i64 (f 14), .int .i64 (f 15), .int .i64 (f 16)]] w fun e w' => ∃ B, e = .returned (.tuple #[.slice (some ⟨B, 0, none⟩) 128 128, .int .i64 0]) ∧ Made w w' B (nodeBytes fun k => (f k).toNat) := by
  obtain ⟨i5, hi, hz0, hz1, hz2⟩ := info_parts info5
  have hmk : ∀ w, (Instr.makeSlice 34 (.int .i64 128) (.int .i64 128)).run Try.prog w = .ok (.slice (some ⟨w.heap.size, 0, none⟩) 128 128) (w.alloc (.cells (bvs (zs 128)) 5)) := make_bytes Try.underlying34 hi hz0 hz1 hz2 128 128 rfl (by omega)
  clear hi hz0 hz1 hz2
  have HOK : Hid (NOk f) := .inr hf
  have hk0 : (f 0 == 0) = false := beq_eq_false_iff_ne.2 (fun e => by have := hf.1.1; omega)
  clear hz hf
  go_enter Try.func30, Try.ntmps30
  go_upto_region 1 with (fail)
  refine gen_world (fun w' => Hid (Nd f w w')) ?_ ?_
  · exact ⟨(Below.refl _ _).alloc (Nat.le_refl _) _, Blk.new w _ _⟩
  rintro w1 h1
  have c0 : w1.cell? ⟨w.heap.size, 0, none⟩ = some (.int .i64 (f 0)) := (h1.out.2.cell 0).trans rfl
  have c1 : w1.cell? ⟨w.heap.size, 1, none⟩ = some (.int .i64 (f 1)) := (h1.out.2.cell 1).trans rfl
  have c2 : w1.cell? ⟨w.heap.size, 2, none⟩ = some (.int .i64 (f 2)) := (h1.out.2.cell 2).trans rfl
  have c3 : w1.cell? ⟨w.heap.size, 3, none⟩ = some (.int .i64 (f 3)) := (h1.out.2.cell 3).trans rfl
  have c4 : w1.cell? ⟨w.heap.size, 4, none⟩ = some (.int .i64 (f 4)) := (h1.out.2.cell 4).trans rfl
  have c5 : w1.cell? ⟨w.heap.size, 5, none⟩ = some (.int .i64 (f 5)) := (h1.out.2.cell 5).trans rfl
  have c6 : w1.cell? ⟨w.heap.size, 6, none⟩ = some (.int .i64 (f 6)) := (h1.out.2.cell 6).trans rfl
  have c7 : w1.cell? ⟨w.heap.size, 7, none⟩ = some (.int .i64 (f 7)) := (h1.out.2.cell 7).trans rfl
  have c8 : w1.cell? ⟨w.heap.size, 8, none⟩ = some (.int .i64 (f 8)) := (h1.out.2.cell 8).trans rfl
  have c9 : w1.cell? ⟨w.heap.size, 9, none⟩ = some (.int .i64 (f 9)) := (h1.out.2.cell 9).trans rfl
  have c10 : w1.cell? ⟨w.heap.size, 10, none⟩ = some (.int .i64 (f 10)) := (h1.out.2.cell 10).trans rfl
  have c11 : w1.cell? ⟨w.heap.size, 11, none⟩ = some (.int .i64 (f 11)) := (h1.out.2.cell 11).trans rfl
  have c12 : w1.cell? ⟨w.heap.size, 12, none⟩ = some (.int .i64 (f 12)) := (h1.out.2.cell 12).trans rfl
  have c13 : w1.cell? ⟨w.heap.size, 13, none⟩ = some (.int .i64 (f 13)) := (h1.out.2.cell 13).trans rfl
  have c14 : w1.cell? ⟨w.heap.size, 14, none⟩ = some (.int .i64 (f 14)) := (h1.out.2.cell 14).trans rfl
  have c15 : w1.cell? ⟨w.heap.size, 15, none⟩ = some (.int .i64 (f 15)) := (h1.out.2.cell 15).trans rfl
  have c16 : w1.cell? ⟨w.heap.size, 16, none⟩ = some (.int .i64 (f 16)) := (h1.out.2.cell 16).trans rfl
  go_wp2_with fail
  refine (rfits_ok f _ HOK.out).mono ?_
  rintro e w2 ⟨rfl, hb2⟩
  have h2 : Hid (Nd f w w2) := ⟨h1.out.1.trans (hb2.mono h1.out.1.size), h1.out.2.below hb2 h1.out.2.lt⟩
  clear hb2 c0 c1 c2 c3 c4 c5 c6 c7 c8 c9 c10 c11 c12 c13 c14 c15 c16 h1
  have HR := Lib.hid (rdy h2.out)
  go_upto_region 4 with (fail)
  refine gen_world (fun w' => Hid (Rdy f [] w2.heap.size w w')) HR ?_
  generalize w2.heap.size = B
  clear HR hmk h2
  rintro w3 h3'
  have h3 : Hid (Rdy f (rowN (fun k => (f k).toNat) 0) B w w3) := h3'
  clear h3'
  have c0 : w3.cell? ⟨w.heap.size, 0, none⟩ = some (.int .i64 (f 0)) := (h3.out.2.1.cell 0).trans rfl
  go_wp2_with fail
  clear c0 hk0
  refine (lay_rd h3 _ 1 _ 1 (by decide) rfl rfl rfl rfl HOK.out).mono ?_
  rintro e w4 ⟨rfl, h4⟩
  clear h3
  have c0 : w4.cell? ⟨w.heap.size, 1, none⟩ = some (.int .i64 (f 1)) := (h4.out.2.1.cell 1).trans rfl
  go_wp2_with fail
  clear c0
  refine (lay_rd h4 _ 2 _ 2 (by decide) rfl rfl rfl rfl HOK.out).mono ?_
  rintro e w5 ⟨rfl, h5⟩
  clear h4
  have c0 : w5.cell? ⟨w.heap.size, 2, none⟩ = some (.int .i64 (f 2)) := (h5.out.2.1.cell 2).trans rfl
  go_wp2_with fail
  clear c0
  refine (lay_rd h5 _ 4 _ 4 (by decide) rfl rfl rfl rfl HOK.out).mono ?_
  rintro e w6 ⟨rfl, h6⟩
  clear h5
  have c0 : w6.cell? ⟨w.heap.size, 3, none⟩ = some (.int .i64 (f 3)) := (h6.out.2.1.cell 3).trans rfl
  go_wp2_with fail
  clear c0
  refine (lay_rd h6 _ 8 _ 8 (by decide) rfl rfl rfl rfl HOK.out).mono ?_
  rintro e w7 ⟨rfl, h7⟩
  clear h6
  have c0 : w7.cell? ⟨w.heap.size, 4, none⟩ = some (.int .i64 (f 4)) := (h7.out.2.1.cell 4).trans rfl
  go_wp2_with fail
  clear c0
  refine (lay_rd h7 _ 4 _ 4 (by decide) rfl rfl rfl rfl HOK.out).mono ?_
  rintro e w8 ⟨rfl, h8⟩
  clear h7
  go_wp2_with fail
  go_loopw [5] (fun i wr => ∃ (j : Nat), i = .int .i64 j ∧ j ≤ 12 ∧ Hid (Rdy f (rowN (fun k => (f k).toNat) (5 + j)) B w wr)) (fun i _ => 12 - (intOf i).toNat)
  case atStart => exact ⟨0, rfl, by omega, h8⟩
  case round =>
    clear h8
    obtain ⟨j, rfl, hj, HR⟩ := hrel
    by_cases hlt : j < 12
    · as_aux_lemma =>
        have c0 : wr.cell? ⟨w.heap.size, 0, none⟩ = some (.int .i64 (f 0)) := (HR.out.2.1.cell 0).trans rfl
        have c1 : wr.cell? ⟨w.heap.size, 1, none⟩ = some (.int .i64 (f 1)) := (HR.out.2.1.cell 1).trans rfl
        have c2 : wr.cell? ⟨w.heap.size, 2, none⟩ = some (.int .i64 (f 2)) := (HR.out.2.1.cell 2).trans rfl
        have c3 : wr.cell? ⟨w.heap.size, 3, none⟩ = some (.int .i64 (f 3)) := (HR.out.2.1.cell 3).trans rfl
        have c4 : wr.cell? ⟨w.heap.size, 4, none⟩ = some (.int .i64 (f 4)) := (HR.out.2.1.cell 4).trans rfl
        have c5 : wr.cell? ⟨w.heap.size, 5, none⟩ = some (.int .i64 (f 5)) := (HR.out.2.1.cell 5).trans rfl
        have c6 : wr.cell? ⟨w.heap.size, 6, none⟩ = some (.int .i64 (f 6)) := (HR.out.2.1.cell 6).trans rfl
        have c7 : wr.cell? ⟨w.heap.size, 7, none⟩ = some (.int .i64 (f 7)) := (HR.out.2.1.cell 7).trans rfl
        have c8 : wr.cell? ⟨w.heap.size, 8, none⟩ = some (.int .i64 (f 8)) := (HR.out.2.1.cell 8).trans rfl
        have c9 : wr.cell? ⟨w.heap.size, 9, none⟩ = some (.int .i64 (f 9)) := (HR.out.2.1.cell 9).trans rfl
        have c10 : wr.cell? ⟨w.heap.size, 10, none⟩ = some (.int .i64 (f 10)) := (HR.out.2.1.cell 10).trans rfl
        have c11 : wr.cell? ⟨w.heap.size, 11, none⟩ = some (.int .i64 (f 11)) := (HR.out.2.1.cell 11).trans rfl
        have c12 : wr.cell? ⟨w.heap.size, 12, none⟩ = some (.int .i64 (f 12)) := (HR.out.2.1.cell 12).trans rfl
        have c13 : wr.cell? ⟨w.heap.size, 13, none⟩ = some (.int .i64 (f 13)) := (HR.out.2.1.cell 13).trans rfl
        have c14 : wr.cell? ⟨w.heap.size, 14, none⟩ = some (.int .i64 (f 14)) := (HR.out.2.1.cell 14).trans rfl
        have c15 : wr.cell? ⟨w.heap.size, 15, none⟩ = some (.int .i64 (f 15)) := (HR.out.2.1.cell 15).trans rfl
        have c16 : wr.cell? ⟨w.heap.size, 16, none⟩ = some (.int .i64 (f 16)) := (HR.out.2.1.cell 16).trans rfl
        go_wp2_with fail
        refine (pointer_any f j _ hlt).mono ?_
        rintro e w9 ⟨rfl, hb9⟩
        have HR9 : Hid (Rdy f (rowN (fun k => (f k).toNat) (5 + j)) B w w9) := ⟨HR.out.1.trans (hb9.out.mono HR.out.1.size), HR.out.2.1.below hb9.out HR.out.2.1.lt, HR.out.2.2.1, HR.out.2.2.2.below hb9.out HR.out.2.2.2.lt⟩
        clear hb9 HR c0 c1 c2 c3 c4 c5 c6 c7 c8 c9 c10 c11 c12 c13 c14 c15 c16
        go_wp2_with fail
        refine (lay_rd HR9 _ 4 _ 4 (by omega) (by rw [wr_ptr]) (by rw [pos_ptr]; omega) rfl rfl HOK.out).mono ?_
        rintro e w10 ⟨rfl, h10⟩
        go_wp2_with fail
        exact ⟨⟨j + 1, by go_num, by omega, h10⟩, by simp [intOf]; omega⟩
    · obtain rfl : j = 12 := by omega
      as_aux_lemma =>
        have h9 : Hid (Rdy f (rowN (fun k => (f k).toNat) 17) B w wr) := HR
        clear HR
        have hl4 : (put (zs 128) 0 (rowN (fun k => (f k).toNat) 17)).length = 128 := put_zs _ _ (by decide)
        have HL4 := Lib.hid hl4
        clear hl4
        go_wp2_with fail
        refine (refsum_at (some ⟨B, 0, none⟩) 124 128 ((put (zs 128) 0 (rowN (fun k => (f k).toNat) 17)).take 124) _ (by rw [List.length_take, HL4.out]; rfl) (by omega) (Bytes.own (r := (put (zs 128) 0 (rowN (fun k => (f k).toNat) 17)).drop 124) (by rw [List.take_append_drop]; exact h9.out.2.2.2))).mono ?_
        rintro e w7 ⟨rfl, rfl⟩
        go_wp2_with fail
        refine (lay_at B 128 124 4 128 124 4 _ (put (zs 128) 0 (rowN (fun k => (f k).toNat) 17)) _ HL4.out rfl rfl (by decide) (sum_lo _) (sum_hi _) (by omega) (by omega) h9.out.2.2.2).mono ?_
        rintro e w8 ⟨rfl, k8⟩
        go_wp2_with fail
        go_ret2
        have hlt2 := h9.out.2.2.1
        refine ⟨B, rfl, by omega, h9.out.1.trans (k8.out.1.below (by omega)), ?_⟩
        have hs : nodeBytes (fun k => (f k).toNat) = put (put (zs 128) 0 (rowN (fun k => (f k).toNat) 17)) 124 (leN 4 (sum ((put (zs 128) 0 (rowN (fun k => (f k).toNat) 17)).take 124)).toNat) := by
          unfold nodeBytes sealed4
          rw [HL4.out, sum_toNat]
        rw [hs]
        exact k8.out.2
theorem ref_ok (f : Nat → Int) (w : World) (h : NOk f) :
    Calls Try.prog 30 #[.agg #[.int .i64 (f 0), .int .i64 (f 1), .int .i64 (f 2), .int .i64 (f 3), .int .i64 (f 4), .int .i64 (f 5), .int .i64 (f 6), .int .i64 (f 7), .int .i64 (f 8), .int .i64 (f 9), .int .i64 (f 10), .int .i64 (f 11), .int .i64 (f 12), .int .i64 (f 13), .int .i64 (f 14), .int .i64 (f 15), .int .i64 (f 16)]] w fun e w' => ∃ B, e = .returned (.tuple #[.slice (some ⟨B, 0, none⟩) 128 128, .int .i64 0]) ∧ Made w w' B (nodeOf f) := by
  unfold nodeOf
  by_cases hz : NZero f
  · rw [if_pos hz]
    exact ref_zero f w hz
  · rw [if_neg hz]
    exact ref_yes f w hz (h.resolve_left hz)
end Go.Proofs.Ytefmihbjboacdaa.NodeRef
