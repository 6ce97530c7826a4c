/- EncodeSuper: the sector of a geometry that fits; ErrGeometry else. -/
import Derived.Test.YtefmihbjboacdaaRefLay
import Derived.Test.YtefmihbjboacdaaPlan
import Derived.Lib.BufferWrite
namespace Go.Proofs.Ytefmihbjboacdaa.SuperEnc
open Go.ChangeShapes Go.WideShapes Go.ChangeAt Go.RowKit
open Go.Proofs.Ytefmihbjboacdaa.Kit Go.Proofs.Ytefmihbjboacdaa.Crc Go.Proofs.Ytefmihbjboacdaa.Reads Go.Proofs.Ytefmihbjboacdaa.Copy Go.Proofs.Ytefmihbjboacdaa.Sum Go.Proofs.Ytefmihbjboacdaa.Lay Go.Proofs.Ytefmihbjboacdaa.Writer Go.Proofs.Ytefmihbjboacdaa.Plan
set_option linter.unusedVariables false

def zeros512 : List UInt8 := List.replicate 512 0
theorem zeros512_length : zeros512.length = 512 := List.length_replicate ..
def magic : List UInt8 := [118, 101, 108, 108, 117, 109, 0, 1]
/-- the sector, so many numbers laid -/
def E (a b c : Nat) : Nat → List UInt8
  | 0 => put zeros512 0 magic
  | 1 => put (put zeros512 0 magic) 8 (leN 4 a)
  | 2 => put (put (put zeros512 0 magic) 8 (leN 4 a)) 12 (leN 4 b)
  | _ => put (put (put (put zeros512 0 magic) 8 (leN 4 a)) 12 (leN 4 b)) 16 (leN 4 c)
theorem E_length (a b c k : Nat) : (E a b c k).length = 512 := by
  have h0 : (put zeros512 0 magic).length = 512 := by rw [put_length _ _ _ (by rw [zeros512_length]; decide), zeros512_length]
  have h1 : (put (put zeros512 0 magic) 8 (leN 4 a)).length = 512 := by rw [put_length _ _ _ (by rw [h0, leN_length]; decide), h0]
  have h2 : (put (put (put zeros512 0 magic) 8 (leN 4 a)) 12 (leN 4 b)).length = 512 := by rw [put_length _ _ _ (by rw [h1, leN_length]; decide), h1]
  have h3 : (put (put (put (put zeros512 0 magic) 8 (leN 4 a)) 12 (leN 4 b)) 16 (leN 4 c)).length = 512 := by rw [put_length _ _ _ (by rw [h2, leN_length]; decide), h2]
  match k with
  | 0 => exact h0
  | 1 => exact h1
  | 2 => exact h2
  | _ + 3 => exact h3
/-- the superblock's sector -/
def superBytes (a b c : Nat) : List UInt8 := sealed4 (E a b c 3)
theorem sealed4_length (l : List UInt8) (h : 4 ≤ l.length) : (sealed4 l).length = l.length := by
  unfold sealed4
  exact put_length _ _ _ (by rw [leN_length]; omega)
theorem superBytes_length (a b c : Nat) : (superBytes a b c).length = 512 := by
  unfold superBytes
  rw [sealed4_length _ (by rw [E_length]; decide), E_length]

def magicBytes : ByteArray := ⟨#[118, 101, 108, 108, 117, 109, 0, 1]⟩
theorem magic_copy {w : World} {B : Nat} (hk : Blk w B (bvs zeros512) 5) :
    ∃ w', (Builtin.copy_ #[34, 9] 3 #[.slice (some ⟨B, 0, none⟩) 512 512, .string { data := #[118, 101, 108, 108, 117, 109, 0, 1] }]).run Try.prog w = .ok (.int .i64 8) w' ∧ Blk w' B (bvs (put zeros512 0 magic)) 5 ∧ Only B w w' := by
  have hrun := Lib.run_copy_row_string (P := Try.prog) w 34 9 3 5 B 0 512 512 magicBytes (bvs zeros512) 5 Try.underlying34 (by kernel_rfl) hk (by decide) (by rw [bvs_size, zeros512_length]; decide)
  refine ⟨w.setRow B (bvs (put zeros512 0 magic)), hrun.trans ?_, setRow_heap w B _ _ 5 _ hk, ⟨rfl, rfl, rfl, by simp [World.setRow], fun k hk => setRow_other w B k _ (by omega)⟩⟩
  have e := bvs_splice zeros512 magic 0
  have e2 : Lib.byteCells magicBytes.data.toList = magic.map bv := rfl
  have e3 : magicBytes.size = (magic.map bv).length := rfl
  rw [e2, e3, e]
  rfl

/-- what an encoder leaves: nothing and an error, or new memory that holds these bytes -/
def Encoded (w : World) (ok : Prop) (bs : List UInt8) (err : Int) (e : Ending) (w' : World) : Prop :=
  Below w.heap.size w w' ∧ ((¬ ok ∧ e = .returned (.tuple #[.slice none 0 0, .int .i64 err])) ∨
    (ok ∧ ∃ B, e = .returned (.tuple #[.slice (some ⟨B, 0, none⟩) bs.length bs.length, .int .i64 0]) ∧ w.heap.size ≤ B ∧ Blk w' B (bvs bs) 5))

set_option maxRecDepth 100000 in
set_option maxHeartbeats 1600000 in
theorem enc_no (a b c : Int) (w : World) (h : ¬ Fits a b c) :
    Calls Try.prog 24 #[.agg #[.int .i64 a, .int .i64 b, .int .i64 c]] w fun e w' => e = .returned (.tuple #[.slice none 0 0, .int .i64 22]) ∧ Below w.heap.size w w' := by
  go_enter Try.func24, Try.ntmps24
  go_wp2_with fail
  refine (plan_any _ _ _ _).mono ?_
  rw [answer_no h]
  unfold refused
  rintro e w1 ⟨rfl, hb⟩
  have HW1 := Lib.hid (((Below.refl w.heap.size w).alloc (Nat.le_refl _) _).trans (hb.mono (by simp)))
  clear hb
  have hle := HW1.out.size
  go_wp2_with fail
  go_ret2
  refine ⟨rfl, ?_⟩
  exact HW1.out.alloc hle _

set_option maxRecDepth 100000 in
set_option maxHeartbeats 1600000 in
theorem enc_yes (a b c : Nat) (w : World) (h : Fits a b c) :
    Calls Try.prog 24 #[.agg #[.int .i64 a, .int .i64 b, .int .i64 c]] w fun e w' => ∃ B, e = .returned (.tuple #[.slice (some ⟨B, 0, none⟩) 512 512, .int .i64 0]) ∧ Made w w' B (superBytes a b c) := by
  obtain ⟨i5, hi, hz0, hz1, hz2⟩ := info_parts info5
  have hmk : ∀ w, (Instr.makeSlice 34 (.int .i64 512) (.int .i64 512)).run Try.prog w = .ok (.slice (some ⟨w.heap.size, 0, none⟩) 512 512) (w.alloc (.cells (bvs zeros512) 5)) := make_bytes Try.underlying34 hi hz0 hz1 hz2 512 512 rfl (by omega)
  clear hi hz0 hz1 hz2
  go_enter Try.func24, Try.ntmps24
  go_wp2_with fail
  refine (plan_any _ _ _ _).mono ?_
  rw [answer_yes h]
  unfold planned
  rintro e w1 ⟨rfl, hb⟩
  have HB1 := Lib.hid (Blk.new w #[.int .i64 a, .int .i64 b, .int .i64 c] 30)
  have HK1 := Lib.hid (HB1.out.below hb (by simp))
  have HW1 := Lib.hid (((Below.refl w.heap.size w).alloc (Nat.le_refl _) _).trans (hb.mono (by simp)))
  clear hb HB1
  go_upto_region 4 with (fail)
  refine gen_world (fun w' => Hid (Below w.heap.size w w' ∧ Blk w' w.heap.size #[.int .i64 a, .int .i64 b, .int .i64 c] 30 ∧ w.heap.size < w'.heap.size)) ?_ ?_
  · exact ⟨HW1.out.alloc HW1.out.size _, HK1.out.alloc _, by have := HK1.out.lt; simp; omega⟩
  clear HW1 HK1
  rintro w2 h2
  go_upto_region 5 with (fail)
  generalize hB : w2.heap.size = B at *
  refine gen_world (fun w' => Hid (Below w.heap.size w w' ∧ Blk w' w.heap.size #[.int .i64 a, .int .i64 b, .int .i64 c] 30 ∧ w.heap.size < B ∧ Wr w' (B + 1) B zeros512 0)) ?_ ?_
  · have hle : w.heap.size ≤ w2.heap.size := h2.out.1.size
    subst hB
    refine ⟨(h2.out.1.alloc hle _).alloc (by simp; omega) _, (h2.out.2.1.alloc _).alloc _, h2.out.2.2, by omega, ?_, ?_⟩
    · have h := Blk.new (w2.alloc (.cells (bvs zeros512) 5)) #[.slice (some ⟨w2.heap.size, 0, none⟩) 512 512, .int .i64 0] 86
      rw [zeros512_length]
      simpa using h
    · exact (Blk.new w2 (bvs zeros512) 5).alloc _
  clear h2 hmk hB w2
  rintro w3 h3
  obtain ⟨w4, hrun, hk4, ho4⟩ := magic_copy (w := w3) (B := B) h3.out.2.2.2.2.2
  have h4 : Hid (Below w.heap.size w w4 ∧ Blk w4 w.heap.size #[.int .i64 a, .int .i64 b, .int .i64 c] 30 ∧ w.heap.size < B ∧ Blk w4 (B + 1) #[.slice (some ⟨B, 0, none⟩) 512 512, .int .i64 0] 86 ∧ Blk w4 B (bvs (E a b c 0)) 5) := by
    have hlt := h3.out.2.2.1
    refine ⟨h3.out.1.trans (ho4.below (by omega)), ho4.blk h3.out.2.1 (by omega), hlt, ?_, hk4⟩
    have h := ho4.blk h3.out.2.2.2.2.1 (by omega)
    rw [zeros512_length] at h
    exact h
  have c0 : w3.cell? ⟨B + 1, 0, none⟩ = some (.slice (some ⟨B, 0, none⟩) 512 512) := by rw [h3.out.2.2.2.2.1.cell, zeros512_length]; rfl
  have c1 : ∃ v, w4.cell? ⟨B + 1, 1, none⟩ = some v := ⟨_, (h4.out.2.2.2.1.cell 1).trans rfl⟩
  obtain ⟨v1, c1⟩ := c1
  have f1 := h4.out.2.2.2.1.frozen 1
  have HO4 := Lib.hid ho4
  clear hk4 ho4
  go_upto_region 6 with (fail)
  refine gen_world (fun w' => Hid (Below w.heap.size w w' ∧ Blk w' w.heap.size #[.int .i64 a, .int .i64 b, .int .i64 c] 30 ∧ w.heap.size < B ∧ Wr w' (B + 1) B (E a b c 0) 8)) ?_ ?_
  · have hlt := h4.out.2.2.1
    refine ⟨h4.out.1.setCell (by show _ ≤ B + 1; omega) _, h4.out.2.1.far (by show _ ≠ B + 1; omega) _, hlt, by omega, ?_, h4.out.2.2.2.2.far (by show B ≠ B + 1; omega) _⟩
    rw [E_length]
    exact h4.out.2.2.2.1.put 1 (.int .i64 8)
  clear h3 h4 c0 c1 f1 hrun HO4
  rintro w5 h5
  have c0 : w5.cell? ⟨w.heap.size, 0, none⟩ = some (.int .i64 a) := (h5.out.2.1.cell 0).trans rfl
  have c1 : w5.cell? ⟨w.heap.size, 1, none⟩ = some (.int .i64 b) := (h5.out.2.1.cell 1).trans rfl
  have c2 : w5.cell? ⟨w.heap.size, 2, none⟩ = some (.int .i64 c) := (h5.out.2.1.cell 2).trans rfl
  go_wp2_with fail
  clear c0 c1 c2
  have hv : ∀ k : Nat, k < 3 → ∃ v : Nat, v < 9223372036854775808 ∧ (∀ w, (Instr.index 87 (.agg #[.int .i64 a, .int .i64 b, .int .i64 c]) (.int .i64 k)).run Try.prog w = .ok (.int .i64 v) w) ∧ E a b c (k + 1) = put (E a b c k) (8 + 4 * k) (leN 4 v) := by
    obtain ⟨hb1, hb2, hc1, hc2, _, ha, _⟩ := h
    intro k hk
    match k, hk with
    | 0, _ => exact ⟨a, by omega, fun _ => by kernel_rfl, rfl⟩
    | 1, _ => exact ⟨b, by omega, fun _ => by kernel_rfl, rfl⟩
    | 2, _ => exact ⟨c, by omega, fun _ => by kernel_rfl, rfl⟩
  have HV := Lib.hid hv
  clear hv h
  go_loopw [35] (fun i wr => ∃ (k : Nat), i = .int .i64 k ∧ k ≤ 3 ∧ Hid (Below w.heap.size w wr ∧ w.heap.size < B ∧ Wr wr (B + 1) B (E a b c k) (8 + 4 * k))) (fun i _ => 3 - (intOf i).toNat)
  case atStart => exact ⟨0, rfl, by omega, h5.out.1, h5.out.2.2.1, h5.out.2.2.2⟩
  case round =>
    obtain ⟨k, rfl, hk, HR⟩ := hrel
    by_cases hlt : k < 3
    · obtain ⟨v, hv1, hv2, hv3⟩ := HV.out k hlt
      have HV1 := Lib.hid hv1
      have HV3 := Lib.hid hv3
      clear hv1 hv3
      go_wp2_with fail
      refine (number_at (B + 1) B (E a b c k) (8 + 4 * k) 4 4 _ _ rfl (by decide) (by omega) (by have := HV1.out; omega) (by rw [E_length]; omega) (by rw [E_length]; decide) HR.out.2.2).mono ?_
      rintro e w6 ⟨rfl, h6⟩
      go_wp2_with fail
      refine ⟨⟨k + 1, by go_num, by omega, ?_, HR.out.2.1, ?_⟩, by simp [intOf]; omega⟩
      · have hlt2 := HR.out.2.1
        exact HR.out.1.trans (h6.out.1.below (by omega) (by omega))
      · have h7 := h6.out.2
        rw [Int.toNat_natCast, ← HV3.out] at h7
        exact h7
    · have ek : k = 3 := by omega
      subst ek
      go_wp2_with fail
      refine (sealed_any (B + 1) B 508 (E a b c 3) _ _ (by rw [E_length]) (by omega) HR.out.2.2).mono ?_
      rintro e w6 ⟨rfl, h6⟩
      go_wp2_with fail
      go_ret2
      have hlt2 := HR.out.2.1
      exact ⟨B, rfl, by omega, HR.out.1.trans (h6.out.1.below HR.out.1.size (fun k hk => by omega)), h6.out.2.2.2⟩
end Go.Proofs.Ytefmihbjboacdaa.SuperEnc
