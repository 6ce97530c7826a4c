/- CodecBack: whatever fits is encoded, at its length, and decoded to the same value; no condition. -/
import Derived.Test.YtefmihbjboacdaaBack
import Derived.Test.YtefmihbjboacdaaTameNode
import Derived.Test.YtefmihbjboacdaaTameEntry
import Derived.Test.YtefmihbjboacdaaFormsLaw
import Derived.Test.YtefmihbjboacdaaPlansLaw
namespace Go.Proofs.Ytefmihbjboacdaa.BackLaw
open Go.ChangeShapes Go.WideShapes Go.ChangeAt Go.RowKit
open Go.Proofs.Ytefmihbjboacdaa.Kit Go.Proofs.Ytefmihbjboacdaa.Crc Go.Proofs.Ytefmihbjboacdaa.Reads Go.Proofs.Ytefmihbjboacdaa.Copy Go.Proofs.Ytefmihbjboacdaa.Lists Go.Proofs.Ytefmihbjboacdaa.Plan Go.Proofs.Ytefmihbjboacdaa.PlansLaw Go.Proofs.Ytefmihbjboacdaa.NodeLay Go.Proofs.Ytefmihbjboacdaa.NodeCells Go.Proofs.Ytefmihbjboacdaa.EntryEnc Go.Proofs.Ytefmihbjboacdaa.SuperEnc Go.Proofs.Ytefmihbjboacdaa.Forms Go.Proofs.Ytefmihbjboacdaa.Tame Go.Proofs.Ytefmihbjboacdaa.TameNode Go.Proofs.Ytefmihbjboacdaa.TameEntry Go.Proofs.Ytefmihbjboacdaa.Back
open Go.Proofs.Ytefmihbjboacdaa.FormsLaw (made)
set_option linter.unusedVariables false

/-- the cells of a slice of entries -/
def Ents (w : World) (A : Option Addr) (n : Nat) (g : Nat → Int × Int × ByteArray × Int) : Prop :=
  ∀ i, i < n → ∃ ad, A = some ad ∧ w.cell? (ad.add (i * 4)) = some (.int .i64 (g i).1) ∧ w.cell? ⟨(ad.add (i * 4)).block, (ad.add (i * 4)).off + 1, none⟩ = some (.int .i64 (g i).2.1) ∧ w.cell? ⟨(ad.add (i * 4)).block, (ad.add (i * 4)).off + 2, none⟩ = some (.string (g i).2.2.1) ∧ w.cell? ⟨(ad.add (i * 4)).block, (ad.add (i * 4)).off + 3, none⟩ = some (.int .i64 (g i).2.2.2)
theorem enc_entry2 (n k : Int) (s : ByteArray) (sl : Int) (w : World) (h : EOk n k s) : Calls Try.prog 35 #[.agg #[.int .i64 n, .int .i64 k, .string s, .int .i64 sl]] w (SupersBoth.EncPost 64 (entryOf n k s) 0 w) := by
  refine (EntryEnc.enc_ok n k s sl w h).mono ?_
  rintro e w' ⟨B, rfl, hm⟩
  exact ⟨_, rfl, hm.2.1, Bytes.own' hm.2.2⟩
theorem load_at {w : World} {P : Nat} {f : Nat → Int} (h : Blk w P (ncs f) 51) : (Instr.loadAt 51 (.pointer (some ⟨P, 0, none⟩))).run Try.prog w = .ok (.agg (ncs f)) w := by
  simp only [Instr.loadAt, Instr.sureAddr, Sem.run_bind, Sem.run_pure, Result.andThen_ok, run_loadVar_row (P := Try.prog) w P 51 51 (ncs f) (0, 0) _ h Try.underlying51 rfl (by kernel_rfl)]

set_option maxRecDepth 100000 in
set_option maxHeartbeats 20000000 in
theorem law_any (A0 A1 A2 : Option Addr) (n0 c0 n1 c1 n2 c2 : Nat) (g0 : Nat → Nat → Int) (g1 : Nat → Int × Int × ByteArray × Int) (g2 : Nat → Int × Int × Int) (w : World) (hn0 : n0 ≤ 9223372036854775807) (hn1 : n1 ≤ 9223372036854775807) (hn2 : n2 ≤ 9223372036854775807)
    (H0 : Hid (Nodes w A0 n0 g0)) (H1 : Hid (Ents w A1 n1 g1)) (H2 : Hid (Supers w A2 n2 g2)) :
    Calls Try.prog 12 #[.slice A0 n0 c0, .slice A1 n1 c1, .slice A2 n2 c2] w fun e w' => e = .returned (.bool true) ∧ Below w.heap.size w w' := by
  obtain ⟨i5, hi, hz0, hz1, hz2⟩ := info_parts info5
  have hmk : ∀ w, (Instr.makeSlice 34 (.int .i64 128) (.int .i64 128)).run Try.prog w = .ok (.slice (some ⟨w.heap.size, 0, none⟩) 128 128) (w.alloc (.cells (bvs (zs 128)) 5)) := make_bytes Try.underlying34 hi hz0 hz1 hz2 128 128 rfl (by omega)
  have hmk2 : ∀ w, (Instr.makeSlice 34 (.int .i64 64) (.int .i64 64)).run Try.prog w = .ok (.slice (some ⟨w.heap.size, 0, none⟩) 64 64) (w.alloc (.cells (bvs (zs 64)) 5)) := make_bytes Try.underlying34 hi hz0 hz1 hz2 64 64 rfl (by omega)
  clear hi hz0 hz1 hz2
  go_enter Try.func12, Try.ntmps12
  go_wp2_with fail
  refine (enc_node (fun _ => 0) _ (.inl (fun _ _ => rfl))).mono ?_
  rintro e w1 ⟨B1, rfl, hm⟩
  have HW1 := Lib.hid hm.out.1
  have HB1 := Lib.hid hm.out.2
  clear hm
  go_wp2_with fail
  refine (enc_entry2 0 0 ⟨#[]⟩ 7 _ (.inl ⟨rfl, rfl, rfl⟩)).mono ?_
  rintro e w2 ⟨B2, rfl, hm⟩
  have HW2 := Lib.hid (HW1.out.trans (hm.out.1.mono HW1.out.size))
  have HB2 := Lib.hid (HB1.out.below hm.out.1)
  have HB3 := Lib.hid hm.out.2
  clear hm HB1 HW1
  have eN : nodeOf (fun _ => 0) = zs 128 := if_pos (fun _ _ => rfl)
  have EN := Lib.hid eN
  clear eN
  go_wp2_with fail
  have hba : Below w2.heap.size w2 (w2.alloc (.cells (bvs (zs 128)) 5)) := (Below.refl _ _).alloc (Nat.le_refl _) _
  refine (same_li B1 (some ⟨w2.heap.size, 0, none⟩) 128 128 128 128 (nodeOf fun _ => 0) (zs 128) _ (nodeOf_length _) (zs_length _) (by decide) EN.out.symm (HB2.out.below hba) (Bytes.own' (Blk.new w2 (bvs (zs 128)) 5))).mono ?_
  rintro e w3 ⟨rfl, hs⟩
  have HW3 := Lib.hid ((HW2.out.trans (hba.mono HW2.out.size)).trans (hs.below _))
  have HB4 := Lib.hid ((HB3.out.below hba).below (hs.below _))
  clear hba hs HB2 HB3 HW2
  go_wp2_with fail
  have hba : Below w3.heap.size w3 (w3.alloc (.cells (bvs (zs 64)) 5)) := (Below.refl _ _).alloc (Nat.le_refl _) _
  refine (same_li B2 (some ⟨w3.heap.size, 0, none⟩) 64 64 64 64 (entryOf 0 0 ⟨#[]⟩) (zs 64) _ (entryOf_length (.inl ⟨rfl, rfl, rfl⟩)) (zs_length _) (by decide) (if_pos ⟨rfl, rfl, rfl⟩ : entryOf 0 0 ⟨#[]⟩ = zs 64).symm (HB4.out.below hba) (Bytes.own' (Blk.new w3 (bvs (zs 64)) 5))).mono ?_
  rintro e w4 ⟨rfl, hs⟩
  have HW := Lib.hid ((HW3.out.trans (hba.mono HW3.out.size)).trans (hs.below _))
  clear hba hs HB4 HW3 hmk hmk2 EN
  go_wp2_with fail
  go_loopw [11] (fun i wr => ∃ (k : Nat), i = .int .i64 k ∧ k ≤ n0 ∧ Hid (Below w.heap.size w wr)) (fun i _ => n0 - (intOf i).toNat)
  case atStart => exact ⟨0, rfl, Nat.zero_le _, HW⟩
  case round =>
    clear HW
    obtain ⟨k, rfl, hk, HW⟩ := hrel
    by_cases hlt : k < n0
    · obtain ⟨ad, rfl, h0⟩ := H0.out k hlt
      have RD : ∀ j v, (ncs (g0 k)).toList[j]? = some v → wr.cell? ((ad.add (k * 17)).add j) = some v := fun j v hv => (HW.out.cell (World.block_lt_of_cell? w _ (h0 j v hv))).trans (h0 j v hv)
      have HRD := Lib.hid RD
      clear RD h0
      as_aux_lemma =>
        go_wp2_with (first | (refine wpList_load_node rfl _ rfl (ad.add (k * 17)) rfl (g0 k) HRD.out ?_))
        refine (tame_any (g0 k) _).mono ?_
        rintro e w5 ⟨f, hf, rfl, hb⟩
        have HF := Lib.hid hf
        have HW5 := Lib.hid (HW.out.trans (hb.out.mono HW.out.size))
        clear hb hf HRD HW
        go_upto_region 9 with (first | (refine wpList_store_row rfl 51 _ _ rfl w5.heap.size (ncs f) rfl rfl 51 #[.int .i64 0, .int .i64 0, .int .i64 0, .int .i64 0, .int .i64 0, .int .i64 0, .int .i64 0, .int .i64 0, .int .i64 0, .int .i64 0, .int .i64 0, .int .i64 0, .int .i64 0, .int .i64 0, .int .i64 0, .int .i64 0, .int .i64 0] (Blk.new _ _ _) (by kernel_rfl) rfl (by kernel_rfl) ?_))
        obtain ⟨P, hP⟩ : ∃ P, w5.heap.size = P := ⟨_, rfl⟩
        rw [hP]
        refine gen_world (fun w' => Hid (Below w.heap.size w w' ∧ Blk w' P (ncs f) 51)) ?_ ?_
        · subst hP
          have hm := made (w4 := w5) f
          exact ⟨HW5.out.trans (hm.2.mono HW5.out.size), hm.1⟩
        clear hP HW5 w5
        rintro w5 h5
        have hk1 := h5.out.2
        go_wp2_with (first | (refine wpList_load_row rfl 51 _ rfl P rfl 51 (ncs f) (0, 0) _ hk1 Try.underlying51 rfl (by kernel_rfl) ?_))
        refine (enc_node f _ (.inr HF.out)).mono ?_
        rintro e w6 ⟨B, rfl, hm⟩
        have h6 : Hid (Below w.heap.size w w6 ∧ Blk w6 P (ncs f) 51 ∧ Bytes w6 B (nodeOf f)) := ⟨h5.out.1.trans (hm.out.1.mono h5.out.1.size), h5.out.2.below hm.out.1 h5.out.2.lt, hm.out.2⟩
        clear hm hk1 h5
        go_wp2_with fail
        refine (node_back f B _ (.inr HF.out) h6.out.2.2).mono ?_
        rintro e w7 ⟨rfl, hb⟩
        have h7 : Hid (Below w.heap.size w w7 ∧ Blk w7 P (ncs f) 51) := ⟨h6.out.1.trans (hb.out.mono h6.out.1.size), h6.out.2.1.below hb.out h6.out.2.1.lt⟩
        clear hb h6
        go_upto_region 11 with (first | (refine wpList_store_row rfl 51 _ _ rfl w7.heap.size (ncs f) rfl rfl 51 #[.int .i64 0, .int .i64 0, .int .i64 0, .int .i64 0, .int .i64 0, .int .i64 0, .int .i64 0, .int .i64 0, .int .i64 0, .int .i64 0, .int .i64 0, .int .i64 0, .int .i64 0, .int .i64 0, .int .i64 0, .int .i64 0, .int .i64 0] (Blk.new _ _ _) (by kernel_rfl) rfl (by kernel_rfl) ?_))
        obtain ⟨Q, hQ⟩ : ∃ P, w7.heap.size = P := ⟨_, rfl⟩
        rw [hQ]
        refine gen_world (fun w' => Hid (Below w.heap.size w w' ∧ Blk w' P (ncs f) 51 ∧ Blk w' Q (ncs f) 51)) ?_ ?_
        · subst hQ
          have hm := made (w4 := w7) f
          exact ⟨h7.out.1.trans (hm.2.mono h7.out.1.size), h7.out.2.below hm.2 h7.out.2.lt, hm.1⟩
        clear hQ h7 w7
        rintro w7 h7
        have c0 : w7.cell? ⟨P, 0, none⟩ = some (.int .i64 (f 0)) := (h7.out.2.1.cell 0).trans rfl
        have d0 : w7.cell? ⟨Q, 0, none⟩ = some (.int .i64 (f 0)) := (h7.out.2.2.cell 0).trans rfl
        have c1 : w7.cell? ⟨P, 1, none⟩ = some (.int .i64 (f 1)) := (h7.out.2.1.cell 1).trans rfl
        have d1 : w7.cell? ⟨Q, 1, none⟩ = some (.int .i64 (f 1)) := (h7.out.2.2.cell 1).trans rfl
        have c2 : w7.cell? ⟨P, 2, none⟩ = some (.int .i64 (f 2)) := (h7.out.2.1.cell 2).trans rfl
        have d2 : w7.cell? ⟨Q, 2, none⟩ = some (.int .i64 (f 2)) := (h7.out.2.2.cell 2).trans rfl
        have c3 : w7.cell? ⟨P, 3, none⟩ = some (.int .i64 (f 3)) := (h7.out.2.1.cell 3).trans rfl
        have d3 : w7.cell? ⟨Q, 3, none⟩ = some (.int .i64 (f 3)) := (h7.out.2.2.cell 3).trans rfl
        have c4 : w7.cell? ⟨P, 4, none⟩ = some (.int .i64 (f 4)) := (h7.out.2.1.cell 4).trans rfl
        have d4 : w7.cell? ⟨Q, 4, none⟩ = some (.int .i64 (f 4)) := (h7.out.2.2.cell 4).trans rfl
        have c5 : w7.cell? ⟨P, 5, none⟩ = some (.int .i64 (f 5)) := (h7.out.2.1.cell 5).trans rfl
        have d5 : w7.cell? ⟨Q, 5, none⟩ = some (.int .i64 (f 5)) := (h7.out.2.2.cell 5).trans rfl
        have c6 : w7.cell? ⟨P, 6, none⟩ = some (.int .i64 (f 6)) := (h7.out.2.1.cell 6).trans rfl
        have d6 : w7.cell? ⟨Q, 6, none⟩ = some (.int .i64 (f 6)) := (h7.out.2.2.cell 6).trans rfl
        have c7 : w7.cell? ⟨P, 7, none⟩ = some (.int .i64 (f 7)) := (h7.out.2.1.cell 7).trans rfl
        have d7 : w7.cell? ⟨Q, 7, none⟩ = some (.int .i64 (f 7)) := (h7.out.2.2.cell 7).trans rfl
        have c8 : w7.cell? ⟨P, 8, none⟩ = some (.int .i64 (f 8)) := (h7.out.2.1.cell 8).trans rfl
        have d8 : w7.cell? ⟨Q, 8, none⟩ = some (.int .i64 (f 8)) := (h7.out.2.2.cell 8).trans rfl
        have c9 : w7.cell? ⟨P, 9, none⟩ = some (.int .i64 (f 9)) := (h7.out.2.1.cell 9).trans rfl
        have d9 : w7.cell? ⟨Q, 9, none⟩ = some (.int .i64 (f 9)) := (h7.out.2.2.cell 9).trans rfl
        have c10 : w7.cell? ⟨P, 10, none⟩ = some (.int .i64 (f 10)) := (h7.out.2.1.cell 10).trans rfl
        have d10 : w7.cell? ⟨Q, 10, none⟩ = some (.int .i64 (f 10)) := (h7.out.2.2.cell 10).trans rfl
        have c11 : w7.cell? ⟨P, 11, none⟩ = some (.int .i64 (f 11)) := (h7.out.2.1.cell 11).trans rfl
        have d11 : w7.cell? ⟨Q, 11, none⟩ = some (.int .i64 (f 11)) := (h7.out.2.2.cell 11).trans rfl
        have c12 : w7.cell? ⟨P, 12, none⟩ = some (.int .i64 (f 12)) := (h7.out.2.1.cell 12).trans rfl
        have d12 : w7.cell? ⟨Q, 12, none⟩ = some (.int .i64 (f 12)) := (h7.out.2.2.cell 12).trans rfl
        have c13 : w7.cell? ⟨P, 13, none⟩ = some (.int .i64 (f 13)) := (h7.out.2.1.cell 13).trans rfl
        have d13 : w7.cell? ⟨Q, 13, none⟩ = some (.int .i64 (f 13)) := (h7.out.2.2.cell 13).trans rfl
        have c14 : w7.cell? ⟨P, 14, none⟩ = some (.int .i64 (f 14)) := (h7.out.2.1.cell 14).trans rfl
        have d14 : w7.cell? ⟨Q, 14, none⟩ = some (.int .i64 (f 14)) := (h7.out.2.2.cell 14).trans rfl
        have c15 : w7.cell? ⟨P, 15, none⟩ = some (.int .i64 (f 15)) := (h7.out.2.1.cell 15).trans rfl
        have d15 : w7.cell? ⟨Q, 15, none⟩ = some (.int .i64 (f 15)) := (h7.out.2.2.cell 15).trans rfl
        have c16 : w7.cell? ⟨P, 16, none⟩ = some (.int .i64 (f 16)) := (h7.out.2.1.cell 16).trans rfl
        have d16 : w7.cell? ⟨Q, 16, none⟩ = some (.int .i64 (f 16)) := (h7.out.2.2.cell 16).trans rfl
        have hne : ∀ w, (binOp .neq 51 (.agg #[.int .i64 (f 0), .int .i64 (f 1), .int .i64 (f 2), .int .i64 (f 3), .int .i64 (f 4), .int .i64 (f 5), .int .i64 (f 6), .int .i64 (f 7), .int .i64 (f 8), .int .i64 (f 9), .int .i64 (f 10), .int .i64 (f 11), .int .i64 (f 12), .int .i64 (f 13), .int .i64 (f 14), .int .i64 (f 15), .int .i64 (f 16)]) (.agg #[.int .i64 (f 0), .int .i64 (f 1), .int .i64 (f 2), .int .i64 (f 3), .int .i64 (f 4), .int .i64 (f 5), .int .i64 (f 6), .int .i64 (f 7), .int .i64 (f 8), .int .i64 (f 9), .int .i64 (f 10), .int .i64 (f 11), .int .i64 (f 12), .int .i64 (f 13), .int .i64 (f 14), .int .i64 (f 15), .int .i64 (f 16)])).run Try.prog w = .ok (.bool false) w := neq_same f
        go_wp2_with fail
        exact ⟨⟨k + 1, by go_num, by omega, h7.out.1⟩, by simp [intOf]; omega⟩
    · go_wp2_with fail
      clear hlt hk
      go_loopw [17] (fun i wr => ∃ (k : Nat), i = .int .i64 k ∧ k ≤ n1 ∧ Hid (Below w.heap.size w wr)) (fun i _ => n1 - (intOf i).toNat)
      case atStart => exact ⟨0, rfl, Nat.zero_le _, HW⟩
      case round =>
        clear HW
        obtain ⟨k, rfl, hk, HW⟩ := hrel
        by_cases hlt : k < n1
        · obtain ⟨ad, rfl, h0, h1, h2, h3⟩ := H1.out k hlt
          rw [← HW.out.cell (World.block_lt_of_cell? w _ h0)] at h0
          rw [← HW.out.cell (World.block_lt_of_cell? w _ h1)] at h1
          rw [← HW.out.cell (World.block_lt_of_cell? w _ h2)] at h2
          rw [← HW.out.cell (World.block_lt_of_cell? w _ h3)] at h3
          as_aux_lemma =>
            go_wp2_with fail
            refine (tameEntry_any (g1 k).1 (g1 k).2.1 (g1 k).2.2.1 (g1 k).2.2.2 _).mono ?_
            clear h0 h1 h2 h3
            generalize (g1 k).2.2.2 = sl
            rintro e w5 ⟨en, ek, es, hf, rfl, hb⟩
            have HF := Lib.hid hf
            have HW5 := Lib.hid (HW.out.trans (hb.out.mono HW.out.size))
            clear hb hf HW
            go_upto_region 17 with (fail)
            obtain ⟨P, hP⟩ : ∃ P, w5.heap.size = P := ⟨_, rfl⟩
            rw [hP]
            refine gen_world (fun w' => Hid (Below w.heap.size w w' ∧ w.heap.size ≤ P ∧ Blk w' P #[.int .i64 en, .int .i64 ek, .string es, .int .i64 sl] 61)) ?_ ?_
            · subst hP
              exact ⟨HW5.out.alloc HW5.out.size _, HW5.out.size, Blk.new _ _ _⟩
            clear hP HW5 w5
            rintro w5 h5
            have c0 : w5.cell? ⟨P, 0, none⟩ = some (.int .i64 en) := (h5.out.2.2.cell 0).trans rfl
            have c1 : w5.cell? ⟨P, 1, none⟩ = some (.int .i64 ek) := (h5.out.2.2.cell 1).trans rfl
            have c2 : w5.cell? ⟨P, 2, none⟩ = some (.string es) := (h5.out.2.2.cell 2).trans rfl
            have c3 : w5.cell? ⟨P, 3, none⟩ = some (.int .i64 sl) := (h5.out.2.2.cell 3).trans rfl
            go_wp2_with fail
            refine (enc_entry2 en ek es sl _ (.inr HF.out)).mono ?_
            rintro e w6 ⟨B, rfl, hm⟩
            have h6 : Hid (Below w.heap.size w w6 ∧ w.heap.size ≤ P ∧ Blk w6 P #[.int .i64 en, .int .i64 ek, .string es, .int .i64 sl] 61 ∧ Bytes w6 B (entryOf en ek es)) := ⟨h5.out.1.trans (hm.out.1.mono h5.out.1.size), h5.out.2.1, h5.out.2.2.below hm.out.1 h5.out.2.2.lt, hm.out.2⟩
            clear hm c0 c1 c2 c3 h5
            go_wp2_with fail
            refine (entry_back en ek es B _ HF.out h6.out.2.2.2).mono ?_
            rintro e w7 ⟨rfl, hb⟩
            have h7 : Hid (Below w.heap.size w w7 ∧ w.heap.size ≤ P ∧ Blk w7 P #[.int .i64 en, .int .i64 ek, .string es, .int .i64 sl] 61) := ⟨h6.out.1.trans (hb.out.mono h6.out.1.size), h6.out.2.1, h6.out.2.2.1.below hb.out h6.out.2.2.1.lt⟩
            clear hb h6
            go_upto_region 19 with (fail)
            obtain ⟨Q, hQ⟩ : ∃ P, w7.heap.size = P := ⟨_, rfl⟩
            rw [hQ]
            refine gen_world (fun w' => Hid (Below w.heap.size w w' ∧ w.heap.size ≤ P ∧ P ≠ Q ∧ Q ≠ P ∧ Blk w' P #[.int .i64 en, .int .i64 ek, .string es, .int .i64 sl] 61 ∧ Blk w' Q #[.int .i64 en, .int .i64 ek, .string es, .int .i64 0] 61)) ?_ ?_
            · subst hQ
              have hlt := h7.out.2.2.lt
              exact ⟨h7.out.1.alloc h7.out.1.size _, h7.out.2.1, by omega, by omega, h7.out.2.2.alloc _, Blk.new _ _ _⟩
            clear hQ h7 w7
            rintro w7 h7
            have c3 : w7.cell? ⟨P, 3, none⟩ = some (.int .i64 sl) := (h7.out.2.2.2.2.1.cell 3).trans rfl
            have f1 := h7.out.2.2.2.2.1.frozen 3
            go_upto_region 20 with (fail)
            refine gen_world (fun w' => Hid (Below w.heap.size w w' ∧ Blk w' P #[.int .i64 en, .int .i64 ek, .string es, .int .i64 0] 61 ∧ Blk w' Q #[.int .i64 en, .int .i64 ek, .string es, .int .i64 0] 61)) ?_ ?_
            · exact ⟨h7.out.1.setCell h7.out.2.1 _, h7.out.2.2.2.2.1.put 3 _, h7.out.2.2.2.2.2.far h7.out.2.2.2.1 _⟩
            clear c3 f1 h7 w7
            rintro w7 h7
            have c0 : w7.cell? ⟨P, 0, none⟩ = some (.int .i64 en) := (h7.out.2.1.cell 0).trans rfl
            have c1 : w7.cell? ⟨P, 1, none⟩ = some (.int .i64 ek) := (h7.out.2.1.cell 1).trans rfl
            have c2 : w7.cell? ⟨P, 2, none⟩ = some (.string es) := (h7.out.2.1.cell 2).trans rfl
            have c3 : w7.cell? ⟨P, 3, none⟩ = some (.int .i64 0) := (h7.out.2.1.cell 3).trans rfl
            have d0 : w7.cell? ⟨Q, 0, none⟩ = some (.int .i64 en) := (h7.out.2.2.cell 0).trans rfl
            have d1 : w7.cell? ⟨Q, 1, none⟩ = some (.int .i64 ek) := (h7.out.2.2.cell 1).trans rfl
            have d2 : w7.cell? ⟨Q, 2, none⟩ = some (.string es) := (h7.out.2.2.cell 2).trans rfl
            have d3 : w7.cell? ⟨Q, 3, none⟩ = some (.int .i64 0) := (h7.out.2.2.cell 3).trans rfl
            go_wp2_with fail
            exact ⟨⟨k + 1, by go_num, by omega, h7.out.1⟩, by simp [intOf]; omega⟩
        · go_wp2_with fail
          clear hlt hk
          go_loopw [23] (fun i wr => ∃ (k : Nat), i = .int .i64 k ∧ k ≤ n2 ∧ Hid (Below w.heap.size w wr)) (fun i _ => n2 - (intOf i).toNat)
          case atStart => exact ⟨0, rfl, Nat.zero_le _, HW⟩
          case round =>
            clear HW
            obtain ⟨k, rfl, hk, HW⟩ := hrel
            by_cases hlt : k < n2
            · obtain ⟨ad, rfl, h0, h1, h2⟩ := H2.out k hlt
              rw [← HW.out.cell (World.block_lt_of_cell? w _ h0)] at h0
              rw [← HW.out.cell (World.block_lt_of_cell? w _ h1)] at h1
              rw [← HW.out.cell (World.block_lt_of_cell? w _ h2)] at h2
              as_aux_lemma =>
                go_wp2_with fail
                refine (tameSuper_any (g2 k).1 (g2 k).2.1 (g2 k).2.2 _).mono ?_
                clear h0 h1 h2
                rintro e w5 ⟨sa, sb, sc, hf, rfl, hb⟩
                have HF := Lib.hid hf
                have HW5 := Lib.hid (HW.out.trans (hb.out.mono HW.out.size))
                clear hb hf HW
                go_upto_region 26 with (fail)
                obtain ⟨P, hP⟩ : ∃ P, w5.heap.size = P := ⟨_, rfl⟩
                rw [hP]
                refine gen_world (fun w' => Hid (Below w.heap.size w w' ∧ Blk w' P #[.int .i64 sa, .int .i64 sb, .int .i64 sc] 30)) ?_ ?_
                · subst hP
                  exact ⟨HW5.out.alloc HW5.out.size _, Blk.new _ _ _⟩
                clear hP HW5 w5
                rintro w5 h5
                have c0 : w5.cell? ⟨P, 0, none⟩ = some (.int .i64 sa) := (h5.out.2.cell 0).trans rfl
                have c1 : w5.cell? ⟨P, 1, none⟩ = some (.int .i64 sb) := (h5.out.2.cell 1).trans rfl
                have c2 : w5.cell? ⟨P, 2, none⟩ = some (.int .i64 sc) := (h5.out.2.cell 2).trans rfl
                go_wp2_with fail
                refine (enc_super sa sb sc (superBytes sa sb sc) _ ⟨sa, sb, sc, rfl, rfl, rfl, HF.out, rfl⟩).mono ?_
                rintro e w6 ⟨B, rfl, hm⟩
                have h6 : Hid (Below w.heap.size w w6 ∧ Blk w6 P #[.int .i64 sa, .int .i64 sb, .int .i64 sc] 30 ∧ Bytes w6 B (superBytes sa sb sc)) := ⟨h5.out.1.trans (hm.out.1.mono h5.out.1.size), h5.out.2.below hm.out.1 h5.out.2.lt, hm.out.2⟩
                clear hm c0 c1 c2 h5
                go_wp2_with fail
                refine (super_back sa sb sc B _ HF.out h6.out.2.2).mono ?_
                rintro e w7 ⟨rfl, hb⟩
                have h7 : Hid (Below w.heap.size w w7 ∧ Blk w7 P #[.int .i64 sa, .int .i64 sb, .int .i64 sc] 30) := ⟨h6.out.1.trans (hb.out.mono h6.out.1.size), h6.out.2.1.below hb.out h6.out.2.1.lt⟩
                clear hb h6
                go_upto_region 28 with (fail)
                obtain ⟨Q, hQ⟩ : ∃ P, w7.heap.size = P := ⟨_, rfl⟩
                rw [hQ]
                refine gen_world (fun w' => Hid (Below w.heap.size w w' ∧ Blk w' P #[.int .i64 sa, .int .i64 sb, .int .i64 sc] 30 ∧ Blk w' Q #[.int .i64 sa, .int .i64 sb, .int .i64 sc] 30)) ?_ ?_
                · subst hQ
                  exact ⟨h7.out.1.alloc h7.out.1.size _, h7.out.2.alloc _, Blk.new _ _ _⟩
                clear hQ h7 w7
                rintro w7 h7
                have c0 : w7.cell? ⟨P, 0, none⟩ = some (.int .i64 sa) := (h7.out.2.1.cell 0).trans rfl
                have c1 : w7.cell? ⟨P, 1, none⟩ = some (.int .i64 sb) := (h7.out.2.1.cell 1).trans rfl
                have c2 : w7.cell? ⟨P, 2, none⟩ = some (.int .i64 sc) := (h7.out.2.1.cell 2).trans rfl
                have d0 : w7.cell? ⟨Q, 0, none⟩ = some (.int .i64 sa) := (h7.out.2.2.cell 0).trans rfl
                have d1 : w7.cell? ⟨Q, 1, none⟩ = some (.int .i64 sb) := (h7.out.2.2.cell 1).trans rfl
                have d2 : w7.cell? ⟨Q, 2, none⟩ = some (.int .i64 sc) := (h7.out.2.2.cell 2).trans rfl
                go_wp2_with fail
                exact ⟨⟨k + 1, by go_num, by omega, h7.out.1⟩, by simp [intOf]; omega⟩
            · go_wp2_with fail
              go_ret
              exact ⟨rfl, HW.out⟩
end Go.Proofs.Ytefmihbjboacdaa.BackLaw
