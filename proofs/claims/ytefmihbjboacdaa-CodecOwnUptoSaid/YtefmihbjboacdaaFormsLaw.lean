/- CodecForms: what is decoded of any bytes is encoded again to just these; no condition. -/
import Derived.Test.YtefmihbjboacdaaForms
import Derived.Deep.RegionHeld3
import Derived.Lib.SmallJoins
namespace Go.Proofs.Ytefmihbjboacdaa.FormsLaw
open Go.ChangeShapes Go.WideShapes Go.ChangeAt Go.RowKit
open Go.Proofs.Ytefmihbjboacdaa.Kit Go.Proofs.Ytefmihbjboacdaa.Crc Go.Proofs.Ytefmihbjboacdaa.Reads Go.Proofs.Ytefmihbjboacdaa.Copy Go.Proofs.Ytefmihbjboacdaa.Lists Go.Proofs.Ytefmihbjboacdaa.NodeLay Go.Proofs.Ytefmihbjboacdaa.NodeCells Go.Proofs.Ytefmihbjboacdaa.EntryEnc Go.Proofs.Ytefmihbjboacdaa.SuperEnc Go.Proofs.Ytefmihbjboacdaa.Forms
set_option linter.unusedVariables false

theorem made {w4 : World} (q : Nat → Int) : Blk ((w4.alloc (.cells #[.int .i64 0, .int .i64 0, .int .i64 0, .int .i64 0, .int .i64 0, .int .i64 0, .int .i64 0, .int .i64 0, .int .i64 0, .int .i64 0, .int .i64 0, .int .i64 0, .int .i64 0, .int .i64 0, .int .i64 0, .int .i64 0, .int .i64 0] 51)).setRow w4.heap.size (ncs q)) w4.heap.size (ncs q) 51 ∧ Below w4.heap.size w4 ((w4.alloc (.cells #[.int .i64 0, .int .i64 0, .int .i64 0, .int .i64 0, .int .i64 0, .int .i64 0, .int .i64 0, .int .i64 0, .int .i64 0, .int .i64 0, .int .i64 0, .int .i64 0, .int .i64 0, .int .i64 0, .int .i64 0, .int .i64 0, .int .i64 0] 51)).setRow w4.heap.size (ncs q)) := by
  have h := Blk.new w4 #[.int .i64 0, .int .i64 0, .int .i64 0, .int .i64 0, .int .i64 0, .int .i64 0, .int .i64 0, .int .i64 0, .int .i64 0, .int .i64 0, .int .i64 0, .int .i64 0, .int .i64 0, .int .i64 0, .int .i64 0, .int .i64 0, .int .i64 0] 51
  exact ⟨setRow_heap _ _ _ _ _ _ h, ((Below.refl _ _).alloc (Nat.le_refl _) _).trans ((only_row _ _ _).below (Nat.le_refl _))⟩

set_option maxRecDepth 100000 in
set_option maxHeartbeats 20000000 in
theorem law_any (A' : Option Addr) (n' c' : Nat) (w : World) (hn' : n' ≤ 9223372036854775807) (H' : Hid (Lists w A' n')) :
    Calls Try.prog 13 #[.slice A' n' c'] w fun e w' => e = .returned (.bool true) ∧ Below w.heap.size w w' := by
  obtain ⟨i5, hi, hz0, hz1, hz2⟩ := info_parts info5
  have hmk : ∀ w, (Instr.makeSlice 34 (.int .i64 128) (.int .i64 128)).run Try.prog w = .ok (.slice (some ⟨w.heap.size, 0, none⟩) 128 128) (w.alloc (.cells (bvs (zs 128)) 5)) := make_bytes Try.underlying34 hi hz0 hz1 hz2 128 128 rfl (by omega)
  have HMK := Lib.hid (make_bytes Try.underlying34 hi hz0 hz1 hz2 512 512 rfl (by omega))
  clear hi hz0 hz1 hz2
  go_enter Try.func13, Try.ntmps13
  go_wp2_with fail
  refine (node_zeros (some ⟨w.heap.size, 0, none⟩) _ (Bytes.own' (Blk.new w (bvs (zs 128)) 5))).mono ?_
  rintro e w1 ⟨rfl, hb⟩
  have HW := Lib.hid (((Below.refl w.heap.size w).alloc (Nat.le_refl _) (.cells (bvs (zs 128)) 5)).trans (hb.out.mono (by simp)))
  clear hb hmk
  go_upto_region 2 with (first | (refine wpList_store_row rfl 51 _ _ rfl w1.heap.size (ncs fun _ => 0) rfl rfl 51 #[.int .i64 0, .int .i64 0, .int .i64 0, .int .i64 0, .int .i64 0, .int .i64 0, .int .i64 0, .int .i64 0, .int .i64 0, .int .i64 0, .int .i64 0, .int .i64 0, .int .i64 0, .int .i64 0, .int .i64 0, .int .i64 0, .int .i64 0] (Blk.new _ _ _) (by kernel_rfl) rfl (by kernel_rfl) ?_))
  obtain ⟨P, hP⟩ : ∃ P, w1.heap.size = P := ⟨_, rfl⟩
  rw [hP]
  refine gen_world (fun w' => Hid (Below w.heap.size w w' ∧ Blk w' P (ncs fun _ => 0) 51)) ?_ ?_
  · subst hP
    have hm := made (w4 := w1) (fun _ => 0)
    exact ⟨HW.out.trans (hm.2.mono HW.out.size), hm.1⟩
  clear hP HW w1
  rintro w1 h1
  have c0 : w1.cell? ⟨P, 0, none⟩ = some (.int .i64 0) := (h1.out.2.cell 0).trans rfl
  have c1 : w1.cell? ⟨P, 1, none⟩ = some (.int .i64 0) := (h1.out.2.cell 1).trans rfl
  have c2 : w1.cell? ⟨P, 2, none⟩ = some (.int .i64 0) := (h1.out.2.cell 2).trans rfl
  have c3 : w1.cell? ⟨P, 3, none⟩ = some (.int .i64 0) := (h1.out.2.cell 3).trans rfl
  have c4 : w1.cell? ⟨P, 4, none⟩ = some (.int .i64 0) := (h1.out.2.cell 4).trans rfl
  have c5 : w1.cell? ⟨P, 5, none⟩ = some (.int .i64 0) := (h1.out.2.cell 5).trans rfl
  have c6 : w1.cell? ⟨P, 6, none⟩ = some (.int .i64 0) := (h1.out.2.cell 6).trans rfl
  have c7 : w1.cell? ⟨P, 7, none⟩ = some (.int .i64 0) := (h1.out.2.cell 7).trans rfl
  have c8 : w1.cell? ⟨P, 8, none⟩ = some (.int .i64 0) := (h1.out.2.cell 8).trans rfl
  have c9 : w1.cell? ⟨P, 9, none⟩ = some (.int .i64 0) := (h1.out.2.cell 9).trans rfl
  have c10 : w1.cell? ⟨P, 10, none⟩ = some (.int .i64 0) := (h1.out.2.cell 10).trans rfl
  have c11 : w1.cell? ⟨P, 11, none⟩ = some (.int .i64 0) := (h1.out.2.cell 11).trans rfl
  have c12 : w1.cell? ⟨P, 12, none⟩ = some (.int .i64 0) := (h1.out.2.cell 12).trans rfl
  have c13 : w1.cell? ⟨P, 13, none⟩ = some (.int .i64 0) := (h1.out.2.cell 13).trans rfl
  have c14 : w1.cell? ⟨P, 14, none⟩ = some (.int .i64 0) := (h1.out.2.cell 14).trans rfl
  have c15 : w1.cell? ⟨P, 15, none⟩ = some (.int .i64 0) := (h1.out.2.cell 15).trans rfl
  have c16 : w1.cell? ⟨P, 16, none⟩ = some (.int .i64 0) := (h1.out.2.cell 16).trans rfl
  have hne : ∀ w, (binOp .neq 51 (.agg #[.int .i64 0, .int .i64 0, .int .i64 0, .int .i64 0, .int .i64 0, .int .i64 0, .int .i64 0, .int .i64 0, .int .i64 0, .int .i64 0, .int .i64 0, .int .i64 0, .int .i64 0, .int .i64 0, .int .i64 0, .int .i64 0, .int .i64 0]) (.agg #[.int .i64 0, .int .i64 0, .int .i64 0, .int .i64 0, .int .i64 0, .int .i64 0, .int .i64 0, .int .i64 0, .int .i64 0, .int .i64 0, .int .i64 0, .int .i64 0, .int .i64 0, .int .i64 0, .int .i64 0, .int .i64 0, .int .i64 0])).run Try.prog w = .ok (.bool false) w := fun _ => by kernel_rfl
  have hmk := HMK.out
  go_wp2_with fail
  refine (super_zeros (some ⟨w1.heap.size, 0, none⟩) _ (Bytes.own' (Blk.new w1 (bvs (zs 512)) 5))).mono ?_
  rintro e w2 ⟨rfl, hb⟩
  have HW := Lib.hid ((h1.out.1.alloc h1.out.1.size (.cells (bvs (zs 512)) 5)).trans (hb.out.mono (by have := h1.out.1.size; simp; omega)))
  clear hb h1 hne hmk HMK c0 c1 c2 c3 c4 c5 c6 c7 c8 c9 c10 c11 c12 c13 c14 c15 c16
  go_wp2_with fail
  go_loopw [5] (fun i wr => ∃ (k : Nat), i = .int .i64 k ∧ k ≤ n' ∧ Hid (Below w.heap.size w wr)) (fun i _ => n' - (intOf i).toNat)
  case atStart => exact ⟨0, rfl, Nat.zero_le _, HW⟩
  case round =>
    clear HW
    obtain ⟨k, rfl, hk, HW⟩ := hrel
    by_cases hlt : k < n'
    · obtain ⟨ad, Ai, ci, li, rfl, hc, hle, hci, hby⟩ := H'.out k hlt
      have HC := Lib.hid hc
      have HBY := Lib.hid hby
      have HCI := Lib.hid (And.intro hle hci)
      clear hby hle hci
      rw [← HW.out.cell (World.block_lt_of_cell? w _ hc)] at hc
      obtain ⟨nq, ner, hnf⟩ := node_form li
      obtain ⟨eq, eer, hef⟩ := entry_form li
      obtain ⟨sx, sy, sz, ser, hsf⟩ := super_form li
      have HNF := Lib.hid hnf
      have HEF := Lib.hid hef
      have HSF := Lib.hid hsf
      clear hnf hef hsf
      go_wp2_with fail
      refine (HNF.out.1 Ai ci li.length _ rfl HCI.out.1 (by have := HCI.out; omega) (HBY.out.below HW.out)).mono ?_
      clear hc
      rintro e w2 ⟨rfl, hb2⟩
      have HW2 := Lib.hid (HW.out.trans (hb2.out.mono HW.out.size))
      clear hb2 HW
      go_upto_region 12 with (first | (refine wpList_store_row rfl 51 _ _ rfl w2.heap.size (ncs nq) rfl rfl 51 #[.int .i64 0, .int .i64 0, .int .i64 0, .int .i64 0, .int .i64 0, .int .i64 0, .int .i64 0, .int .i64 0, .int .i64 0, .int .i64 0, .int .i64 0, .int .i64 0, .int .i64 0, .int .i64 0, .int .i64 0, .int .i64 0, .int .i64 0] (Blk.new _ _ _) (by kernel_rfl) rfl (by kernel_rfl) ?_))
      obtain ⟨P1, hP1⟩ : ∃ P, w2.heap.size = P := ⟨_, rfl⟩
      rw [hP1]
      refine gen_world (fun w' => Hid (Below w.heap.size w w' ∧ Blk w' P1 (ncs nq) 51)) ?_ ?_
      · subst hP1
        have hm := made (w4 := w2) nq
        exact ⟨HW2.out.trans (hm.2.mono HW2.out.size), hm.1⟩
      clear hP1 HW2 w2
      rintro w2 h2
      by_cases hn0 : ner = 0
      · subst hn0
        have HNI := Lib.hid (HNF.out.2 rfl)
        have hk1 := h2.out.2
        as_aux_lemma =>
          go_wp2_with (first | (refine wpList_load_row rfl 51 _ rfl P1 rfl 51 (ncs nq) (0, 0) _ hk1 Try.underlying51 rfl (by kernel_rfl) ?_))
          refine (enc_node nq _ HNI.out.1).mono ?_
          rintro e w3 ⟨A1, rfl, hm⟩
          have HW3 := Lib.hid (h2.out.1.trans (hm.out.1.mono h2.out.1.size))
          have HB3 := Lib.hid hm.out.2
          clear hm hk1
          go_wp2_with fail
          refine (same_li Ai A1 ci 128 li.length 128 li (nodeOf nq) _ rfl (nodeOf_length nq) (by have := HCI.out; omega) HNI.out.2 (HBY.out.below HW3.out) HB3).mono ?_
          rintro e w4 ⟨rfl, hs⟩
          have HW : Hid (Below w.heap.size w w4) := HW3.out.trans (hs.below _)
          clear hs
          go_wp2_with fail
          refine (HEF.out.1 Ai ci li.length _ rfl HCI.out.1 (by have := HCI.out; omega) (HBY.out.below HW.out)).mono ?_
          rintro e w5 ⟨rfl, hb5⟩
          have HW5 := Lib.hid (HW.out.trans (hb5.out.mono HW.out.size))
          clear hb5 HW
          go_upto_region 17 with (fail)
          obtain ⟨P2, hP2⟩ : ∃ P, w5.heap.size = P := ⟨_, rfl⟩
          rw [hP2]
          refine gen_world (fun w' => Hid (Below w.heap.size w w' ∧ Blk w' P2 #[.int .i64 eq.1, .int .i64 eq.2.1, .string eq.2.2, .int .i64 0] 61)) ?_ ?_
          · subst hP2
            exact ⟨HW5.out.alloc HW5.out.size _, Blk.new _ _ _⟩
          clear hP2 HW5 w5
          rintro w5 h5
          by_cases he0 : eer = 0
          · subst he0
            have HEI := Lib.hid (HEF.out.2 rfl)
            have c0 : w5.cell? ⟨P2, 0, none⟩ = some (.int .i64 eq.1) := (h5.out.2.cell 0).trans rfl
            have c1 : w5.cell? ⟨P2, 1, none⟩ = some (.int .i64 eq.2.1) := (h5.out.2.cell 1).trans rfl
            have c2 : w5.cell? ⟨P2, 2, none⟩ = some (.string eq.2.2) := (h5.out.2.cell 2).trans rfl
            have c3 : w5.cell? ⟨P2, 3, none⟩ = some (.int .i64 0) := (h5.out.2.cell 3).trans rfl
            as_aux_lemma =>
              go_wp2_with fail
              refine (enc_entry eq _ HEI.out.1).mono ?_
              rintro e w6 ⟨A2, rfl, hm⟩
              have HW6 := Lib.hid (h5.out.1.trans (hm.out.1.mono h5.out.1.size))
              have HK6 := Lib.hid (h5.out.2.below hm.out.1 h5.out.2.lt)
              have HB6 := Lib.hid hm.out.2
              clear hm c0 c1 c2 c3
              go_wp2_with fail
              refine (same_li Ai A2 ci 64 li.length 64 li (entryOf eq.1 eq.2.1 eq.2.2) _ rfl (entryOf_length HEI.out.1) (by have := HCI.out; omega) HEI.out.2 (HBY.out.below HW6.out) HB6).mono ?_
              rintro e w7 ⟨rfl, hs⟩
              have HW : Hid (Below w.heap.size w w7) := HW6.out.trans (hs.below _)
              have c3 : w7.cell? ⟨P2, 3, none⟩ = some (.int .i64 0) := ((hs.blk HK6.out).cell 3).trans rfl
              clear hs
              go_wp2_with fail
              refine (HSF.out.1 Ai ci li.length _ rfl HCI.out.1 (by have := HCI.out; omega) (HBY.out.below HW.out)).mono ?_
              rintro e w8 ⟨rfl, hb8⟩
              have HW8 := Lib.hid (HW.out.trans (hb8.out.mono HW.out.size))
              clear hb8 HW
              go_upto_region 22 with (fail)
              obtain ⟨P3, hP3⟩ : ∃ P, w8.heap.size = P := ⟨_, rfl⟩
              rw [hP3]
              refine gen_world (fun w' => Hid (Below w.heap.size w w' ∧ Blk w' P3 #[.int .i64 sx, .int .i64 sy, .int .i64 sz] 30)) ?_ ?_
              · subst hP3
                exact ⟨HW8.out.alloc HW8.out.size _, Blk.new _ _ _⟩
              clear hP3 HW8 w8
              rintro w8 h8
              by_cases hs0 : ser = 0
              · subst hs0
                have HSI := Lib.hid (HSF.out.2 rfl)
                have c0 : w8.cell? ⟨P3, 0, none⟩ = some (.int .i64 sx) := (h8.out.2.cell 0).trans rfl
                have c1 : w8.cell? ⟨P3, 1, none⟩ = some (.int .i64 sy) := (h8.out.2.cell 1).trans rfl
                have c2 : w8.cell? ⟨P3, 2, none⟩ = some (.int .i64 sz) := (h8.out.2.cell 2).trans rfl
                as_aux_lemma =>
                  go_wp2_with fail
                  refine (enc_super sx sy sz li _ HSI.out).mono ?_
                  rintro e w9 ⟨A3, rfl, hm⟩
                  have HW9 := Lib.hid (h8.out.1.trans (hm.out.1.mono h8.out.1.size))
                  have HB9 := Lib.hid hm.out.2
                  clear hm c0 c1 c2
                  have hl5 : li.length = 512 := by
                    obtain ⟨a, b, c, _, _, _, _, rfl⟩ := HSI.out
                    exact superBytes_length a b c
                  have HL5 := Lib.hid hl5
                  clear hl5
                  go_wp2_with fail
                  refine (same_li Ai A3 ci 512 li.length 512 li li _ rfl HL5.out (by have := HCI.out; omega) rfl (HBY.out.below HW9.out) HB9).mono ?_
                  rintro e w10 ⟨rfl, hs⟩
                  have HW : Hid (Below w.heap.size w w10) := HW9.out.trans (hs.below _)
                  clear hs
                  go_wp2_with fail
                  exact ⟨⟨k + 1, by go_num, by omega, HW⟩, by simp [intOf]; omega⟩
              · have t0 : (ser == 0) = false := beq_eq_false_iff_ne.2 hs0
                have HW : Hid (Below w.heap.size w w8) := h8.out.1
                as_aux_lemma =>
                  go_wp2_with fail
                  exact ⟨⟨k + 1, by go_num, by omega, HW⟩, by simp [intOf]; omega⟩
          · have t0 : (eer == 0) = false := beq_eq_false_iff_ne.2 he0
            have HW : Hid (Below w.heap.size w w5) := h5.out.1
            as_aux_lemma =>
              go_wp2_with fail
              refine (HSF.out.1 Ai ci li.length _ rfl HCI.out.1 (by have := HCI.out; omega) (HBY.out.below HW.out)).mono ?_
              rintro e w8 ⟨rfl, hb8⟩
              have HW8 := Lib.hid (HW.out.trans (hb8.out.mono HW.out.size))
              clear hb8 HW
              go_upto_region 22 with (fail)
              obtain ⟨P3, hP3⟩ : ∃ P, w8.heap.size = P := ⟨_, rfl⟩
              rw [hP3]
              refine gen_world (fun w' => Hid (Below w.heap.size w w' ∧ Blk w' P3 #[.int .i64 sx, .int .i64 sy, .int .i64 sz] 30)) ?_ ?_
              · subst hP3
                exact ⟨HW8.out.alloc HW8.out.size _, Blk.new _ _ _⟩
              clear hP3 HW8 w8
              rintro w8 h8
              by_cases hs0 : ser = 0
              · subst hs0
                have HSI := Lib.hid (HSF.out.2 rfl)
                have c0 : w8.cell? ⟨P3, 0, none⟩ = some (.int .i64 sx) := (h8.out.2.cell 0).trans rfl
                have c1 : w8.cell? ⟨P3, 1, none⟩ = some (.int .i64 sy) := (h8.out.2.cell 1).trans rfl
                have c2 : w8.cell? ⟨P3, 2, none⟩ = some (.int .i64 sz) := (h8.out.2.cell 2).trans rfl
                as_aux_lemma =>
                  go_wp2_with fail
                  refine (enc_super sx sy sz li _ HSI.out).mono ?_
                  rintro e w9 ⟨A3, rfl, hm⟩
                  have HW9 := Lib.hid (h8.out.1.trans (hm.out.1.mono h8.out.1.size))
                  have HB9 := Lib.hid hm.out.2
                  clear hm c0 c1 c2
                  have hl5 : li.length = 512 := by
                    obtain ⟨a, b, c, _, _, _, _, rfl⟩ := HSI.out
                    exact superBytes_length a b c
                  have HL5 := Lib.hid hl5
                  clear hl5
                  go_wp2_with fail
                  refine (same_li Ai A3 ci 512 li.length 512 li li _ rfl HL5.out (by have := HCI.out; omega) rfl (HBY.out.below HW9.out) HB9).mono ?_
                  rintro e w10 ⟨rfl, hs⟩
                  have HW : Hid (Below w.heap.size w w10) := HW9.out.trans (hs.below _)
                  clear hs
                  go_wp2_with fail
                  exact ⟨⟨k + 1, by go_num, by omega, HW⟩, by simp [intOf]; omega⟩
              · have t0 : (ser == 0) = false := beq_eq_false_iff_ne.2 hs0
                have HW : Hid (Below w.heap.size w w8) := h8.out.1
                as_aux_lemma =>
                  go_wp2_with fail
                  exact ⟨⟨k + 1, by go_num, by omega, HW⟩, by simp [intOf]; omega⟩
      · have t0 : (ner == 0) = false := beq_eq_false_iff_ne.2 hn0
        have HW : Hid (Below w.heap.size w w2) := h2.out.1
        as_aux_lemma =>
          go_wp2_with fail
          refine (HEF.out.1 Ai ci li.length _ rfl HCI.out.1 (by have := HCI.out; omega) (HBY.out.below HW.out)).mono ?_
          rintro e w5 ⟨rfl, hb5⟩
          have HW5 := Lib.hid (HW.out.trans (hb5.out.mono HW.out.size))
          clear hb5 HW
          go_upto_region 17 with (fail)
          obtain ⟨P2, hP2⟩ : ∃ P, w5.heap.size = P := ⟨_, rfl⟩
          rw [hP2]
          refine gen_world (fun w' => Hid (Below w.heap.size w w' ∧ Blk w' P2 #[.int .i64 eq.1, .int .i64 eq.2.1, .string eq.2.2, .int .i64 0] 61)) ?_ ?_
          · subst hP2
            exact ⟨HW5.out.alloc HW5.out.size _, Blk.new _ _ _⟩
          clear hP2 HW5 w5
          rintro w5 h5
          by_cases he0 : eer = 0
          · subst he0
            have HEI := Lib.hid (HEF.out.2 rfl)
            have c0 : w5.cell? ⟨P2, 0, none⟩ = some (.int .i64 eq.1) := (h5.out.2.cell 0).trans rfl
            have c1 : w5.cell? ⟨P2, 1, none⟩ = some (.int .i64 eq.2.1) := (h5.out.2.cell 1).trans rfl
            have c2 : w5.cell? ⟨P2, 2, none⟩ = some (.string eq.2.2) := (h5.out.2.cell 2).trans rfl
            have c3 : w5.cell? ⟨P2, 3, none⟩ = some (.int .i64 0) := (h5.out.2.cell 3).trans rfl
            as_aux_lemma =>
              go_wp2_with fail
              refine (enc_entry eq _ HEI.out.1).mono ?_
              rintro e w6 ⟨A2, rfl, hm⟩
              have HW6 := Lib.hid (h5.out.1.trans (hm.out.1.mono h5.out.1.size))
              have HK6 := Lib.hid (h5.out.2.below hm.out.1 h5.out.2.lt)
              have HB6 := Lib.hid hm.out.2
              clear hm c0 c1 c2 c3
              go_wp2_with fail
              refine (same_li Ai A2 ci 64 li.length 64 li (entryOf eq.1 eq.2.1 eq.2.2) _ rfl (entryOf_length HEI.out.1) (by have := HCI.out; omega) HEI.out.2 (HBY.out.below HW6.out) HB6).mono ?_
              rintro e w7 ⟨rfl, hs⟩
              have HW : Hid (Below w.heap.size w w7) := HW6.out.trans (hs.below _)
              have c3 : w7.cell? ⟨P2, 3, none⟩ = some (.int .i64 0) := ((hs.blk HK6.out).cell 3).trans rfl
              clear hs
              go_wp2_with fail
              refine (HSF.out.1 Ai ci li.length _ rfl HCI.out.1 (by have := HCI.out; omega) (HBY.out.below HW.out)).mono ?_
              rintro e w8 ⟨rfl, hb8⟩
              have HW8 := Lib.hid (HW.out.trans (hb8.out.mono HW.out.size))
              clear hb8 HW
              go_upto_region 22 with (fail)
              obtain ⟨P3, hP3⟩ : ∃ P, w8.heap.size = P := ⟨_, rfl⟩
              rw [hP3]
              refine gen_world (fun w' => Hid (Below w.heap.size w w' ∧ Blk w' P3 #[.int .i64 sx, .int .i64 sy, .int .i64 sz] 30)) ?_ ?_
              · subst hP3
                exact ⟨HW8.out.alloc HW8.out.size _, Blk.new _ _ _⟩
              clear hP3 HW8 w8
              rintro w8 h8
              by_cases hs0 : ser = 0
              · subst hs0
                have HSI := Lib.hid (HSF.out.2 rfl)
                have c0 : w8.cell? ⟨P3, 0, none⟩ = some (.int .i64 sx) := (h8.out.2.cell 0).trans rfl
                have c1 : w8.cell? ⟨P3, 1, none⟩ = some (.int .i64 sy) := (h8.out.2.cell 1).trans rfl
                have c2 : w8.cell? ⟨P3, 2, none⟩ = some (.int .i64 sz) := (h8.out.2.cell 2).trans rfl
                as_aux_lemma =>
                  go_wp2_with fail
                  refine (enc_super sx sy sz li _ HSI.out).mono ?_
                  rintro e w9 ⟨A3, rfl, hm⟩
                  have HW9 := Lib.hid (h8.out.1.trans (hm.out.1.mono h8.out.1.size))
                  have HB9 := Lib.hid hm.out.2
                  clear hm c0 c1 c2
                  have hl5 : li.length = 512 := by
                    obtain ⟨a, b, c, _, _, _, _, rfl⟩ := HSI.out
                    exact superBytes_length a b c
                  have HL5 := Lib.hid hl5
                  clear hl5
                  go_wp2_with fail
                  refine (same_li Ai A3 ci 512 li.length 512 li li _ rfl HL5.out (by have := HCI.out; omega) rfl (HBY.out.below HW9.out) HB9).mono ?_
                  rintro e w10 ⟨rfl, hs⟩
                  have HW : Hid (Below w.heap.size w w10) := HW9.out.trans (hs.below _)
                  clear hs
                  go_wp2_with fail
                  exact ⟨⟨k + 1, by go_num, by omega, HW⟩, by simp [intOf]; omega⟩
              · have t0 : (ser == 0) = false := beq_eq_false_iff_ne.2 hs0
                have HW : Hid (Below w.heap.size w w8) := h8.out.1
                as_aux_lemma =>
                  go_wp2_with fail
                  exact ⟨⟨k + 1, by go_num, by omega, HW⟩, by simp [intOf]; omega⟩
          · have t0 : (eer == 0) = false := beq_eq_false_iff_ne.2 he0
            have HW : Hid (Below w.heap.size w w5) := h5.out.1
            as_aux_lemma =>
              go_wp2_with fail
              refine (HSF.out.1 Ai ci li.length _ rfl HCI.out.1 (by have := HCI.out; omega) (HBY.out.below HW.out)).mono ?_
              rintro e w8 ⟨rfl, hb8⟩
              have HW8 := Lib.hid (HW.out.trans (hb8.out.mono HW.out.size))
              clear hb8 HW
              go_upto_region 22 with (fail)
              obtain ⟨P3, hP3⟩ : ∃ P, w8.heap.size = P := ⟨_, rfl⟩
              rw [hP3]
              refine gen_world (fun w' => Hid (Below w.heap.size w w' ∧ Blk w' P3 #[.int .i64 sx, .int .i64 sy, .int .i64 sz] 30)) ?_ ?_
              · subst hP3
                exact ⟨HW8.out.alloc HW8.out.size _, Blk.new _ _ _⟩
              clear hP3 HW8 w8
              rintro w8 h8
              by_cases hs0 : ser = 0
              · subst hs0
                have HSI := Lib.hid (HSF.out.2 rfl)
                have c0 : w8.cell? ⟨P3, 0, none⟩ = some (.int .i64 sx) := (h8.out.2.cell 0).trans rfl
                have c1 : w8.cell? ⟨P3, 1, none⟩ = some (.int .i64 sy) := (h8.out.2.cell 1).trans rfl
                have c2 : w8.cell? ⟨P3, 2, none⟩ = some (.int .i64 sz) := (h8.out.2.cell 2).trans rfl
                as_aux_lemma =>
                  go_wp2_with fail
                  refine (enc_super sx sy sz li _ HSI.out).mono ?_
                  rintro e w9 ⟨A3, rfl, hm⟩
                  have HW9 := Lib.hid (h8.out.1.trans (hm.out.1.mono h8.out.1.size))
                  have HB9 := Lib.hid hm.out.2
                  clear hm c0 c1 c2
                  have hl5 : li.length = 512 := by
                    obtain ⟨a, b, c, _, _, _, _, rfl⟩ := HSI.out
                    exact superBytes_length a b c
                  have HL5 := Lib.hid hl5
                  clear hl5
                  go_wp2_with fail
                  refine (same_li Ai A3 ci 512 li.length 512 li li _ rfl HL5.out (by have := HCI.out; omega) rfl (HBY.out.below HW9.out) HB9).mono ?_
                  rintro e w10 ⟨rfl, hs⟩
                  have HW : Hid (Below w.heap.size w w10) := HW9.out.trans (hs.below _)
                  clear hs
                  go_wp2_with fail
                  exact ⟨⟨k + 1, by go_num, by omega, HW⟩, by simp [intOf]; omega⟩
              · have t0 : (ser == 0) = false := beq_eq_false_iff_ne.2 hs0
                have HW : Hid (Below w.heap.size w w8) := h8.out.1
                as_aux_lemma =>
                  go_wp2_with fail
                  exact ⟨⟨k + 1, by go_num, by omega, HW⟩, by simp [intOf]; omega⟩
    · go_wp2_with fail
      go_ret
      exact ⟨rfl, HW.out⟩
end Go.Proofs.Ytefmihbjboacdaa.FormsLaw
