/- CodecNodes: each value's bytes, and what each list of bytes says; no condition. (Printed by genlaw.py.) -/
import Derived.Test.YtefmihbjboacdaaNodesBoth
import Derived.Test.YtefmihbjboacdaaNodeCells
import Derived.Deep.RegionHeld3
import Derived.Lib.SmallJoins
namespace Go.Proofs.Ytefmihbjboacdaa.NodesLaw
open Go.ChangeShapes Go.WideShapes Go.ChangeAt Go.RowKit
open Go.Proofs.Ytefmihbjboacdaa.Kit Go.Proofs.Ytefmihbjboacdaa.Crc Go.Proofs.Ytefmihbjboacdaa.Reads Go.Proofs.Ytefmihbjboacdaa.Copy Go.Proofs.Ytefmihbjboacdaa.NodesBoth
open Go.Proofs.Ytefmihbjboacdaa.NodeLay Go.Proofs.Ytefmihbjboacdaa.NodeCells
open Go.Proofs.Ytefmihbjboacdaa.SupersBoth (EncPost same_at)
set_option linter.unusedVariables false

theorem tight_at (A : Option Addr) (c n : Nat) (l : List UInt8) (w : World) (hl : l.length = n) (hn : n ≤ 140737488351232) (H : Hid (Bytes w A l)) :
    Calls Try.prog 21 #[.slice A n c] w fun e w' => ∃ B, e = .returned (.slice (some ⟨B, 0, none⟩) n n) ∧ Made w w' B l := by
  subst hl
  exact tight_any A c l w hn H
theorem made {w4 : World} (q : Nat → Int) : Blk ((w4.alloc (.cells #[.int .i64 0, .int .i64 0, .int .i64 0, .int .i64 0, .int .i64 0, .int .i64 0, .int .i64 0, .int .i64 0, .int .i64 0, .int .i64 0, .int .i64 0, .int .i64 0, .int .i64 0, .int .i64 0, .int .i64 0, .int .i64 0, .int .i64 0] 51)).setRow w4.heap.size (ncs q)) w4.heap.size (ncs q) 51 ∧ Below w4.heap.size w4 ((w4.alloc (.cells #[.int .i64 0, .int .i64 0, .int .i64 0, .int .i64 0, .int .i64 0, .int .i64 0, .int .i64 0, .int .i64 0, .int .i64 0, .int .i64 0, .int .i64 0, .int .i64 0, .int .i64 0, .int .i64 0, .int .i64 0, .int .i64 0, .int .i64 0] 51)).setRow w4.heap.size (ncs q)) := by
  have h := Blk.new w4 #[.int .i64 0, .int .i64 0, .int .i64 0, .int .i64 0, .int .i64 0, .int .i64 0, .int .i64 0, .int .i64 0, .int .i64 0, .int .i64 0, .int .i64 0, .int .i64 0, .int .i64 0, .int .i64 0, .int .i64 0, .int .i64 0, .int .i64 0] 51
  exact ⟨setRow_heap _ _ _ _ _ _ h, ((Below.refl _ _).alloc (Nat.le_refl _) _).trans ((only_row _ _ _).below (Nat.le_refl _))⟩

set_option maxRecDepth 100000 in
set_option maxHeartbeats 6400000 in
theorem law_any (A A' : Option Addr) (n c n' c' : Nat) (g : Nat → Nat → Int) (w : World) (hn : n ≤ 9223372036854775807) (hn' : n' ≤ 9223372036854775807) (hn7 : n' * 24 ≤ 140737488351232) (H : Hid (Nodes w A n g)) (H' : Hid (Lists w A' n')) :
    Calls Try.prog 8 #[.slice A n c, .slice A' n' c'] w fun e w' => e = .returned (.bool true) ∧ Below w.heap.size w w' := by
  have HN := Lib.hid hn7
  clear hn7
  go_enter Try.func8, Try.ntmps8
  go_wp2_with fail
  refine (NodeDecAll.dec_short none 0 0 w (by decide) (by decide)).mono ?_
  rintro e w1 ⟨rfl, hb⟩
  have HB := Lib.hid hb
  clear hb
  go_upto_region 2 with (first | (refine wpList_store_row rfl 51 _ _ rfl w1.heap.size #[.int .i64 0, .int .i64 0, .int .i64 0, .int .i64 0, .int .i64 0, .int .i64 0, .int .i64 0, .int .i64 0, .int .i64 0, .int .i64 0, .int .i64 0, .int .i64 0, .int .i64 0, .int .i64 0, .int .i64 0, .int .i64 0, .int .i64 0] rfl rfl 51 #[.int .i64 0, .int .i64 0, .int .i64 0, .int .i64 0, .int .i64 0, .int .i64 0, .int .i64 0, .int .i64 0, .int .i64 0, .int .i64 0, .int .i64 0, .int .i64 0, .int .i64 0, .int .i64 0, .int .i64 0, .int .i64 0, .int .i64 0] (Blk.new _ _ _) (by kernel_rfl) rfl (by kernel_rfl) ?_))
  refine gen_world (fun w' => Hid (Below w.heap.size w w')) ?_ ?_
  · exact (HB.out.alloc HB.out.size _).trans ((only_row _ _ _).below HB.out.size)
  clear HB
  generalize w1.heap.size = B1
  rintro w1 HB
  go_wp2_with fail
  go_loopw [7] (fun i wr => ∃ (k : Nat), i = .int .i64 k ∧ k ≤ n ∧ Hid (Below w.heap.size w wr)) (fun i _ => n - (intOf i).toNat)
  case atStart => exact ⟨0, rfl, Nat.zero_le _, HB⟩
  case round =>
    clear HB
    obtain ⟨k, rfl, hk, HW⟩ := hrel
    by_cases hlt : k < n
    · obtain ⟨ad, rfl, h0⟩ := H.out k hlt
      have H0 := Lib.hid h0
      clear h0
      have RD : Hid (∀ wx, Below w.heap.size w wx → ∀ j v, (ncs (g k)).toList[j]? = some v → wx.cell? ((ad.add (k * 17)).add j) = some v) := fun wx hb j v hv => (hb.cell (World.block_lt_of_cell? w _ (H0.out j v hv))).trans (H0.out j v hv)
      obtain ⟨L, l, er, hL, hL5, he1, he2⟩ := enc_both (g k)
      have HE1 := Lib.hid he1
      have HE2 := Lib.hid he2
      have HL := Lib.hid hL
      have HL5 := Lib.hid hL5
      clear he1 he2 hL hL5
      go_wp2_with (first | (refine wpList_load_node rfl _ rfl (ad.add (k * 17)) rfl (g k) (RD.out _ HW.out) ?_))
      refine (HE1.out _).mono ?_
      rintro e w2 ⟨A1, rfl, hm⟩
      have HW2 := Lib.hid (HW.out.trans (hm.out.1.mono HW.out.size))
      have HB2 := Lib.hid hm.out.2
      clear hm
      go_wp2_with (first | (refine wpList_load_node rfl _ rfl (ad.add (k * 17)) rfl (g k) (RD.out _ HW2.out) ?_))
      refine (HE2.out _).mono ?_
      rintro e w3 ⟨A2, rfl, hm⟩
      have HW3 := Lib.hid (HW2.out.trans (hm.out.1.mono HW2.out.size))
      have HB3 := Lib.hid (HB2.out.below hm.out.1)
      have HB4 := Lib.hid hm.out.2
      clear hm
      go_wp2_with fail
      refine (same_at A1 A2 L L L l _ HL.out (by have := HL5.out; omega) HB3 HB4).mono ?_
      rintro e w4 ⟨rfl, hs⟩
      have HW4 := Lib.hid (HW3.out.trans (hs.below _))
      clear hs
      go_wp2_with fail
      exact ⟨⟨k + 1, by go_num, by omega, HW4⟩, by simp [intOf]; omega⟩
    · go_wp2_with fail
      clear hlt hk
      go_loopw [12] (fun i wr => ∃ (k : Nat), i = .int .i64 k ∧ k ≤ n' ∧ Hid (Below w.heap.size w wr)) (fun i _ => n' - (intOf i).toNat)
      case atStart => exact ⟨0, rfl, Nat.zero_le _, HW⟩
      case round =>
        clear HW
        obtain ⟨k, rfl, hk, HW⟩ := hrel
        by_cases hlt : k < n'
        · obtain ⟨ad, Ai, ci, li, rfl, hc, hle, hci, hby⟩ := H'.out k hlt
          have HC := Lib.hid hc
          have HBY := Lib.hid hby
          have HCI := Lib.hid (And.intro hle hci)
          clear hby hle hci
          rw [← HW.out.cell (World.block_lt_of_cell? w _ hc)] at hc
          go_wp2_with fail
          refine (twin_any Ai ci li 5 _ (by have := HCI.out; omega) (by decide) (HBY.out.below (HW.out.mono (Nat.le_refl _)))).mono ?_
          clear hc
          rintro e w3 ⟨B, rfl, hB, hb3, hk3⟩
          have HK3 := Lib.hid hk3
          have HW3 := Lib.hid (HW.out.trans (hb3.mono HW.out.size))
          have HLB := Lib.hid (Nat.le_trans HW.out.size hB)
          clear hB hb3 hk3
          obtain ⟨q, er, hd1, hd2⟩ := dec_both li
          have HD1 := Lib.hid hd1
          have HD2 := Lib.hid hd2
          clear hd1 hd2
          go_wp2_with fail
          refine (HD1.out (some ⟨B, 0, none⟩) (li.length + 5) li.length _ rfl (by omega) (by have := HCI.out; omega) (Bytes.own HK3.out)).mono ?_
          rintro e w4 ⟨rfl, hb4⟩
          have HW4 := Lib.hid (HW3.out.trans (hb4.out.mono HW3.out.size))
          have HK4 := Lib.hid (HK3.out.below hb4.out HK3.out.lt)
          clear hb4 HW3 HK3
          go_upto_region 16 with (first | (refine wpList_store_row rfl 51 _ _ rfl w4.heap.size (ncs q) rfl rfl 51 #[.int .i64 0, .int .i64 0, .int .i64 0, .int .i64 0, .int .i64 0, .int .i64 0, .int .i64 0, .int .i64 0, .int .i64 0, .int .i64 0, .int .i64 0, .int .i64 0, .int .i64 0, .int .i64 0, .int .i64 0, .int .i64 0, .int .i64 0] (Blk.new _ _ _) (by kernel_rfl) rfl (by kernel_rfl) ?_))
          obtain ⟨P, hP⟩ : ∃ P, w4.heap.size = P := ⟨_, rfl⟩
          rw [hP]
          refine gen_world (fun w' => Hid (Below w.heap.size w w' ∧ w.heap.size ≤ P ∧ Blk w' P (ncs q) 51 ∧ Blk w' B (bvs (li ++ List.replicate 5 0xA5)) 5)) ?_ ?_
          · subst hP
            have hm := made (w4 := w4) q
            exact ⟨HW4.out.trans (hm.2.mono HW4.out.size), HW4.out.size, hm.1, HK4.out.below hm.2 HK4.out.lt⟩
          clear hP HW4 HK4 w4
          rintro w4 h4
          have hc := (h4.out.1.cell (World.block_lt_of_cell? w _ HC.out)).trans HC.out
          go_wp2_with fail
          refine (HD2.out Ai ci li.length _ rfl HCI.out.1 (by have := HCI.out; omega) (HBY.out.below h4.out.1)).mono ?_
          clear hc
          rintro e w5 ⟨rfl, hb5⟩
          have h5 : Hid (Below w.heap.size w w5 ∧ w.heap.size ≤ P ∧ Blk w5 P (ncs q) 51 ∧ Blk w5 B (bvs (li ++ List.replicate 5 0xA5)) 5) :=
            ⟨h4.out.1.trans (hb5.out.mono h4.out.1.size), h4.out.2.1, h4.out.2.2.1.below hb5.out h4.out.2.2.1.lt, h4.out.2.2.2.below hb5.out h4.out.2.2.2.lt⟩
          clear hb5 h4
          go_upto_region 17 with (first | (refine wpList_store_row rfl 51 _ _ rfl w5.heap.size (ncs q) rfl rfl 51 #[.int .i64 0, .int .i64 0, .int .i64 0, .int .i64 0, .int .i64 0, .int .i64 0, .int .i64 0, .int .i64 0, .int .i64 0, .int .i64 0, .int .i64 0, .int .i64 0, .int .i64 0, .int .i64 0, .int .i64 0, .int .i64 0, .int .i64 0] (Blk.new _ _ _) (by kernel_rfl) rfl (by kernel_rfl) ?_))
          obtain ⟨Q, hQ⟩ : ∃ Q, w5.heap.size = Q := ⟨_, rfl⟩
          rw [hQ]
          refine gen_world (fun w' => Hid (Below w.heap.size w w' ∧ w.heap.size ≤ P ∧ w.heap.size ≤ Q ∧ P ≠ Q ∧ Blk w' P (ncs q) 51 ∧ Blk w' Q (ncs q) 51 ∧ Blk w' B (bvs (li ++ List.replicate 5 0xA5)) 5)) ?_ ?_
          · subst hQ
            have hm := made (w4 := w5) q
            exact ⟨h5.out.1.trans (hm.2.mono h5.out.1.size), h5.out.2.1, h5.out.1.size, by have := h5.out.2.2.1.lt; omega, h5.out.2.2.1.below hm.2 h5.out.2.2.1.lt, hm.1, h5.out.2.2.2.below hm.2 h5.out.2.2.2.lt⟩
          clear hQ h5 w5
          rintro w5 h5
          have hc := (h5.out.1.cell (World.block_lt_of_cell? w _ HC.out)).trans HC.out
          have hP1 := h5.out.2.2.2.2.1
          have hQ1 := h5.out.2.2.2.2.2.1
          have hne := neq_same q
          go_wp2_with (first | (refine wpList_load_row rfl 51 _ rfl P rfl 51 (ncs q) (0, 0) _ hP1 Try.underlying51 rfl (by kernel_rfl) ?_) | (refine wpList_load_row rfl 51 _ rfl Q rfl 51 (ncs q) (0, 0) _ hQ1 Try.underlying51 rfl (by kernel_rfl) ?_))
          refine (whole_any Ai ci B li 5 _ (by have := HCI.out; omega) (by decide) (HBY.out.below h5.out.1) h5.out.2.2.2.2.2.2).mono ?_
          clear hc hP1 hQ1 hne
          rintro e w6 ⟨rfl, hs6⟩
          have h6 : Hid (Below w.heap.size w w6 ∧ w.heap.size ≤ P ∧ w.heap.size ≤ Q ∧ P ≠ Q ∧ Blk w6 P (ncs q) 51 ∧ Blk w6 Q (ncs q) 51) :=
            ⟨h5.out.1.trans (hs6.below _), h5.out.2.1, h5.out.2.2.1, h5.out.2.2.2.1, hs6.blk h5.out.2.2.2.2.1, hs6.blk h5.out.2.2.2.2.2.1⟩
          clear h5 hs6
          have hc := (h6.out.1.cell (World.block_lt_of_cell? w _ HC.out)).trans HC.out
          go_wp2_with fail
          clear hc
          refine (tight_any Ai ci li _ (by have := HCI.out; omega) (HBY.out.below h6.out.1)).mono ?_
          rintro e w7 ⟨D, rfl, hD, hb7, hk7⟩
          have h7 : Hid (Below w.heap.size w w7 ∧ w.heap.size ≤ P ∧ w.heap.size ≤ Q ∧ P ≠ Q ∧ Blk w7 P (ncs q) 51 ∧ Blk w7 Q (ncs q) 51 ∧ w.heap.size ≤ D ∧ P ≠ D ∧ Q ≠ D ∧ Blk w7 D (bvs li) 5) := by
            have l1 := h6.out.2.2.2.2.1.lt
            have l2 := h6.out.2.2.2.2.2.lt
            exact ⟨h6.out.1.trans (hb7.mono h6.out.1.size), h6.out.2.1, h6.out.2.2.1, h6.out.2.2.2.1, h6.out.2.2.2.2.1.below hb7 l1, h6.out.2.2.2.2.2.below hb7 l2, Nat.le_trans h6.out.1.size hD, by omega, by omega, hk7⟩
          clear hD hb7 hk7 h6
          go_wp2_with fail
          go_loopw [19] (fun i wr => ∃ (m : Nat) (l2 : List UInt8) (q0 q1 : Nat → Int), i = .int .i64 m ∧ m ≤ 3 ∧ Hid (l2.length = li.length ∧ Below w.heap.size w wr ∧ w.heap.size ≤ P ∧ w.heap.size ≤ Q ∧ P ≠ Q ∧ Blk wr P (ncs q0) 51 ∧ Blk wr Q (ncs q1) 51 ∧ w.heap.size ≤ D ∧ P ≠ D ∧ Q ≠ D ∧ Blk wr D (bvs l2) 5)) (fun i _ => 3 - (intOf i).toNat)
          case atStart => exact ⟨0, li, q, q, rfl, by omega, rfl, h7.out⟩
          case round =>
            clear h7
            clear HD1 HD2
            obtain ⟨m, l2, q0, q1, rfl, hm, h8⟩ := hrel
            by_cases hlt3 : m < 3
            · obtain ⟨X, E, hd1, hd2⟩ := dec_both l2
              have HD1 := Lib.hid hd1
              have HD2 := Lib.hid hd2
              clear hd1 hd2
              go_wp2_with fail
              refine (HD1.out (some ⟨D, 0, none⟩) li.length li.length _ h8.out.1 (Nat.le_refl _) (by have := HCI.out; omega) (Bytes.own' h8.out.2.2.2.2.2.2.2.2.2.2)).mono ?_
              rintro e w9 ⟨rfl, hb9⟩
              have h9 : Hid (l2.length = li.length ∧ Below w.heap.size w w9 ∧ w.heap.size ≤ P ∧ w.heap.size ≤ Q ∧ P ≠ Q ∧ Blk w9 P (ncs q0) 51 ∧ Blk w9 Q (ncs q1) 51 ∧ w.heap.size ≤ D ∧ P ≠ D ∧ Q ≠ D ∧ Blk w9 D (bvs l2) 5) := by
                obtain ⟨g1, g2, g3, g4, g5, g6, g7, g8, g9, g10, g11⟩ := h8.out
                exact ⟨g1, g2.trans (hb9.out.mono g2.size), g3, g4, g5, g6.below hb9.out g6.lt, g7.below hb9.out g7.lt, g8, g9, g10, g11.below hb9.out g11.lt⟩
              clear hb9 h8
              have hP1 := h9.out.2.2.2.2.2.1
              go_upto_region 24 with (first | (refine wpList_store_row rfl 51 _ _ rfl P (ncs X) rfl rfl 51 (ncs q0) hP1 (by kernel_rfl) rfl (by kernel_rfl) ?_))
              refine gen_world (fun wr => Hid (l2.length = li.length ∧ Below w.heap.size w wr ∧ w.heap.size ≤ P ∧ w.heap.size ≤ Q ∧ P ≠ Q ∧ Blk wr P (ncs X) 51 ∧ Blk wr Q (ncs q1) 51 ∧ w.heap.size ≤ D ∧ P ≠ D ∧ Q ≠ D ∧ Blk wr D (bvs l2) 5)) ?_ ?_
              · obtain ⟨g1, g2, g3, g4, g5, g6, g7, g8, g9, g10, g11⟩ := h9.out
                have n1 : Q ≠ P := fun e => g5 e.symm
                have n2 : D ≠ P := fun e => g9 e.symm
                have ho := only_row w9 P (ncs X)
                exact ⟨g1, g2.trans (ho.below g3), g3, g4, g5, setRow_heap _ _ _ _ _ _ g6, ho.blk g7 n1, g8, g9, g10, ho.blk g11 n2⟩
              clear hP1 h9 w9
              rintro w9 h9
              go_wp2_with fail
              refine (tight_at (some ⟨D, 0, none⟩) li.length li.length l2 _ h9.out.1 (by have := HCI.out; omega) (Bytes.own' h9.out.2.2.2.2.2.2.2.2.2.2)).mono ?_
              rintro e w10 ⟨T, rfl, hT, hb10, hk10⟩
              have h10 : Hid (l2.length = li.length ∧ Below w.heap.size w w10 ∧ w.heap.size ≤ P ∧ w.heap.size ≤ Q ∧ P ≠ Q ∧ Blk w10 P (ncs X) 51 ∧ Blk w10 Q (ncs q1) 51 ∧ w.heap.size ≤ D ∧ P ≠ D ∧ Q ≠ D ∧ Blk w10 D (bvs l2) 5) := by
                obtain ⟨g1, g2, g3, g4, g5, g6, g7, g8, g9, g10, g11⟩ := h9.out
                exact ⟨g1, g2.trans (hb10.mono g2.size), g3, g4, g5, g6.below hb10 g6.lt, g7.below hb10 g7.lt, g8, g9, g10, g11.below hb10 g11.lt⟩
              have HT := Lib.hid (Bytes.own' hk10)
              clear hT hb10 hk10 h9
              go_wp2_with fail
              refine (HD2.out (some ⟨T, 0, none⟩) li.length li.length _ h10.out.1 (Nat.le_refl _) (by have := HCI.out; omega) HT.out).mono ?_
              rintro e w11 ⟨rfl, hb11⟩
              have h11 : Hid (l2.length = li.length ∧ Below w.heap.size w w11 ∧ w.heap.size ≤ P ∧ w.heap.size ≤ Q ∧ P ≠ Q ∧ Blk w11 P (ncs X) 51 ∧ Blk w11 Q (ncs q1) 51 ∧ w.heap.size ≤ D ∧ P ≠ D ∧ Q ≠ D ∧ Blk w11 D (bvs l2) 5) := by
                obtain ⟨g1, g2, g3, g4, g5, g6, g7, g8, g9, g10, g11⟩ := h10.out
                exact ⟨g1, g2.trans (hb11.out.mono g2.size), g3, g4, g5, g6.below hb11.out g6.lt, g7.below hb11.out g7.lt, g8, g9, g10, g11.below hb11.out g11.lt⟩
              clear hb11 h10 HT
              have hQ1 := h11.out.2.2.2.2.2.2.1
              go_upto_region 25 with (first | (refine wpList_store_row rfl 51 _ _ rfl Q (ncs X) rfl rfl 51 (ncs q1) hQ1 (by kernel_rfl) rfl (by kernel_rfl) ?_))
              refine gen_world (fun wr => Hid (l2.length = li.length ∧ Below w.heap.size w wr ∧ w.heap.size ≤ P ∧ w.heap.size ≤ Q ∧ P ≠ Q ∧ Blk wr P (ncs X) 51 ∧ Blk wr Q (ncs X) 51 ∧ w.heap.size ≤ D ∧ P ≠ D ∧ Q ≠ D ∧ Blk wr D (bvs l2) 5)) ?_ ?_
              · obtain ⟨g1, g2, g3, g4, g5, g6, g7, g8, g9, g10, g11⟩ := h11.out
                have n2 : D ≠ Q := fun e => g10 e.symm
                have ho := only_row w11 Q (ncs X)
                exact ⟨g1, g2.trans (ho.below g4), g3, g4, g5, ho.blk g6 g5, setRow_heap _ _ _ _ _ _ g7, g8, g9, g10, ho.blk g11 n2⟩
              clear hQ1 h11 w11
              rintro w11 h11
              have hm0 : (0 : Int) ≤ 11 * (k : Int) := by omega
              have hm1 : 11 * (k : Int) ≤ 9223372036854775807 := by have := HN.out; omega
              have hP1 := h11.out.2.2.2.2.2.1
              have hQ1 := h11.out.2.2.2.2.2.2.1
              have hne := neq_same X
              go_wp2_with (first | (refine wpList_load_row rfl 51 _ rfl P rfl 51 (ncs X) (0, 0) _ hP1 Try.underlying51 rfl (by kernel_rfl) ?_) | (refine wpList_load_row rfl 51 _ rfl Q rfl 51 (ncs X) (0, 0) _ hQ1 Try.underlying51 rfl (by kernel_rfl) ?_))
              clear hP1 hQ1 hne
              refine (bent_any D li.length li.length l2 (11 * (k : Int)) _ h11.out.1 (.inl hm0) (.inl hm1) (by have := HCI.out; omega) (by have h := h11.out.2.2.2.2.2.2.2.2.2.2; exact h)).mono ?_
              rintro e w12 ⟨b, rfl, h12⟩
              go_wp2_with fail
              obtain ⟨ho, l3, hl3, hk3⟩ := h12.out
              obtain ⟨g1, g2, g3, g4, g5, g6, g7, g8, g9, g10, g11⟩ := h11.out
              exact ⟨⟨m + 1, l3, X, X, by go_num, by omega, hl3, g2.trans (ho.below g8), g3, g4, g5, ho.blk g6 g9, ho.blk g7 g10, g8, g9, g10, hk3⟩, by simp [intOf]; omega⟩
            · go_wp2_with fail
              exact ⟨⟨k + 1, by go_num, by omega, h8.out.2.1⟩, by simp [intOf]; omega⟩
        · go_wp2_with fail
          go_ret
          exact ⟨rfl, HW.out⟩
end Go.Proofs.Ytefmihbjboacdaa.NodesLaw

