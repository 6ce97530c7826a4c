/- CodecSums: every Sum is the document's; the lists stay as they are; no condition. -/
import Derived.Test.YtefmihbjboacdaaCopy
import Derived.Test.YtefmihbjboacdaaRefSum
import Derived.Deep.RegionHeld3
import Derived.Lib.SlBytesConst
import Derived.Lib.SmallJoins
namespace Go.Proofs.Ytefmihbjboacdaa.SumsLaw
open Go.ChangeShapes Go.WideShapes Go.ChangeAt Go.RowKit
open Go.Proofs.Ytefmihbjboacdaa.Kit Go.Proofs.Ytefmihbjboacdaa.Crc Go.Proofs.Ytefmihbjboacdaa.Reads Go.Proofs.Ytefmihbjboacdaa.Copy Go.Proofs.Ytefmihbjboacdaa.Sum Go.Proofs.Ytefmihbjboacdaa.RefSum
set_option linter.unusedVariables false

def digits : List UInt8 := [49, 50, 51, 52, 53, 54, 55, 56, 57]
theorem sum_digits : sum digits = 3808858755 := by decide +kernel
theorem sum_nil : sum [] = 0 := by decide +kernel

def digitCells : Array Value := #[.int .u8 49, .int .u8 50, .int .u8 51, .int .u8 52, .int .u8 53, .int .u8 54, .int .u8 55, .int .u8 56, .int .u8 57]
theorem digits_cells : bvs digits = digitCells := rfl
theorem digits_lie (w : World) : Bytes (w.alloc (.cells digitCells 5 (9, 10))) (some ⟨w.heap.size, 0, none⟩) digits := fun i hi => by
  refine ⟨_, rfl, ?_⟩
  rw [add_block, World.cell?_alloc_mark, ← digits_cells, bvs_get _ _ hi]

theorem sum_at (A : Option Addr) (n c : Nat) (l : List UInt8) (w : World) (hl : l.length = n) (hn : n ≤ 9223372036854775807) (H : Hid (Bytes w A l)) :
    Calls Try.prog 17 #[.slice A n c] w fun e w' => e = .returned (.int .i64 (sum l)) ∧ Below w.heap.size w w' := by
  subst hl
  exact sum_any A c l w hn H
theorem ref_at (A : Option Addr) (n c : Nat) (l : List UInt8) (w : World) (hl : l.length = n) (hn : n ≤ 9223372036854775807) (H : Hid (Bytes w A l)) :
    Calls Try.prog 19 #[.slice A n c] w fun e w' => e = .returned (.int .i64 (sum l)) ∧ w = w' := by
  subst hl
  exact ref_any A c l w hn H
/-- what a region of the law holds on to -/
theorem held_step {w wc w4 : World} {a : Addr} {v : Value} {B : Nat} {cs : Array Value} (h : wc.cell? a = some v ∧ Hid (Below w.heap.size w wc) ∧ Hid (Blk wc B cs 5)) (hb : Below wc.heap.size wc w4) :
    w4.cell? a = some v ∧ Hid (Below w.heap.size w w4) ∧ Hid (Blk w4 B cs 5) :=
  ⟨(hb.cell (World.block_lt_of_cell? wc _ h.1)).trans h.1, h.2.1.out.trans (hb.mono h.2.1.out.size), h.2.2.out.below hb h.2.2.out.lt⟩
theorem held_own {w wc : World} {a : Addr} {v : Value} {B : Nat} {l r : List UInt8} (h : wc.cell? a = some v ∧ Hid (Below w.heap.size w wc) ∧ Hid (Blk wc B (bvs (l ++ r)) 5)) : Bytes wc (some ⟨B, 0, none⟩) l := Bytes.own h.2.2.out
theorem held_arg {w wc : World} {a : Addr} {v : Value} {B : Nat} {cs : Array Value} {A : Option Addr} {l : List UInt8} (h : wc.cell? a = some v ∧ Hid (Below w.heap.size w wc) ∧ Hid (Blk wc B cs 5)) (hA : Bytes w A l) : Bytes wc A l := hA.below h.2.1.out
theorem held_blk {w wc : World} {a : Addr} {v : Value} {B : Nat} {cs : Array Value} (h : wc.cell? a = some v ∧ Hid (Below w.heap.size w wc) ∧ Hid (Blk wc B cs 5)) : Blk wc B cs 5 := h.2.2.out

set_option maxRecDepth 100000 in
set_option maxHeartbeats 1600000 in
theorem law_any (A : Option Addr) (n c : Nat) (w : World) (hn : n ≤ 9223372036854775807) (hn7 : n * 24 ≤ 140737488351232) (H : Hid (Lists w A n)) :
    Calls Try.prog 5 #[.slice A n c] w fun e w' => e = .returned (.bool true) ∧ Below w.heap.size w w' := by
  have HN := Lib.hid hn7
  clear hn7
  have hcv := Lib.run_convert_bytes_const (P := Try.prog) w 34 5 digitCells 9 9 Try.underlying34 Try.underlying5
  unfold digitCells at hcv
  go_enter Try.func5, Try.ntmps5
  go_wp2_with fail
  refine (sum_any (some ⟨w.heap.size, 0, none⟩) 9 digits _ (by decide) ?_).mono ?_
  · exact digits_lie w
  rw [sum_digits]
  rintro e w1 ⟨rfl, hb⟩
  have HB := Lib.hid (((Below.refl w.heap.size w).alloc (Nat.le_refl _) _).trans (hb.mono (by simp)))
  clear hb
  go_wp2_with fail
  refine (sum_any none 0 [] _ (by decide) (Bytes.nil _ _)).mono ?_
  rw [sum_nil]
  rintro e w2 ⟨rfl, hb⟩
  have HB2 := Lib.hid (HB.out.trans (hb.mono HB.out.size))
  clear hb HB
  go_wp2_with fail
  go_loopw [3] (fun i wr => ∃ (k : Nat), i = .int .i64 k ∧ k ≤ n ∧ Hid (Below w.heap.size w wr)) (fun i _ => n - (intOf i).toNat)
  case atStart => exact ⟨0, rfl, Nat.zero_le _, HB2⟩
  case round =>
    clear HB2
    obtain ⟨k, rfl, hk, HW⟩ := hrel
    by_cases hlt : k < n
    · obtain ⟨ad, Ai, ci, li, rfl, hc, hle, hci, hby⟩ := H.out k hlt
      have HC := Lib.hid hc
      have HBY := Lib.hid hby
      have HCI := Lib.hid (And.intro hle hci)
      clear hby hle hci
      rw [← HW.out.cell (World.block_lt_of_cell? w _ hc)] at hc
      go_wp2_with fail
      refine (twin_any Ai ci li 5 _ (by have := HCI.out; omega) (by decide) (HBY.out.below (HW.out.mono (Nat.le_refl _)))).mono ?_
      clear hc
      rintro e w3 ⟨B, rfl, hB, hb3, hk3⟩
      have HK3 := Lib.hid hk3
      have HW3 := Lib.hid (HW.out.trans (hb3.mono HW.out.size))
      have HLB := Lib.hid (Nat.le_trans HW.out.size hB)
      clear hB hb3 hk3
      have hc3 := (HW3.out.cell (World.block_lt_of_cell? w _ HC.out)).trans HC.out
      go_wp2_with fail
      clear hc3
      have l1 : li.length ≤ 9223372036854775807 := by have := HCI.out; omega
      have l2 : li.length ≤ 140737488351232 := by have := HCI.out; omega
      have L1 := Lib.hid l1
      have L2 := Lib.hid l2
      clear l1 l2
      have hS : w3.cell? (ad.add k) = some (.slice Ai li.length ci) ∧ Hid (Below w.heap.size w w3) ∧ Hid (Blk w3 B (bvs (li ++ List.replicate 5 0xA5)) 5) := ⟨(HW3.out.cell (World.block_lt_of_cell? w _ HC.out)).trans HC.out, HW3, HK3⟩
      clear HW3 HK3
      go_region_held3 (fun w' => w'.cell? (ad.add k) = some (.slice Ai li.length ci) ∧ Hid (Below w.heap.size w w') ∧ Hid (Blk w' B (bvs (li ++ List.replicate 5 0xA5)) 5))
        (first | assumption | exact ⟨hS.1, hS.2.1.drew, hS.2.2.drew⟩)
        (first | (go_at_call 17; refine (sum_any (some ⟨B, 0, none⟩) (li.length + 5) li _ L1.out (by exact held_own (w := w) (r := List.replicate 5 0xA5) (by assumption))).mono ?_; rintro e w4 ⟨rfl, hb4⟩; have hS4 := held_step (by assumption) hb4; clear hb4) | (go_at_call 19; refine (ref_any Ai ci li _ L1.out (by exact held_arg (w := w) (B := B) (by assumption) HBY.out)).mono ?_; rintro e w5 ⟨rfl, rfl⟩) | (go_at_call 20; refine (whole_any Ai ci B li 5 _ L2.out (by decide) (by exact held_arg (w := w) (B := B) (by assumption) HBY.out) (by exact held_blk (w := w) (by assumption))).mono ?_; rintro e w6 ⟨rfl, hb6⟩; have hS6 := held_step (by assumption) (hb6.below _); clear hb6))
      clear hS hS4
      have hw6 : Hid (Below w.heap.size w w6) := hS6.2.1
      go_wp2_with fail
      clear hS6
      refine (tight_any Ai ci li _ L2.out (HBY.out.below hw6.out)).mono ?_
      rintro e w7 ⟨D, rfl, hD, hb7, hk7⟩
      have HW7 := Lib.hid (hw6.out.trans (hb7.mono hw6.out.size))
      have HD := Lib.hid (Nat.le_trans hw6.out.size hD)
      have HK7 := Lib.hid hk7
      clear hw6 hD hb7 hk7
      go_wp2_with fail
      go_loopw [6] (fun i wr => ∃ (m : Nat) (l2 : List UInt8), i = .int .i64 m ∧ m ≤ 4 ∧ Hid (l2.length = li.length) ∧ Hid (Blk wr D (bvs l2) 5) ∧ Hid (Below w.heap.size w wr)) (fun i _ => 4 - (intOf i).toNat)
      case atStart => exact ⟨0, li, rfl, by omega, rfl, HK7, HW7⟩
      case round =>
        obtain ⟨m, l2, rfl, hm, HL2, HK8, HW8⟩ := hrel
        clear HK7 HW7
        by_cases hlt4 : m < 4
        · go_wp2_with fail
          refine (sum_at (some ⟨D, 0, none⟩) li.length li.length l2 _ HL2.out L1.out (Bytes.own' HK8.out)).mono ?_
          rintro e w9 ⟨rfl, hb9⟩
          have HK9 := Lib.hid (HK8.out.below hb9 HK8.out.lt)
          have HW9 := Lib.hid (HW8.out.trans (hb9.mono HW8.out.size))
          clear hb9
          go_wp2_with fail
          refine (ref_at (some ⟨D, 0, none⟩) li.length li.length l2 _ HL2.out L1.out (Bytes.own' HK9.out)).mono ?_
          rintro e w10 ⟨rfl, rfl⟩
          have h7 : 7 * (k : Int) ≤ 9223372036854775807 := by have := HN.out; omega
          have h70 : (0 : Int) ≤ 7 * (k : Int) := by omega
          by_cases hm2 : m < 2
          · go_wp2_with fail
            refine (bent_any D li.length li.length l2 (7 * (k : Int)) _ HL2.out (.inl h70) (.inl h7) L1.out HK9).mono ?_
            rintro e w11 ⟨b, rfl, h11⟩
            go_wp2_with fail
            obtain ⟨ho, l3, hl3, hk3⟩ := h11.out
            exact ⟨⟨m + 1, l3, by go_num, by omega, hl3, hk3, HW9.out.trans (ho.below HD.out)⟩, by simp [intOf]; omega⟩
          · have L1' := L1.out
            go_wp2_with fail
            refine (bent_any D li.length li.length l2 ((li.length : Int) - 1) _ HL2.out (by omega) (by omega) L1.out HK9).mono ?_
            rintro e w11 ⟨b, rfl, h11⟩
            go_wp2_with fail
            obtain ⟨ho, l3, hl3, hk3⟩ := h11.out
            exact ⟨⟨m + 1, l3, by go_num, by omega, hl3, hk3, HW9.out.trans (ho.below HD.out)⟩, by simp [intOf]; omega⟩
        · go_wp2_with fail
          exact ⟨⟨k + 1, by go_num, by omega, HW8⟩, by simp [intOf]; omega⟩
    · go_wp2_with fail
      go_ret
      exact ⟨rfl, HW.out⟩
end Go.Proofs.Ytefmihbjboacdaa.SumsLaw
