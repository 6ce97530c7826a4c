/- CodecNames: Name says of every text what the document's Name says; no condition. -/
import Derived.Test.YtefmihbjboacdaaName
import Derived.Deep.RegionHeld3
import Derived.Lib.SmallJoins
namespace Go.Proofs.Ytefmihbjboacdaa.NamesLaw
open Go.ChangeShapes Go.WideShapes Go.ChangeAt Go.RowKit
open Go.Proofs.Ytefmihbjboacdaa.Kit Go.Proofs.Ytefmihbjboacdaa.Name
set_option linter.unusedVariables false

/-- the cells of a slice of texts -/
def Texts (w : World) (A : Option Addr) (n : Nat) : Prop := ∀ i, i < n → ∃ ad s, A = some ad ∧ w.cell? (ad.add i) = some (.string s)
theorem held_step {w wc w4 : World} {a : Addr} {v : Value} (h : wc.cell? a = some v ∧ Hid (Below w.heap.size w wc)) (hb : Below wc.heap.size wc w4) : w4.cell? a = some v ∧ Hid (Below w.heap.size w w4) :=
  ⟨(hb.cell (World.block_lt_of_cell? wc _ h.1)).trans h.1, h.2.out.trans (hb.mono h.2.out.size)⟩

set_option maxRecDepth 100000 in
set_option maxHeartbeats 1600000 in
theorem law_any (A : Option Addr) (n c : Nat) (w : World) (hn : n ≤ 9223372036854775807) (H : Hid (Texts w A n)) :
    Calls Try.prog 9 #[.slice A n c] w fun e w' => e = .returned (.bool true) ∧ Below w.heap.size w w' := by
  go_enter Try.func9, Try.ntmps9
  go_wp2_with fail
  refine (name_any _ _).mono ?_
  rintro e w1 ⟨rfl, hb1⟩
  rw [show nameErr { data := #[97] } = 0 by decide]
  go_wp2_with fail
  refine (name_any _ _).mono ?_
  rintro e w2 ⟨rfl, hb2⟩
  rw [show nameErr { data := #[] } = 21 by decide]
  have HB := Lib.hid (hb1.out.trans (hb2.out.mono hb1.out.size))
  clear hb1 hb2
  go_wp2_with fail
  go_loopw [3] (fun i wr => ∃ (k : Nat), i = .int .i64 k ∧ k ≤ n ∧ Hid (Below w.heap.size w wr)) (fun i _ => n - (intOf i).toNat)
  case atStart => exact ⟨0, rfl, Nat.zero_le _, HB⟩
  case round =>
    clear HB
    obtain ⟨k, rfl, hk, HW⟩ := hrel
    by_cases hlt : k < n
    · obtain ⟨ad, s, rfl, hc⟩ := H.out k hlt
      rw [← HW.out.cell (World.block_lt_of_cell? w _ hc)] at hc
      obtain ⟨ne, hne⟩ : ∃ x, nameErr s = x := ⟨_, rfl⟩
      have HNE := Lib.hid hne
      clear hne
      go_wp2_with fail
      have hS : wr.cell? (ad.add k) = some (.string s) ∧ Hid (Below w.heap.size w wr) := ⟨hc, HW⟩
      clear HW
      go_region_held3 (fun w' => w'.cell? (ad.add k) = some (.string s) ∧ Hid (Below w.heap.size w w')) (first | assumption | exact ⟨hS.1, hS.2.out.drew⟩) (first | (go_at_call 32; refine (name_any s _).mono ?_; rintro e w4 ⟨rfl, hb4⟩; rw [HNE.out]; have hS4 := held_step (by assumption) hb4.out; clear hb4) | (go_at_call 33; refine (Name.ref_any s _).mono ?_; rintro e w5 ⟨rfl, hb5⟩; rw [HNE.out]; have hS5 := held_step (by assumption) hb5.out; clear hb5))
      have hw : Hid (Below w.heap.size w _) := hS5.2
      clear hS hS4 hS5
      go_wp2_with fail
      exact ⟨⟨k + 1, by go_num, by omega, hw⟩, by simp [intOf]; omega⟩
    · go_wp2_with fail
      go_ret
      exact ⟨rfl, HW.out⟩
end Go.Proofs.Ytefmihbjboacdaa.NamesLaw
