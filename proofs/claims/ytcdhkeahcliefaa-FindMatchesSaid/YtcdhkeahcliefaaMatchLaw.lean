/- FindMatches: every Match is the document's, of each pattern with each text; no condition. -/
import Derived.Test.YtcdhkeahcliefaaPatMatch
import Derived.Test.YtcdhkeahcliefaaPatRef
import Derived.Deep.RegionHeld3
import Derived.Lib.SmallJoins
namespace Go.Proofs.Ytcdhkeahcliefaa.MatchLaw
open Go.ChangeShapes Go.WideShapes Go.ChangeAt Go.RowKit
open Go.Proofs.Ytcdhkeahcliefaa.Kit Go.Proofs.Ytcdhkeahcliefaa.Pat
set_option linter.unusedVariables false

/-- the cells of a slice of texts -/
def Texts (w : World) (A : Option Addr) (n : Nat) : Prop := ∀ i, i < n → ∃ ad s, A = some ad ∧ w.cell? (ad.add i) = some (.string s)
theorem held_step2 {w wc w4 : World} {a b : Addr} {v u : Value} (h : wc.cell? a = some v ∧ wc.cell? b = some u ∧ Hid (Below w.heap.size w wc)) (hb : Below wc.heap.size wc w4) : w4.cell? a = some v ∧ w4.cell? b = some u ∧ Hid (Below w.heap.size w w4) :=
  ⟨(hb.cell (World.block_lt_of_cell? wc _ h.1)).trans h.1, (hb.cell (World.block_lt_of_cell? wc _ h.2.1)).trans h.2.1, h.2.2.out.trans (hb.mono h.2.2.out.size)⟩
def pat0 : ByteArray := ⟨#[91, 97, 45, 99, 93, 42]⟩
def text0 : ByteArray := ⟨#[98, 122]⟩
theorem run0 : Run pat0 0 [] (some [.set (last false (add (fun _ => false) 97 99)), .star]) := by
  refine .step (p := .set (last false (add (fun _ => false) 97 99))) (j := 5) (by decide) ?_ (.step (p := .star) (j := 6) (by decide) ?_ (.stop (by decide)))
  · have h := Piece.set (s := pat0) (i := 0) (M := add (fun _ => false) 97 99) (e := 4) (by decide) (.step (lo := 97) (hi := 99) (j := 4) (by decide) (by decide) (.stop (by decide)))
    exact h
  · exact .star (by decide) (.stop (by decide))
theorem answer0 : Answer pat0 text0 true 0 := by
  have h := Answer.of (p := pat0) (t := text0) (by decide) run0 (by decide)
  exact h

set_option maxRecDepth 100000 in
set_option maxHeartbeats 1600000 in
theorem law_any (A A' : Option Addr) (n c n' c' : Nat) (w : World) (hn : n ≤ 9223372036854775807) (hn' : n' ≤ 9223372036854775807) (H : Hid (Texts w A n)) (H' : Hid (Texts w A' n')) :
    Calls Try.prog 5 #[.slice A n c, .slice A' n' c'] w fun e w' => e = .returned (.bool true) ∧ Below w.heap.size w w' := by
  go_enter Try.func5, Try.ntmps5
  go_wp2_with fail
  refine (PatMatch.match_any pat0 text0 _).mono ?_
  rintro e w1 ⟨b, x, ha, rfl, hb⟩
  obtain ⟨rfl, rfl⟩ := ha.same answer0
  have HB := Lib.hid hb.out
  clear ha hb
  go_wp2_with fail
  go_loopw [7] (fun i wr => ∃ (k : Nat), i = .int .i64 k ∧ k ≤ n ∧ Hid (Below w.heap.size w wr)) (fun i _ => n - (intOf i).toNat)
  case atStart => exact ⟨0, rfl, Nat.zero_le _, HB⟩
  case round =>
    clear HB
    obtain ⟨k, rfl, hk, HW⟩ := hrel
    by_cases hlt : k < n
    · go_wp2_with fail
      go_loopw [8] (fun i wr => ∃ (q : Nat), i = .int .i64 q ∧ q ≤ n' ∧ Hid (Below w.heap.size w wr)) (fun i _ => n' - (intOf i).toNat)
      case atStart => exact ⟨0, rfl, Nat.zero_le _, HW⟩
      case round =>
        clear HW
        obtain ⟨q, rfl, hq, HW⟩ := hrel
        by_cases hlt' : q < n'
        · obtain ⟨ad, s, rfl, hc⟩ := H.out k hlt
          obtain ⟨ad', s', rfl, hc'⟩ := H'.out q hlt'
          rw [← HW.out.cell (World.block_lt_of_cell? w _ hc)] at hc
          rw [← HW.out.cell (World.block_lt_of_cell? w _ hc')] at hc'
          go_upto_region 10 with (fail)
          have hS : wr.cell? (ad.add k) = some (.string s) ∧ wr.cell? (ad'.add q) = some (.string s') ∧ Hid (Below w.heap.size w wr) := ⟨hc, hc', HW⟩
          clear HW hc hc'
          have b0 : (0 : Int) ≤ (k : Int) := by omega
          have b1 : (k : Int) < (n : Int) := by omega
          have b2 : (0 : Int) ≤ (q : Int) := by omega
          have b3 : (q : Int) < (n' : Int) := by omega
          go_region_held3 (fun w' => w'.cell? (ad.add k) = some (.string s) ∧ w'.cell? (ad'.add q) = some (.string s') ∧ Hid (Below w.heap.size w w')) (first | assumption | exact ⟨hS.1, hS.2.1, hS.2.2.out.drew⟩) (first | (go_at_call 9; refine (PatMatch.match_any s s' _).mono ?_; rintro e w4 ⟨b, x, ha, rfl, hb4⟩; have hS4 := held_step2 (by assumption) hb4.out; have HA := Lib.hid ha; clear hb4 ha))
          go_upto_region 11 with (fail)
          clear hS
          go_region_held3 (fun w' => w'.cell? (ad.add k) = some (.string s) ∧ w'.cell? (ad'.add q) = some (.string s') ∧ Hid (Below w.heap.size w w')) (first | assumption | exact ⟨hS4.1, hS4.2.1, hS4.2.2.out.drew⟩) (first | (go_at_call 10; refine (PatRef.match_any s s' _).mono ?_; rintro e w5 ⟨b2, x2, ha, rfl, hb5⟩; have hS5 := held_step2 (by assumption) hb5.out; obtain ⟨rfl, rfl⟩ := HA.out.same ha; clear hb5 ha))
          have hw : Hid (Below w.heap.size w _) := hS5.2.2
          clear hS4 hS5
          go_wp2_with fail
          exact ⟨⟨q + 1, by go_num, by omega, hw⟩, by simp [intOf]; omega⟩
        · go_wp2_with fail
          exact ⟨⟨k + 1, by go_num, by omega, HW⟩, by simp [intOf]; omega⟩
    · go_wp2_with fail
      go_ret
      exact ⟨rfl, HW.out⟩
end Go.Proofs.Ytcdhkeahcliefaa.MatchLaw
