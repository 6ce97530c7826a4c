/- A node compared with the empty one; its twelve pointers in a list of their own. -/
import Derived.Test.YtefmihbjboacdaaNodeLay
import Derived.Test.YtefmihbjboacdaaEntryEnc
import Derived.Deep.DeepCutAuto
import Derived.ChangeKeysEq
import Derived.ArgAppend
namespace Go.Proofs.Ytefmihbjboacdaa.NodeEq
open Go.ChangeShapes Go.WideShapes Go.ChangeAt Go.RowKit
open Go.Proofs.Ytefmihbjboacdaa.Kit Go.Proofs.Ytefmihbjboacdaa.Crc Go.Proofs.Ytefmihbjboacdaa.Reads Go.Proofs.Ytefmihbjboacdaa.Copy Go.Proofs.Ytefmihbjboacdaa.Lay Go.Proofs.Ytefmihbjboacdaa.NodeLay Go.Proofs.Ytefmihbjboacdaa.EntryEnc
set_option linter.unusedVariables false

theorem eq_direct (f : Nat → Int) (w : World) : ∃ b : Bool, (b = true → ∀ i, i < 10 → f (5 + i) = 0) ∧ (b = false → ¬ ∀ i, i < 10 → f (5 + i) = 0) ∧ ∀ w, (Op.equalIn 9999 49 (.agg #[.int .i64 (f 5), .int .i64 (f 6), .int .i64 (f 7), .int .i64 (f 8), .int .i64 (f 9), .int .i64 (f 10), .int .i64 (f 11), .int .i64 (f 12), .int .i64 (f 13), .int .i64 (f 14)]) (.agg #[.int .i64 0, .int .i64 0, .int .i64 0, .int .i64 0, .int .i64 0, .int .i64 0, .int .i64 0, .int .i64 0, .int .i64 0, .int .i64 0])).run Try.prog w = .ok b w := by
  obtain ⟨i3, hi3, hc⟩ : ∃ i, Try.prog.info? 3 = some i ∧ Try.prog.cellsOf 3 = 1 := by
    cases h : Try.prog.info? 3 with
    | none => exact absurd h (by intro h; have : (Try.prog.info? 3).isSome = true := by kernel_rfl
                                 rw [h] at this; cases this)
    | some i => exact ⟨i, rfl, by kernel_rfl⟩
  have key : ∀ w, (Op.equalIn 9999 49 (.agg #[.int .i64 (f 5), .int .i64 (f 6), .int .i64 (f 7), .int .i64 (f 8), .int .i64 (f 9), .int .i64 (f 10), .int .i64 (f 11), .int .i64 (f 12), .int .i64 (f 13), .int .i64 (f 14)]) (.agg #[.int .i64 0, .int .i64 0, .int .i64 0, .int .i64 0, .int .i64 0, .int .i64 0, .int .i64 0, .int .i64 0, .int .i64 0, .int .i64 0])).run Try.prog w = .ok (f 5 == 0 && (f 6 == 0 && (f 7 == 0 && (f 8 == 0 && (f 9 == 0 && (f 10 == 0 && (f 11 == 0 && (f 12 == 0 && (f 13 == 0 && f 14 == 0))))))))) w := by
    intro w
    rw [run_equalIn_array w 9998 _ _ Try.underlying49 hi3, hc, show List.range 10 = [0, 1, 2, 3, 4, 5, 6, 7, 8, 9] from rfl]
    simp only [Op.eqItems]
    go_simp
    repeat' split
    all_goals simp_all
  refine ⟨_, fun h i hi => ?_, fun h hall => ?_, key⟩
  · simp only [Bool.and_eq_true, beq_iff_eq] at h
    match i, hi with
    | 0, _ => exact h.1
    | 1, _ => exact h.2.1
    | 2, _ => exact h.2.2.1
    | 3, _ => exact h.2.2.2.1
    | 4, _ => exact h.2.2.2.2.1
    | 5, _ => exact h.2.2.2.2.2.1
    | 6, _ => exact h.2.2.2.2.2.2.1
    | 7, _ => exact h.2.2.2.2.2.2.2.1
    | 8, _ => exact h.2.2.2.2.2.2.2.2.1
    | 9, _ => exact h.2.2.2.2.2.2.2.2.2
    | i + 10, hi => exact absurd hi (by omega)
  · have h5 := hall 0 (by decide)
    have h6 := hall 1 (by decide)
    have h7 := hall 2 (by decide)
    have h8 := hall 3 (by decide)
    have h9 := hall 4 (by decide)
    have h10 := hall 5 (by decide)
    have h11 := hall 6 (by decide)
    have h12 := hall 7 (by decide)
    have h13 := hall 8 (by decide)
    have h14 := hall 9 (by decide)
    simp only [Nat.reduceAdd] at h5 h6 h7 h8 h9 h10 h11 h12 h13 h14
    rw [h5, h6, h7, h8, h9, h10, h11, h12, h13, h14] at h
    exact absurd h (by decide)
theorem eq_node_yes (f : Nat → Int) (hz : NZero f) (w : World) : (binOp .eql 51 (.agg #[.int .i64 (f 0), .int .i64 (f 1), .int .i64 (f 2), .int .i64 (f 3), .int .i64 (f 4), .int .i64 (f 5), .int .i64 (f 6), .int .i64 (f 7), .int .i64 (f 8), .int .i64 (f 9), .int .i64 (f 10), .int .i64 (f 11), .int .i64 (f 12), .int .i64 (f 13), .int .i64 (f 14), .int .i64 (f 15), .int .i64 (f 16)]) (.agg #[.int .i64 0, .int .i64 0, .int .i64 0, .int .i64 0, .int .i64 0, .int .i64 0, .int .i64 0, .int .i64 0, .int .i64 0, .int .i64 0, .int .i64 0, .int .i64 0, .int .i64 0, .int .i64 0, .int .i64 0, .int .i64 0, .int .i64 0])).run Try.prog w = .ok (.bool true) w := by
  simp only [hz 0 (by decide), hz 1 (by decide), hz 2 (by decide), hz 3 (by decide), hz 4 (by decide), hz 5 (by decide), hz 6 (by decide), hz 7 (by decide), hz 8 (by decide), hz 9 (by decide), hz 10 (by decide), hz 11 (by decide), hz 12 (by decide), hz 13 (by decide), hz 14 (by decide), hz 15 (by decide), hz 16 (by decide)]
  kernel_rfl
theorem eq_node_no (f : Nat → Int) (hz : ¬ NZero f) (w : World) : (binOp .eql 51 (.agg #[.int .i64 (f 0), .int .i64 (f 1), .int .i64 (f 2), .int .i64 (f 3), .int .i64 (f 4), .int .i64 (f 5), .int .i64 (f 6), .int .i64 (f 7), .int .i64 (f 8), .int .i64 (f 9), .int .i64 (f 10), .int .i64 (f 11), .int .i64 (f 12), .int .i64 (f 13), .int .i64 (f 14), .int .i64 (f 15), .int .i64 (f 16)]) (.agg #[.int .i64 0, .int .i64 0, .int .i64 0, .int .i64 0, .int .i64 0, .int .i64 0, .int .i64 0, .int .i64 0, .int .i64 0, .int .i64 0, .int .i64 0, .int .i64 0, .int .i64 0, .int .i64 0, .int .i64 0, .int .i64 0, .int .i64 0])).run Try.prog w = .ok (.bool false) w := by
  obtain ⟨b, h1, h2, hd⟩ := eq_direct f w
  go_simp
  have hall : ∀ h0 : f 0 = 0, f 1 = 0 → f 2 = 0 → f 3 = 0 → f 4 = 0 → b = true → f 15 = 0 → f 16 = 0 → False := fun h0 e1 e2 e3 e4 hb e15 e16 => hz (fun k hk => by
    match k, hk with
    | 0, _ => exact h0
    | 1, _ => exact e1
    | 2, _ => exact e2
    | 3, _ => exact e3
    | 4, _ => exact e4
    | k + 5, hk =>
      by_cases hlt : k < 10
      · rw [Nat.add_comm]; exact h1 hb k hlt
      · obtain rfl | rfl : k = 10 ∨ k = 11 := by omega
        · exact e15
        · exact e16)
  exact hall

set_option maxRecDepth 100000 in
set_option maxHeartbeats 1600000 in
theorem fits_zero (f : Nat → Int) (w : World) (hz : NZero f) : Calls Try.prog 58 #[.agg #[.int .i64 (f 0), .int .i64 (f 1), .int .i64 (f 2), .int .i64 (f 3), .int .i64 (f 4), .int .i64 (f 5), .int .i64 (f 6), .int .i64 (f 7), .int .i64 (f 8), .int .i64 (f 9), .int .i64 (f 10), .int .i64 (f 11), .int .i64 (f 12), .int .i64 (f 13), .int .i64 (f 14), .int .i64 (f 15), .int .i64 (f 16)]] w fun e w' => e = .returned (.bool true) ∧ Below w.heap.size w w' := by
  have he := eq_node_yes f hz
  have HZ := Lib.hid hz
  clear hz
  go_enter Try.func58, Try.ntmps58
  go_wp2_with fail
  go_ret
  exact ⟨rfl, (Below.refl _ _).alloc (Nat.le_refl _) _⟩
theorem info3 : (Try.prog.info? 3).map (fun i => (i.zero, i.size, i.bytes)) = some (some (.int .i64 0), 1, 8) := by kernel_rfl
/-- the twelve pointers in a list of its own -/
theorem ptr_append {W : World} {N B ty : Nat} {f : Nat → Int} (hk : Blk W N (ncs f) 51) (hB : Blk W B #[.int .i64 (f 15), .int .i64 (f 16)] 3) :
    ∃ g cap w', (Builtin.append_ #[101, 101] ty #[.slice (some ⟨N, 5, none⟩) 10 10, .slice (some ⟨B, 0, none⟩) 2 2]).run Try.prog W = .ok (.slice (some ⟨g, 0, none⟩) 12 cap) w' ∧ Hid (Below W.heap.size W w') ∧ Hid (∀ i, i < 12 → w'.cell? ⟨g, i, none⟩ = some (.int .i64 (f (5 + i)))) := by
  obtain ⟨i3, hi, hz0, hz1, hz2⟩ := info_parts info3
  have h1 : ∀ j u, ((List.range 10).map fun j => Value.int .i64 (f (5 + j)))[j]? = some u → W.cell? ((⟨N, 5, none⟩ : Addr).add j) = some u := fun j u h => by
    have hj : j < 10 := by
      have := (List.getElem?_eq_some_iff.1 h).1
      simpa using this
    have ha : (⟨N, 5, none⟩ : Addr).add j = ⟨N, 5 + j, none⟩ := by
      unfold Addr.add
      by_cases h0 : j = 0 <;> simp [h0]
    rw [ha, hk.cell, ncs_get f (5 + j) (by omega)]
    simpa [hj] using h
  have h2 : ∀ j u, ([Value.int .i64 (f 15), Value.int .i64 (f 16)])[j]? = some u → W.cell? ((⟨B, 0, none⟩ : Addr).add j) = some u := fun j u h => by
    rw [add_block, hB.cell]
    simpa using h
  obtain ⟨v', w', hr, ho, hg⟩ := run_append_arg_grows (P := Try.prog) W 101 ty 3 i3 (.int .i64 0) 1 8 Try.underlying101 hi hz0 hz1 hz2 rfl (by decide) ⟨N, 5, none⟩ 10 10 _ (by simp) h1 ⟨B, 0, none⟩ 2 2 _ rfl h2 (by decide) (by decide) (by decide)
  obtain ⟨_, h | ⟨g, cap, cur, hv, _, hh, _, _, _, ht⟩⟩ := ho
  · exact absurd h.2 (by decide)
  · refine ⟨g, cap, w', by rw [hr, hv], ⟨hg.os, hg.tape, hg.output, hg.size, fun k hk => hg.block k hk (by simp)⟩, fun i hi => ?_⟩
    have hb : Blk w' g cur 3 := hh
    rw [hb.cell]
    have h3 : ((List.range 10).map (fun j => Value.int .i64 (f (5 + j))) ++ [Value.int .i64 (f 15), Value.int .i64 (f 16)])[i]? = some (.int .i64 (f (5 + i))) := by
      by_cases h10 : i < 10
      · rw [List.getElem?_append_left (by simpa using h10)]
        simp [h10]
      · obtain rfl | rfl : i = 10 ∨ i = 11 := by omega
        · rfl
        · rfl
    rw [← ht, List.getElem?_take, if_pos (by omega)] at h3
    simpa using h3
/-- the first four fields' bounds -/
def B3 (f : Nat → Int) : Prop := (1 ≤ f 0 ∧ f 0 ≤ 3) ∧ (0 ≤ f 1 ∧ f 1 ≤ 64) ∧ (0 ≤ f 3 ∧ f 3 ≤ 8459264) ∧ (0 ≤ f 4 ∧ f 4 ≤ 2048)
instance (f : Nat → Int) : Decidable (B3 f) := by unfold B3; infer_instance
def B5 (f : Nat → Int) : Prop := B3 f ∧ (f 0 = 2 → 1 ≤ f 2 ∧ f 2 ≤ 1024) ∧ (¬ f 0 = 2 → f 2 = 0)
instance (f : Nat → Int) : Decidable (B5 f) := by unfold B5; infer_instance

end Go.Proofs.Ytefmihbjboacdaa.NodeEq
