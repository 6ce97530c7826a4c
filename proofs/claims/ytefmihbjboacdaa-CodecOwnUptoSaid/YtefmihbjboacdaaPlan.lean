/- What the two Plan functions answer, for every geometry: the layout where the geometry fits, ErrGeometry else; both make memory of their own alone. -/
import Derived.Test.YtefmihbjboacdaaFrame
namespace Go.Proofs.Ytefmihbjboacdaa.Plan
open Go.ChangeShapes Go.WideShapes Go.ChangeAt Go.RowKit
set_option linter.unusedVariables false

def planned (a b c : Int) : Value := .tuple #[.agg #[.int .i64 b, .int .i64 (3 + b), .int .i64 (a - (3 + b)), .int .i64 c, .int .i64 (2 + c / 4)], .int .i64 0]
def refused : Value := .tuple #[.agg #[.int .i64 0, .int .i64 0, .int .i64 0, .int .i64 0, .int .i64 0], .int .i64 22]
def Fits (a b c : Int) : Prop := 18 ≤ b ∧ b ≤ 256 ∧ 4 ≤ c ∧ c ≤ 1024 ∧ c % 4 = 0 ∧ a ≤ 2048 ∧ 6 + b + c / 4 ≤ a
instance (a b c : Int) : Decidable (Fits a b c) := by unfold Fits; infer_instance
def answer (a b c : Int) : Value := if Fits a b c then planned a b c else refused
theorem answer_no {a b c : Int} (h : ¬ Fits a b c) : answer a b c = refused := if_neg h
theorem answer_yes {a b c : Int} (h : Fits a b c) : answer a b c = planned a b c := if_pos h

set_option maxHeartbeats 800000 in
theorem plan_b0 (a b c : Int) (w : World) (h1 : b < 18) : Calls Try.prog 15 #[.agg #[.int .i64 a, .int .i64 b, .int .i64 c]] w fun e w' => e = .returned (refused) ∧ Below w.heap.size w w' := by
  go_enter Try.func15, Try.ntmps15
  go_wp2
  refine bodyPost_ret (v := refused) (by simp [results, Try.results15, go_sem, refused]) rfl ⟨rfl, ?_⟩
  repeat (first | exact Below.refl _ _ | refine Below.drew ?_ | refine Below.alloc ?_ (by first | (simp; done) | (simp; omega)) _ | refine Below.setCell ?_ (by first | (simp; done) | (simp; omega)) _)

set_option maxHeartbeats 800000 in
theorem plan_b1 (a b c : Int) (w : World) (h0 : 18 ≤ b) (h1 : 256 < b) : Calls Try.prog 15 #[.agg #[.int .i64 a, .int .i64 b, .int .i64 c]] w fun e w' => e = .returned (refused) ∧ Below w.heap.size w w' := by
  go_enter Try.func15, Try.ntmps15
  go_wp2
  refine bodyPost_ret (v := refused) (by simp [results, Try.results15, go_sem, refused]) rfl ⟨rfl, ?_⟩
  repeat (first | exact Below.refl _ _ | refine Below.drew ?_ | refine Below.alloc ?_ (by first | (simp; done) | (simp; omega)) _ | refine Below.setCell ?_ (by first | (simp; done) | (simp; omega)) _)

set_option maxHeartbeats 800000 in
theorem plan_c0 (a b c : Int) (w : World) (h0 : 18 ≤ b) (h1 : b ≤ 256) (h2 : c < 4) : Calls Try.prog 15 #[.agg #[.int .i64 a, .int .i64 b, .int .i64 c]] w fun e w' => e = .returned (refused) ∧ Below w.heap.size w w' := by
  go_enter Try.func15, Try.ntmps15
  go_wp2
  refine bodyPost_ret (v := refused) (by simp [results, Try.results15, go_sem, refused]) rfl ⟨rfl, ?_⟩
  repeat (first | exact Below.refl _ _ | refine Below.drew ?_ | refine Below.alloc ?_ (by first | (simp; done) | (simp; omega)) _ | refine Below.setCell ?_ (by first | (simp; done) | (simp; omega)) _)

set_option maxHeartbeats 800000 in
theorem plan_c1 (a b c : Int) (w : World) (h0 : 18 ≤ b) (h1 : b ≤ 256) (h2 : 4 ≤ c) (h3 : 1024 < c) : Calls Try.prog 15 #[.agg #[.int .i64 a, .int .i64 b, .int .i64 c]] w fun e w' => e = .returned (refused) ∧ Below w.heap.size w w' := by
  go_enter Try.func15, Try.ntmps15
  go_wp2
  refine bodyPost_ret (v := refused) (by simp [results, Try.results15, go_sem, refused]) rfl ⟨rfl, ?_⟩
  repeat (first | exact Below.refl _ _ | refine Below.drew ?_ | refine Below.alloc ?_ (by first | (simp; done) | (simp; omega)) _ | refine Below.setCell ?_ (by first | (simp; done) | (simp; omega)) _)

set_option maxHeartbeats 800000 in
theorem plan_cm (a b c : Int) (w : World) (h0 : 18 ≤ b) (h1 : b ≤ 256) (h2 : 4 ≤ c) (h3 : c ≤ 1024) (h4 : ((c % 4 : Int) != 0) = true) : Calls Try.prog 15 #[.agg #[.int .i64 a, .int .i64 b, .int .i64 c]] w fun e w' => e = .returned (refused) ∧ Below w.heap.size w w' := by
  go_enter Try.func15, Try.ntmps15
  go_wp2
  refine bodyPost_ret (v := refused) (by simp [results, Try.results15, go_sem, refused]) rfl ⟨rfl, ?_⟩
  repeat (first | exact Below.refl _ _ | refine Below.drew ?_ | refine Below.alloc ?_ (by first | (simp; done) | (simp; omega)) _ | refine Below.setCell ?_ (by first | (simp; done) | (simp; omega)) _)

set_option maxHeartbeats 800000 in
theorem plan_a1 (a b c : Int) (w : World) (h0 : 18 ≤ b) (h1 : b ≤ 256) (h2 : 4 ≤ c) (h3 : c ≤ 1024) (h4 : ((c % 4 : Int) != 0) = false) (h5 : 2048 < a) : Calls Try.prog 15 #[.agg #[.int .i64 a, .int .i64 b, .int .i64 c]] w fun e w' => e = .returned (refused) ∧ Below w.heap.size w w' := by
  go_enter Try.func15, Try.ntmps15
  go_wp2
  refine bodyPost_ret (v := refused) (by simp [results, Try.results15, go_sem, refused]) rfl ⟨rfl, ?_⟩
  repeat (first | exact Below.refl _ _ | refine Below.drew ?_ | refine Below.alloc ?_ (by first | (simp; done) | (simp; omega)) _ | refine Below.setCell ?_ (by first | (simp; done) | (simp; omega)) _)

set_option maxHeartbeats 800000 in
theorem plan_a0 (a b c : Int) (w : World) (h0 : 18 ≤ b) (h1 : b ≤ 256) (h2 : 4 ≤ c) (h3 : c ≤ 1024) (h4 : ((c % 4 : Int) != 0) = false) (h5 : a ≤ 2048) (h6 : a < 6 + b + c / 4) : Calls Try.prog 15 #[.agg #[.int .i64 a, .int .i64 b, .int .i64 c]] w fun e w' => e = .returned (refused) ∧ Below w.heap.size w w' := by
  go_enter Try.func15, Try.ntmps15
  go_wp2
  refine bodyPost_ret (v := refused) (by simp [results, Try.results15, go_sem, refused]) rfl ⟨rfl, ?_⟩
  repeat (first | exact Below.refl _ _ | refine Below.drew ?_ | refine Below.alloc ?_ (by first | (simp; done) | (simp; omega)) _ | refine Below.setCell ?_ (by first | (simp; done) | (simp; omega)) _)

set_option maxHeartbeats 800000 in
theorem plan_ok (a b c : Int) (w : World) (h0 : 18 ≤ b) (h1 : b ≤ 256) (h2 : 4 ≤ c) (h3 : c ≤ 1024) (h4 : ((c % 4 : Int) != 0) = false) (h5 : a ≤ 2048) (h6 : 6 + b + c / 4 ≤ a) : Calls Try.prog 15 #[.agg #[.int .i64 a, .int .i64 b, .int .i64 c]] w fun e w' => e = .returned (planned a b c) ∧ Below w.heap.size w w' := by
  go_enter Try.func15, Try.ntmps15
  go_wp2
  refine bodyPost_ret (v := planned a b c) (by simp [results, Try.results15, go_sem, planned]) rfl ⟨rfl, ?_⟩
  repeat (first | exact Below.refl _ _ | refine Below.drew ?_ | refine Below.alloc ?_ (by first | (simp; done) | (simp; omega)) _ | refine Below.setCell ?_ (by first | (simp; done) | (simp; omega)) _)

theorem plan_any (a b c : Int) (w : World) : Calls Try.prog 15 #[.agg #[.int .i64 a, .int .i64 b, .int .i64 c]] w fun e w' => e = .returned (answer a b c) ∧ Below w.heap.size w w' := by
  by_cases h0 : 18 ≤ b
  case neg => rw [answer_no (by unfold Fits; omega)]; exact plan_b0 a b c w (by omega)
  by_cases h1 : b ≤ 256
  case neg => rw [answer_no (by unfold Fits; omega)]; exact plan_b1 a b c w h0 (by omega)
  by_cases h2 : 4 ≤ c
  case neg => rw [answer_no (by unfold Fits; omega)]; exact plan_c0 a b c w h0 h1 (by omega)
  by_cases h3 : c ≤ 1024
  case neg => rw [answer_no (by unfold Fits; omega)]; exact plan_c1 a b c w h0 h1 h2 (by omega)
  by_cases h4 : c % 4 = 0
  case neg => rw [answer_no (by unfold Fits; omega)]; exact plan_cm a b c w h0 h1 h2 h3 (bne_iff_ne.2 h4)
  by_cases h5 : a ≤ 2048
  case neg => rw [answer_no (by unfold Fits; omega)]; exact plan_a1 a b c w h0 h1 h2 h3 (bne_eq_false_iff_eq.2 h4) (by omega)
  by_cases h6 : 6 + b + c / 4 ≤ a
  case neg => rw [answer_no (by unfold Fits; omega)]; exact plan_a0 a b c w h0 h1 h2 h3 (bne_eq_false_iff_eq.2 h4) h5 (by omega)
  rw [answer_yes ⟨h0, h1, h2, h3, h4, h5, h6⟩]
  exact plan_ok a b c w h0 h1 h2 h3 (bne_eq_false_iff_eq.2 h4) h5 h6

set_option maxHeartbeats 800000 in
theorem ref_b0 (a b c : Int) (w : World) (h1 : b < 18) : Calls Try.prog 16 #[.agg #[.int .i64 a, .int .i64 b, .int .i64 c]] w fun e w' => e = .returned (refused) ∧ Below w.heap.size w w' := by
  go_enter Try.func16, Try.ntmps16
  go_wp2
  refine bodyPost_ret (v := refused) (by simp [results, Try.results16, go_sem, refused]) rfl ⟨rfl, ?_⟩
  repeat (first | exact Below.refl _ _ | refine Below.drew ?_ | refine Below.alloc ?_ (by first | (simp; done) | (simp; omega)) _ | refine Below.setCell ?_ (by first | (simp; done) | (simp; omega)) _)

set_option maxHeartbeats 800000 in
theorem ref_b1 (a b c : Int) (w : World) (h0 : 18 ≤ b) (h1 : 256 < b) : Calls Try.prog 16 #[.agg #[.int .i64 a, .int .i64 b, .int .i64 c]] w fun e w' => e = .returned (refused) ∧ Below w.heap.size w w' := by
  go_enter Try.func16, Try.ntmps16
  go_wp2
  refine bodyPost_ret (v := refused) (by simp [results, Try.results16, go_sem, refused]) rfl ⟨rfl, ?_⟩
  repeat (first | exact Below.refl _ _ | refine Below.drew ?_ | refine Below.alloc ?_ (by first | (simp; done) | (simp; omega)) _ | refine Below.setCell ?_ (by first | (simp; done) | (simp; omega)) _)

set_option maxHeartbeats 800000 in
theorem ref_c0 (a b c : Int) (w : World) (h0 : 18 ≤ b) (h1 : b ≤ 256) (h2 : c < 4) : Calls Try.prog 16 #[.agg #[.int .i64 a, .int .i64 b, .int .i64 c]] w fun e w' => e = .returned (refused) ∧ Below w.heap.size w w' := by
  go_enter Try.func16, Try.ntmps16
  go_wp2
  refine bodyPost_ret (v := refused) (by simp [results, Try.results16, go_sem, refused]) rfl ⟨rfl, ?_⟩
  repeat (first | exact Below.refl _ _ | refine Below.drew ?_ | refine Below.alloc ?_ (by first | (simp; done) | (simp; omega)) _ | refine Below.setCell ?_ (by first | (simp; done) | (simp; omega)) _)

set_option maxHeartbeats 800000 in
theorem ref_c1 (a b c : Int) (w : World) (h0 : 18 ≤ b) (h1 : b ≤ 256) (h2 : 4 ≤ c) (h3 : 1024 < c) : Calls Try.prog 16 #[.agg #[.int .i64 a, .int .i64 b, .int .i64 c]] w fun e w' => e = .returned (refused) ∧ Below w.heap.size w w' := by
  go_enter Try.func16, Try.ntmps16
  go_wp2
  refine bodyPost_ret (v := refused) (by simp [results, Try.results16, go_sem, refused]) rfl ⟨rfl, ?_⟩
  repeat (first | exact Below.refl _ _ | refine Below.drew ?_ | refine Below.alloc ?_ (by first | (simp; done) | (simp; omega)) _ | refine Below.setCell ?_ (by first | (simp; done) | (simp; omega)) _)

set_option maxHeartbeats 800000 in
theorem ref_cm (a b c : Int) (w : World) (h0 : 18 ≤ b) (h1 : b ≤ 256) (h2 : 4 ≤ c) (h3 : c ≤ 1024) (h4 : ((c % 4 : Int) != 0) = true) : Calls Try.prog 16 #[.agg #[.int .i64 a, .int .i64 b, .int .i64 c]] w fun e w' => e = .returned (refused) ∧ Below w.heap.size w w' := by
  go_enter Try.func16, Try.ntmps16
  go_wp2
  refine bodyPost_ret (v := refused) (by simp [results, Try.results16, go_sem, refused]) rfl ⟨rfl, ?_⟩
  repeat (first | exact Below.refl _ _ | refine Below.drew ?_ | refine Below.alloc ?_ (by first | (simp; done) | (simp; omega)) _ | refine Below.setCell ?_ (by first | (simp; done) | (simp; omega)) _)

set_option maxHeartbeats 800000 in
theorem ref_a1 (a b c : Int) (w : World) (h0 : 18 ≤ b) (h1 : b ≤ 256) (h2 : 4 ≤ c) (h3 : c ≤ 1024) (h4 : ((c % 4 : Int) != 0) = false) (h5 : 2048 < a) : Calls Try.prog 16 #[.agg #[.int .i64 a, .int .i64 b, .int .i64 c]] w fun e w' => e = .returned (refused) ∧ Below w.heap.size w w' := by
  go_enter Try.func16, Try.ntmps16
  go_wp2
  refine bodyPost_ret (v := refused) (by simp [results, Try.results16, go_sem, refused]) rfl ⟨rfl, ?_⟩
  repeat (first | exact Below.refl _ _ | refine Below.drew ?_ | refine Below.alloc ?_ (by first | (simp; done) | (simp; omega)) _ | refine Below.setCell ?_ (by first | (simp; done) | (simp; omega)) _)

set_option maxHeartbeats 800000 in
theorem ref_a0 (a b c : Int) (w : World) (h0 : 18 ≤ b) (h1 : b ≤ 256) (h2 : 4 ≤ c) (h3 : c ≤ 1024) (h4 : ((c % 4 : Int) != 0) = false) (h5 : a ≤ 2048) (h6 : a < 6 + b + c / 4) : Calls Try.prog 16 #[.agg #[.int .i64 a, .int .i64 b, .int .i64 c]] w fun e w' => e = .returned (refused) ∧ Below w.heap.size w w' := by
  go_enter Try.func16, Try.ntmps16
  go_wp2
  refine bodyPost_ret (v := refused) (by simp [results, Try.results16, go_sem, refused]) rfl ⟨rfl, ?_⟩
  repeat (first | exact Below.refl _ _ | refine Below.drew ?_ | refine Below.alloc ?_ (by first | (simp; done) | (simp; omega)) _ | refine Below.setCell ?_ (by first | (simp; done) | (simp; omega)) _)

set_option maxHeartbeats 800000 in
theorem ref_ok (a b c : Int) (w : World) (h0 : 18 ≤ b) (h1 : b ≤ 256) (h2 : 4 ≤ c) (h3 : c ≤ 1024) (h4 : ((c % 4 : Int) != 0) = false) (h5 : a ≤ 2048) (h6 : 6 + b + c / 4 ≤ a) : Calls Try.prog 16 #[.agg #[.int .i64 a, .int .i64 b, .int .i64 c]] w fun e w' => e = .returned (planned a b c) ∧ Below w.heap.size w w' := by
  go_enter Try.func16, Try.ntmps16
  go_wp2
  refine bodyPost_ret (v := planned a b c) (by simp [results, Try.results16, go_sem, planned] <;> omega) rfl ⟨rfl, ?_⟩
  repeat (first | exact Below.refl _ _ | refine Below.drew ?_ | refine Below.alloc ?_ (by first | (simp; done) | (simp; omega)) _ | refine Below.setCell ?_ (by first | (simp; done) | (simp; omega)) _)

theorem ref_any (a b c : Int) (w : World) : Calls Try.prog 16 #[.agg #[.int .i64 a, .int .i64 b, .int .i64 c]] w fun e w' => e = .returned (answer a b c) ∧ Below w.heap.size w w' := by
  by_cases h0 : 18 ≤ b
  case neg => rw [answer_no (by unfold Fits; omega)]; exact ref_b0 a b c w (by omega)
  by_cases h1 : b ≤ 256
  case neg => rw [answer_no (by unfold Fits; omega)]; exact ref_b1 a b c w h0 (by omega)
  by_cases h2 : 4 ≤ c
  case neg => rw [answer_no (by unfold Fits; omega)]; exact ref_c0 a b c w h0 h1 (by omega)
  by_cases h3 : c ≤ 1024
  case neg => rw [answer_no (by unfold Fits; omega)]; exact ref_c1 a b c w h0 h1 h2 (by omega)
  by_cases h4 : c % 4 = 0
  case neg => rw [answer_no (by unfold Fits; omega)]; exact ref_cm a b c w h0 h1 h2 h3 (bne_iff_ne.2 h4)
  by_cases h5 : a ≤ 2048
  case neg => rw [answer_no (by unfold Fits; omega)]; exact ref_a1 a b c w h0 h1 h2 h3 (bne_eq_false_iff_eq.2 h4) (by omega)
  by_cases h6 : 6 + b + c / 4 ≤ a
  case neg => rw [answer_no (by unfold Fits; omega)]; exact ref_a0 a b c w h0 h1 h2 h3 (bne_eq_false_iff_eq.2 h4) h5 (by omega)
  rw [answer_yes ⟨h0, h1, h2, h3, h4, h5, h6⟩]
  exact ref_ok a b c w h0 h1 h2 h3 (bne_eq_false_iff_eq.2 h4) h5 h6

end Go.Proofs.Ytefmihbjboacdaa.Plan
