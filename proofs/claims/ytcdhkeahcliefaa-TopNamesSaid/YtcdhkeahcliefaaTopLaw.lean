/- TopNames: the constants' numbers and the errors' words. (The walk of the words is printed by gentop.py.) -/
import Derived.Test.YtcdhkeahcliefaaWords
namespace Go.Proofs.Ytcdhkeahcliefaa.TopLaw
open Go.ChangeShapes Go.WideShapes Go.ChangeAt Go.RowKit
open Go.Proofs.Ytcdhkeahcliefaa.Kit Go.Proofs.Ytcdhkeahcliefaa.Words
set_option linter.unusedVariables false

theorem error_at (e : Int) (s : ByteArray) (w w0 : World) (B : Nat) (h : word e = s) (hb : Hid (Below B w0 w)) (hB : Hid (B ≤ w.heap.size)) : Calls Try.prog 27 #[.int .i64 e] w fun x w' => x = .returned (.string s) ∧ Hid (Below B w0 w') ∧ Hid (B ≤ w'.heap.size) := by
  subst h
  refine (error_any e w).mono ?_
  rintro x w' ⟨rfl, k⟩
  exact ⟨rfl, hb.out.trans (k.out.mono hB.out), Nat.le_trans hB.out k.out.size⟩
set_option maxRecDepth 100000 in
set_option maxHeartbeats 20000000 in
theorem words_any (w : World) : Calls Try.prog 19 #[] w fun e w' => e = .returned (.bool true) ∧ Hid (Below w.heap.size w w') := by
  have HB : Hid (Below w.heap.size w w) := Below.refl _ _
  obtain ⟨B, hB⟩ : ∃ B, w.heap.size = B := ⟨_, rfl⟩
  have HS : Hid (B ≤ w.heap.size) := Nat.le_of_eq hB.symm
  rw [hB] at HB
  rw [hB]
  clear hB
  go_enter Try.func19, Try.ntmps19
  go_wp2_with fail
  refine (error_at (0) ⟨#[111, 107]⟩ _ w B rfl HB HS).mono ?_
  clear HB HS
  rintro e w1 ⟨rfl, HB, HS⟩
  go_wp2_with fail
  refine (error_at (1) ⟨#[97, 114, 103]⟩ _ w B rfl HB HS).mono ?_
  clear HB HS
  rintro e w2 ⟨rfl, HB, HS⟩
  go_wp2_with fail
  refine (error_at (2) ⟨#[108, 101, 110, 103, 116, 104]⟩ _ w B rfl HB HS).mono ?_
  clear HB HS
  rintro e w3 ⟨rfl, HB, HS⟩
  go_wp2_with fail
  refine (error_at (3) ⟨#[100, 101, 97, 100]⟩ _ w B rfl HB HS).mono ?_
  clear HB HS
  rintro e w4 ⟨rfl, HB, HS⟩
  go_wp2_with fail
  refine (error_at (4) ⟨#[101, 110, 100, 101, 100]⟩ _ w B rfl HB HS).mono ?_
  clear HB HS
  rintro e w5 ⟨rfl, HB, HS⟩
  go_wp2_with fail
  refine (error_at (5) ⟨#[98, 117, 115, 121]⟩ _ w B rfl HB HS).mono ?_
  clear HB HS
  rintro e w6 ⟨rfl, HB, HS⟩
  go_wp2_with fail
  refine (error_at (6) ⟨#[99, 111, 114, 114, 117, 112, 116]⟩ _ w B rfl HB HS).mono ?_
  clear HB HS
  rintro e w7 ⟨rfl, HB, HS⟩
  go_wp2_with fail
  refine (error_at (7) ⟨#[108, 111, 110, 103]⟩ _ w B rfl HB HS).mono ?_
  clear HB HS
  rintro e w8 ⟨rfl, HB, HS⟩
  go_wp2_with fail
  refine (error_at (10) ⟨#[115, 101, 99, 116, 111, 114, 115]⟩ _ w B rfl HB HS).mono ?_
  clear HB HS
  rintro e w9 ⟨rfl, HB, HS⟩
  go_wp2_with fail
  refine (error_at (11) ⟨#[114, 97, 110, 103, 101]⟩ _ w B rfl HB HS).mono ?_
  clear HB HS
  rintro e w10 ⟨rfl, HB, HS⟩
  go_wp2_with fail
  refine (error_at (20) ⟨#[102, 105, 101, 108, 100]⟩ _ w B rfl HB HS).mono ?_
  clear HB HS
  rintro e w11 ⟨rfl, HB, HS⟩
  go_wp2_with fail
  refine (error_at (21) ⟨#[110, 97, 109, 101]⟩ _ w B rfl HB HS).mono ?_
  clear HB HS
  rintro e w12 ⟨rfl, HB, HS⟩
  go_wp2_with fail
  refine (error_at (22) ⟨#[103, 101, 111, 109, 101, 116, 114, 121]⟩ _ w B rfl HB HS).mono ?_
  clear HB HS
  rintro e w13 ⟨rfl, HB, HS⟩
  go_wp2_with fail
  refine (error_at (30) ⟨#[116, 111, 114, 110]⟩ _ w B rfl HB HS).mono ?_
  clear HB HS
  rintro e w14 ⟨rfl, HB, HS⟩
  go_wp2_with fail
  refine (error_at (31) ⟨#[115, 116, 97, 108, 101]⟩ _ w B rfl HB HS).mono ?_
  clear HB HS
  rintro e w15 ⟨rfl, HB, HS⟩
  go_wp2_with fail
  refine (error_at (40) ⟨#[102, 117, 108, 108]⟩ _ w B rfl HB HS).mono ?_
  clear HB HS
  rintro e w16 ⟨rfl, HB, HS⟩
  go_wp2_with fail
  refine (error_at (41) ⟨#[119, 111, 114, 110]⟩ _ w B rfl HB HS).mono ?_
  clear HB HS
  rintro e w17 ⟨rfl, HB, HS⟩
  go_wp2_with fail
  refine (error_at (50) ⟨#[98, 117, 100, 103, 101, 116]⟩ _ w B rfl HB HS).mono ?_
  clear HB HS
  rintro e w18 ⟨rfl, HB, HS⟩
  go_wp2_with fail
  refine (error_at (60) ⟨#[110, 111, 115, 112, 97, 99, 101]⟩ _ w B rfl HB HS).mono ?_
  clear HB HS
  rintro e w19 ⟨rfl, HB, HS⟩
  go_wp2_with fail
  refine (error_at (61) ⟨#[110, 111, 110, 111, 100, 101, 115]⟩ _ w B rfl HB HS).mono ?_
  clear HB HS
  rintro e w20 ⟨rfl, HB, HS⟩
  go_wp2_with fail
  refine (error_at (62) ⟨#[102, 114, 101, 101]⟩ _ w B rfl HB HS).mono ?_
  clear HB HS
  rintro e w21 ⟨rfl, HB, HS⟩
  go_wp2_with fail
  refine (error_at (70) ⟨#[110, 111, 100, 101]⟩ _ w B rfl HB HS).mono ?_
  clear HB HS
  rintro e w22 ⟨rfl, HB, HS⟩
  go_wp2_with fail
  refine (error_at (71) ⟨#[111, 119, 110, 101, 100]⟩ _ w B rfl HB HS).mono ?_
  clear HB HS
  rintro e w23 ⟨rfl, HB, HS⟩
  go_wp2_with fail
  refine (error_at (80) ⟨#[98, 105, 103]⟩ _ w B rfl HB HS).mono ?_
  clear HB HS
  rintro e w24 ⟨rfl, HB, HS⟩
  go_wp2_with fail
  refine (error_at (90) ⟨#[115, 116, 101, 112]⟩ _ w B rfl HB HS).mono ?_
  clear HB HS
  rintro e w25 ⟨rfl, HB, HS⟩
  go_wp2_with fail
  refine (error_at (100) ⟨#[110, 111, 116, 102, 111, 117, 110, 100]⟩ _ w B rfl HB HS).mono ?_
  clear HB HS
  rintro e w26 ⟨rfl, HB, HS⟩
  go_wp2_with fail
  refine (error_at (101) ⟨#[101, 120, 105, 115, 116, 115]⟩ _ w B rfl HB HS).mono ?_
  clear HB HS
  rintro e w27 ⟨rfl, HB, HS⟩
  go_wp2_with fail
  refine (error_at (110) ⟨#[112, 97, 116, 104]⟩ _ w B rfl HB HS).mono ?_
  clear HB HS
  rintro e w28 ⟨rfl, HB, HS⟩
  go_wp2_with fail
  refine (error_at (111) ⟨#[110, 111, 116, 100, 105, 114]⟩ _ w B rfl HB HS).mono ?_
  clear HB HS
  rintro e w29 ⟨rfl, HB, HS⟩
  go_wp2_with fail
  refine (error_at (112) ⟨#[108, 111, 111, 112]⟩ _ w B rfl HB HS).mono ?_
  clear HB HS
  rintro e w30 ⟨rfl, HB, HS⟩
  go_wp2_with fail
  refine (error_at (120) ⟨#[119, 111, 114, 107, 101, 114, 115]⟩ _ w B rfl HB HS).mono ?_
  clear HB HS
  rintro e w31 ⟨rfl, HB, HS⟩
  go_wp2_with fail
  refine (error_at (130) ⟨#[111, 112]⟩ _ w B rfl HB HS).mono ?_
  clear HB HS
  rintro e w32 ⟨rfl, HB, HS⟩
  go_wp2_with fail
  refine (error_at (131) ⟨#[105, 115, 100, 105, 114]⟩ _ w B rfl HB HS).mono ?_
  clear HB HS
  rintro e w33 ⟨rfl, HB, HS⟩
  go_wp2_with fail
  refine (error_at (132) ⟨#[110, 111, 116, 101, 109, 112, 116, 121]⟩ _ w B rfl HB HS).mono ?_
  clear HB HS
  rintro e w34 ⟨rfl, HB, HS⟩
  go_wp2_with fail
  refine (error_at (133) ⟨#[108, 105, 110, 107, 115]⟩ _ w B rfl HB HS).mono ?_
  clear HB HS
  rintro e w35 ⟨rfl, HB, HS⟩
  go_wp2_with fail
  refine (error_at (134) ⟨#[105, 110, 115, 105, 100, 101]⟩ _ w B rfl HB HS).mono ?_
  clear HB HS
  rintro e w36 ⟨rfl, HB, HS⟩
  go_wp2_with fail
  refine (error_at (136) ⟨#[110, 111, 116, 108, 105, 110, 107]⟩ _ w B rfl HB HS).mono ?_
  clear HB HS
  rintro e w37 ⟨rfl, HB, HS⟩
  go_wp2_with fail
  refine (error_at (137) ⟨#[110, 111, 116, 104, 101, 108, 100]⟩ _ w B rfl HB HS).mono ?_
  clear HB HS
  rintro e w38 ⟨rfl, HB, HS⟩
  go_wp2_with fail
  refine (error_at (140) ⟨#[104, 97, 110, 100, 108, 101]⟩ _ w B rfl HB HS).mono ?_
  clear HB HS
  rintro e w39 ⟨rfl, HB, HS⟩
  go_wp2_with fail
  refine (error_at (141) ⟨#[109, 111, 100, 101]⟩ _ w B rfl HB HS).mono ?_
  clear HB HS
  rintro e w40 ⟨rfl, HB, HS⟩
  go_wp2_with fail
  refine (error_at (142) ⟨#[109, 97, 110, 121]⟩ _ w B rfl HB HS).mono ?_
  clear HB HS
  rintro e w41 ⟨rfl, HB, HS⟩
  go_wp2_with fail
  refine (error_at (150) ⟨#[97, 114, 99, 104, 105, 118, 101]⟩ _ w B rfl HB HS).mono ?_
  clear HB HS
  rintro e w42 ⟨rfl, HB, HS⟩
  go_wp2_with fail
  refine (error_at (160) ⟨#[119, 111, 114, 100]⟩ _ w B rfl HB HS).mono ?_
  clear HB HS
  rintro e w43 ⟨rfl, HB, HS⟩
  go_wp2_with fail
  refine (error_at (180) ⟨#[112, 97, 116, 99, 104]⟩ _ w B rfl HB HS).mono ?_
  clear HB HS
  rintro e w44 ⟨rfl, HB, HS⟩
  go_wp2_with fail
  refine (error_at (181) ⟨#[98, 97, 115, 101]⟩ _ w B rfl HB HS).mono ?_
  clear HB HS
  rintro e w45 ⟨rfl, HB, HS⟩
  go_wp2_with fail
  refine (error_at (190) ⟨#[112, 97, 116, 116, 101, 114, 110]⟩ _ w B rfl HB HS).mono ?_
  clear HB HS
  rintro e w46 ⟨rfl, HB, HS⟩
  go_wp2_with fail
  refine (error_at (191) ⟨#[113, 117, 101, 114, 121]⟩ _ w B rfl HB HS).mono ?_
  clear HB HS
  rintro e w47 ⟨rfl, HB, HS⟩
  go_wp2_with fail
  refine (error_at (192) ⟨#[100, 101, 101, 112]⟩ _ w B rfl HB HS).mono ?_
  clear HB HS
  rintro e w48 ⟨rfl, HB, HS⟩
  go_wp2_with fail
  refine (error_at (200) ⟨#[115, 101, 115, 115, 105, 111, 110]⟩ _ w B rfl HB HS).mono ?_
  clear HB HS
  rintro e w49 ⟨rfl, HB, HS⟩
  go_wp2_with fail
  refine (error_at (201) ⟨#[119, 97, 105, 116, 115]⟩ _ w B rfl HB HS).mono ?_
  clear HB HS
  rintro e w50 ⟨rfl, HB, HS⟩
  go_wp2_with fail
  refine (error_at (202) ⟨#[100, 101, 97, 100, 108, 111, 99, 107]⟩ _ w B rfl HB HS).mono ?_
  clear HB HS
  rintro e w51 ⟨rfl, HB, HS⟩
  go_wp2_with fail
  refine (error_at (203) ⟨#[108, 111, 99, 107, 115]⟩ _ w B rfl HB HS).mono ?_
  clear HB HS
  rintro e w52 ⟨rfl, HB, HS⟩
  go_wp2_with fail
  refine (error_at (-9223372036854775808) ⟨#[101, 114, 114, 111, 114]⟩ _ w B rfl HB HS).mono ?_
  clear HB HS
  rintro e w53 ⟨rfl, HB, HS⟩
  go_wp2_with fail
  refine (error_at (5) ⟨#[98, 117, 115, 121]⟩ _ w B rfl HB HS).mono ?_
  clear HB HS
  rintro e w54 ⟨rfl, HB, HS⟩
  go_wp2_with fail
  refine (error_at (999) ⟨#[101, 114, 114, 111, 114]⟩ _ w B rfl HB HS).mono ?_
  clear HB HS
  rintro e w55 ⟨rfl, HB, HS⟩
  go_wp2_with fail
  go_ret
  exact ⟨rfl, HB⟩

set_option maxRecDepth 100000 in
theorem true_14 (w : World) : Calls Try.prog 14 #[] w fun e w' => e = .returned (.bool true) ∧ w = w' := by
  go_enter Try.func14, Try.ntmps14
  go_wp2_with fail
  go_ret
  exact ⟨rfl, rfl⟩
set_option maxRecDepth 100000 in
theorem true_15 (w : World) : Calls Try.prog 15 #[] w fun e w' => e = .returned (.bool true) ∧ w = w' := by
  go_enter Try.func15, Try.ntmps15
  go_wp2_with fail
  go_ret
  exact ⟨rfl, rfl⟩
set_option maxRecDepth 100000 in
theorem true_16 (w : World) : Calls Try.prog 16 #[] w fun e w' => e = .returned (.bool true) ∧ w = w' := by
  go_enter Try.func16, Try.ntmps16
  go_wp2_with fail
  go_ret
  exact ⟨rfl, rfl⟩
set_option maxRecDepth 100000 in
theorem true_17 (w : World) : Calls Try.prog 17 #[] w fun e w' => e = .returned (.bool true) ∧ w = w' := by
  go_enter Try.func17, Try.ntmps17
  go_wp2_with fail
  go_ret
  exact ⟨rfl, rfl⟩
set_option maxRecDepth 100000 in
theorem true_18 (w : World) : Calls Try.prog 18 #[] w fun e w' => e = .returned (.bool true) ∧ w = w' := by
  go_enter Try.func18, Try.ntmps18
  go_wp2_with fail
  go_ret
  exact ⟨rfl, rfl⟩
set_option maxRecDepth 100000 in
set_option maxHeartbeats 1600000 in
theorem law_any (w : World) : Calls Try.prog 7 #[] w fun e w' => e = .returned (.bool true) ∧ Below w.heap.size w w' := by
  go_enter Try.func7, Try.ntmps7
  go_wp2_with fail
  refine (true_14 _).mono ?_
  rintro e _ ⟨rfl, rfl⟩
  go_wp2_with fail
  refine (true_15 _).mono ?_
  rintro e _ ⟨rfl, rfl⟩
  go_wp2_with fail
  refine (true_16 _).mono ?_
  rintro e _ ⟨rfl, rfl⟩
  go_wp2_with fail
  refine (true_17 _).mono ?_
  rintro e _ ⟨rfl, rfl⟩
  go_wp2_with fail
  refine (true_18 _).mono ?_
  rintro e _ ⟨rfl, rfl⟩
  go_wp2_with fail
  refine (words_any _).mono ?_
  rintro e w1 ⟨rfl, HB⟩
  go_wp2_with fail
  go_ret
  exact ⟨rfl, HB.out⟩
end Go.Proofs.Ytcdhkeahcliefaa.TopLaw
