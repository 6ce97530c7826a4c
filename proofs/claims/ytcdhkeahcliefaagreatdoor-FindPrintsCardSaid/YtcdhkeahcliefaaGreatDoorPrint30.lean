/- The document's operand. -/
import Derived.Test.YtcdhkeahcliefaaGreatDoorPrint29
import Derived.Test.YtcdhkeahcliefaaGreatDoorPrint11
import Derived.Test.YtcdhkeahcliefaaGreatDoorPrint09
import Derived.Test.YtcdhkeahcliefaaGreatDoorPrint25
namespace Go.Proofs.YtcdhkeahcliefaaGreatDoor.RefC
open Go.ChangeShapes Go.WideShapes Go.ChangeAt Go.RowKit
open Go.Proofs.YtcdhkeahcliefaaGreatDoor.Kit Go.Proofs.YtcdhkeahcliefaaGreatDoor.Base Go.Proofs.YtcdhkeahcliefaaGreatDoor.Term Go.Proofs.YtcdhkeahcliefaaGreatDoor.Syn Go.Proofs.YtcdhkeahcliefaaGreatDoor.TokB Go.Proofs.YtcdhkeahcliefaaGreatDoor.TokC Go.Proofs.YtcdhkeahcliefaaGreatDoor.TokE Go.Proofs.YtcdhkeahcliefaaGreatDoor.Path Go.Proofs.YtcdhkeahcliefaaGreatDoor.PathB Go.Proofs.YtcdhkeahcliefaaGreatDoor.RefA
set_option linter.unusedVariables false

def litc (L : List W) : Array Value := (L.map fun y => .string (str y)).toArray
theorem lit_strs (w : World) (L : List W) : Strs (w.alloc (.cells (litc L) 9)) (some ⟨w.heap.size, 0, none⟩) (L.map str) := fun i hi => by
  refine ⟨_, rfl, ?_⟩
  have hi2 : i < L.length := by simpa using hi
  rw [add_block, (Blk.new w _ _).cell]
  simp [litc, hi2]
theorem lit_no (x : W) (L : List W) (hx : x ∉ L) (hL : L.length ≤ 100) (W1 : World) : Calls Tryz.prog 40 #[.string (str x), .slice (some ⟨W1.heap.size, 0, none⟩) L.length L.length] (W1.alloc (.cells (litc L) 9)) fun e w' => e = .returned (.bool false) ∧ w' = W1.alloc (.cells (litc L) 9) := by
  refine (is_any x L _ L.length _ (lit_strs W1 L) hL).mono ?_
  rintro e w' ⟨rfl, rfl⟩
  exact ⟨by rw [decide_eq_false hx], rfl⟩
theorem lit_yes (x : W) (L : List W) (hx : x ∈ L) (hL : L.length ≤ 100) (W1 : World) : Calls Tryz.prog 40 #[.string (str x), .slice (some ⟨W1.heap.size, 0, none⟩) L.length L.length] (W1.alloc (.cells (litc L) 9)) fun e w' => e = .returned (.bool true) ∧ w' = W1.alloc (.cells (litc L) 9) := by
  refine (is_any x L _ L.length _ (lit_strs W1 L) hL).mono ?_
  rintro e w' ⟨rfl, rfl⟩
  exact ⟨by rw [decide_eq_true hx], rfl⟩
def S1 : List W := [[97, 108, 108], [101, 109, 112, 116, 121], [115, 112, 97, 114, 115, 101]]
def S2 : List W := [[115, 105, 122, 101], [111, 119, 110, 101, 100], [108, 105, 110, 107, 115], [110, 111, 100, 101], [100, 101, 112, 116, 104]]
def KD : List W := [[102, 105, 108, 101], [100, 105, 114], [108, 105, 110, 107]]
def S3 : List W := [[110, 97, 109, 101], [112, 97, 116, 104], [116, 97, 114, 103, 101, 116]]
def S4 : List W := [[117, 110, 100, 101, 114], [115, 97, 109, 101]]
def S5 : List W := [[104, 111, 108, 100, 115], [98, 101, 103, 105, 110, 115]]
theorem field_mem (x : W) : isField x = decide (x ∈ S2) := by
  unfold isField
  show fields.contains x = decide (x ∈ fields)
  exact List.contains_eq_mem x fields
/-- what operand answers: of the word x, the words r behind it -/
def OpPost (x : W) (r : List W) (w : World) (e : Ending) (w' : World) : Prop :=
  Hid (Below w.heap.size w w') ∧ ((∃ t k, leaf x r = .ok (t, k) ∧ e = .returned (.tuple #[.int .i64 0, .int .i64 (k : Nat)])) ∨ (∃ er m, leaf x r = .error er ∧ er ≠ 0 ∧ e = .returned (.tuple #[.int .i64 er, .int .i64 m])))
/-- a slice behind its first words -/
def restA (ad : Addr) (c i : Nat) : Option Addr := if c = i + 1 then some ad else some { block := ad.block, off := ad.off + (i + 1) }
theorem add_lit (ad : Addr) (i : Nat) : ad.add (i + 1) = ⟨ad.block, ad.off + (i + 1), none⟩ := by
  unfold Addr.add
  rw [if_neg (by omega)]
theorem rest_strs {w : World} {ad : Addr} {c : Nat} {ws : List W} {i : Nat} (hs : Strs w (some ad) (ws.map str)) (hc : ws.length ≤ c) : Strs w (restA ad c i) ((ws.drop (i + 1)).map str) := fun j hj => by
  have hj2 : i + 1 + j < ws.length := by simp at hj; omega
  unfold restA
  rw [if_neg (by omega)]
  refine ⟨_, rfl, ?_⟩
  obtain ⟨ad2, e, hcell⟩ := hs (i + 1 + j) (by simpa using hj2)
  cases e
  have ea : (⟨ad.block, ad.off + (i + 1), none⟩ : Addr).add j = ad.add (i + 1 + j) := by
    rw [show i + 1 + j = i + j + 1 from by omega, add_lit]
    unfold Addr.add
    split
    · rename_i h0; subst h0; rfl
    · show (⟨ad.block, ad.off + (i + 1) + j, none⟩ : Addr) = _
      rw [show ad.off + (i + 1) + j = ad.off + (i + j + 1) from by omega]
  show w.cell? ((⟨ad.block, ad.off + (i + 1), none⟩ : Addr).add j) = _
  rw [ea, hcell]
  simp
set_option maxRecDepth 100000 in
set_option maxHeartbeats 3200000 in
theorem op_all (A : Option Addr) (c : Nat) (ws : List W) (i : Nat) (w : World) (hs : Hid (Strs w A (ws.map str))) (hi : i < ws.length) (hn : ws.length ≤ 1024) (hc : ws.length ≤ c) (x : W) (hx : ws[i] = x) (r : List W) (hrr : ws.drop (i + 1) = r) (h1 : x ∈ S1) : Calls Tryz.prog 42 #[.slice A ws.length c, .int .i64 i] w (OpPost x r w) := by
  have HLF : Hid (∃ t, leaf x r = .ok (t, 0)) := by
    show ∃ t, leaf x r = .ok (t, 0)
    simp only [S1, List.mem_cons, List.mem_nil_iff, or_false] at h1
    rcases h1 with rfl | rfl | rfl <;> exact ⟨_, rfl⟩
  obtain ⟨t0, hlf⟩ := HLF.out
  have HLF := Lib.hid hlf
  have H1 := Lib.hid h1
  clear h1 hlf
  obtain ⟨ad, hA, hc0⟩ := hs.out i (by simpa using hi)
  subst hA
  have HRS := Lib.hid (rest_strs (i := i) hs.out hc)
  have HRL : Hid ((ws.drop (i + 1)).length = ws.length - (i + 1)) := List.length_drop
  have hc1 : w.cell? (ad.add i) = some (.string (str ws[i])) := by simpa using hc0
  obtain ⟨n, hn1⟩ : ∃ n, ws.length = n := ⟨_, rfl⟩
  rw [hx] at hc1
  rw [hrr] at HRS HRL
  rw [hn1] at hi hn hc HRL ⊢
  have i9 : (i : Int) ≤ 1023 := by omega
  have i0 : (0 : Int) ≤ (i : Int) := by omega
  have e1 : (i : Int) < (n : Int) := by omega
  have e2 : (i : Int) + 1 ≤ (n : Int) := by omega
  have e4 : (n : Int) ≤ (c : Int) := by omega
  have e3 : (0 : Int) ≤ (i : Int) + 1 := by omega
  have hra : (if c = i + 1 then some ad else some { block := ad.block, off := ad.off + (i + 1) }) = restA ad c i := rfl
  obtain ⟨A', hA'⟩ : ∃ A', restA ad c i = A' := ⟨_, rfl⟩
  rw [hA'] at hra HRS
  obtain ⟨m, hrl⟩ : ∃ m, n - (i + 1) = m := ⟨_, rfl⟩
  have HM := Lib.hid (HRL.out.trans hrl)
  clear hc0 hx hrr hn1 hi hn hc hA'
  go_enter Tryz.func42, Tryz.ntmps42
  go_upto_region 3 with (fail)
  clear hc1 i9 i0 e1 e2 e3 e4 hra hrl
  refine gen_world (fun w' => Hid (Below w.heap.size w w')) (Below.refl _ _) ?_
  rintro w1 hb1
  go_wp2_with fail
  refine (lit_yes x S1 H1.out (by decide) w1).mono ?_
  rintro e w2 ⟨rfl, rfl⟩
  go_wp2_with fail
  go_ret2
  exact ⟨hb1.out.alloc hb1.out.size _, .inl ⟨_, _, HLF.out, rfl⟩⟩
set_option maxRecDepth 100000 in
set_option maxHeartbeats 3200000 in
theorem op_end (A : Option Addr) (c : Nat) (ws : List W) (i : Nat) (w : World) (hs : Hid (Strs w A (ws.map str))) (hi : i < ws.length) (hn : ws.length ≤ 1024) (hc : ws.length ≤ c) (x : W) (hx : ws[i] = x) (r : List W) (hrr : ws.drop (i + 1) = r) (h1 : x ∉ S1) (h2 : x ∉ S2) (h3 : r = []) : Calls Tryz.prog 42 #[.slice A ws.length c, .int .i64 i] w (OpPost x r w) := by
  subst h3
  have HLF : Hid (leaf x [] = .error 191) := by
    show _ = _
    unfold leaf
    rw [if_neg (by rw [field_mem, decide_eq_false h2]; simp), if_neg (fun h => h1 (by rw [h]; decide)), if_neg (fun h => h1 (by rw [h]; decide)), if_neg (fun h => h1 (by rw [h]; decide))]
  have H1 := Lib.hid h1
  have H2 := Lib.hid h2
  clear h1 h2
  obtain ⟨ad, hA, hc0⟩ := hs.out i (by simpa using hi)
  subst hA
  have HRS := Lib.hid (rest_strs (i := i) hs.out hc)
  have HRL : Hid ((ws.drop (i + 1)).length = ws.length - (i + 1)) := List.length_drop
  have hc1 : w.cell? (ad.add i) = some (.string (str ws[i])) := by simpa using hc0
  obtain ⟨n, hn1⟩ : ∃ n, ws.length = n := ⟨_, rfl⟩
  rw [hx] at hc1
  rw [hrr] at HRS HRL
  rw [hn1] at hi hn hc HRL ⊢
  have i9 : (i : Int) ≤ 1023 := by omega
  have i0 : (0 : Int) ≤ (i : Int) := by omega
  have e1 : (i : Int) < (n : Int) := by omega
  have e2 : (i : Int) + 1 ≤ (n : Int) := by omega
  have e4 : (n : Int) ≤ (c : Int) := by omega
  have e3 : (0 : Int) ≤ (i : Int) + 1 := by omega
  have hra : (if c = i + 1 then some ad else some { block := ad.block, off := ad.off + (i + 1) }) = restA ad c i := rfl
  obtain ⟨A', hA'⟩ : ∃ A', restA ad c i = A' := ⟨_, rfl⟩
  rw [hA'] at hra HRS
  obtain ⟨m, hrl⟩ : ∃ m, n - (i + 1) = m := ⟨_, rfl⟩
  have HM := Lib.hid (HRL.out.trans hrl)
  clear hc0 hx hrr hn1 hi hn hc hA'
  go_enter Tryz.func42, Tryz.ntmps42
  go_upto_region 3 with (fail)
  clear hc1 i9 i0 e1 e2 e3 e4 hra hrl
  refine gen_world (fun w' => Hid (Below w.heap.size w w')) (Below.refl _ _) ?_
  rintro w1 hb1
  go_wp2_with fail
  refine (lit_no x S1 H1.out (by decide) w1).mono ?_
  rintro e w2 ⟨rfl, rfl⟩
  go_upto_region 5 with (fail)
  refine gen_world (fun w' => Hid (Below w.heap.size w w')) (hb1.out.alloc hb1.out.size _) ?_
  clear hb1
  rintro w1 hb1
  go_wp2_with fail
  refine (lit_no x S2 H2.out (by decide) w1).mono ?_
  rintro e w2 ⟨rfl, rfl⟩
  go_upto_region 9 with (fail)
  refine gen_world (fun w' => Hid (Below w.heap.size w w')) (hb1.out.alloc hb1.out.size _) ?_
  clear hb1
  rintro w1 hb1
  obtain rfl : 0 = m := HM.out
  go_wp2_with fail
  go_ret2
  exact ⟨hb1, .inr ⟨_, _, HLF.out, by decide, rfl⟩⟩
theorem leaf_far {x a : W} {r : List W} (h1 : x ∉ S1) (h2 : x ∉ S2) : leaf x (a :: r) =
      (if x = [107, 105, 110, 100] then (if TokB.kindW a = 0 then .error 191 else .ok (.kind a, 1))
      else if x = [110, 97, 109, 101] ∨ x = [112, 97, 116, 104] ∨ x = [116, 97, 114, 103, 101, 116] then (if patErr a = 0 then .ok (.pattern x a, 1) else .error (patErr a))
      else if x = [117, 110, 100, 101, 114] then (if PathB.splitErr a = 0 then .ok (.under (PathF.pathText (Path.partsOf a)), 1) else .error (PathB.splitErr a))
      else if x = [115, 97, 109, 101] then (if PathB.splitErr a = 0 then .ok (.same (PathF.pathText (Path.partsOf a)), 1) else .error (PathB.splitErr a))
      else if x = [104, 111, 108, 100, 115] ∨ x = [98, 101, 103, 105, 110, 115] then (if 255 < a.length then .error 7 else .ok (.content x a, 1))
      else .error 191) := by
  unfold leaf
  rw [if_neg (by rw [field_mem, decide_eq_false h2]; simp), if_neg (fun h => h1 (by rw [h]; decide)), if_neg (fun h => h1 (by rw [h]; decide)), if_neg (fun h => h1 (by rw [h]; decide))]
theorem kind_mem (a : W) : (TokB.kindW a = 0) = (a ∉ KD) := by
  unfold kindW KD
  simp only [List.mem_cons, List.mem_nil_iff, or_false, not_or, eq_iff_iff]
  by_cases h1 : a = [102, 105, 108, 101]
  · simp [h1]
  by_cases h2 : a = [100, 105, 114]
  · simp [h2]
  by_cases h3 : a = [108, 105, 110, 107]
  · simp [h3]
  simp [h1, h2, h3]
theorem first_at {w : World} {A : Option Addr} {a : W} {r : List W} (h : Strs w A ((a :: r).map str)) : ∃ ad, A = some ad ∧ w.cell? (ad.add 0) = some (.string (str a)) := h 0 (by simp)
theorem second_at {w : World} {A : Option Addr} {a b : W} {r : List W} (h : Strs w A ((a :: b :: r).map str)) : ∃ ad, A = some ad ∧ w.cell? ⟨ad.block, ad.off + 1, none⟩ = some (.string (str b)) := h 1 (by simp)
theorem add_zero (ad : Addr) : ad.add 0 = ad := rfl
set_option maxRecDepth 100000 in
set_option maxHeartbeats 3200000 in
theorem op_kind_no (A : Option Addr) (c : Nat) (ws : List W) (i : Nat) (w : World) (hs : Hid (Strs w A (ws.map str))) (hi : i < ws.length) (hn : ws.length ≤ 1024) (hc : ws.length ≤ c) (x : W) (hx : ws[i] = x) (r : List W) (hrr : ws.drop (i + 1) = r) (a : W) (r' : List W) (h1 : x ∉ S1) (h2 : x ∉ S2) (h3 : r = a :: r') (h4 : x = [107, 105, 110, 100]) (h5 : a ∉ KD) : Calls Tryz.prog 42 #[.slice A ws.length c, .int .i64 i] w (OpPost x r w) := by
  subst h3
  have HLF0 := leaf_far (a := a) (r := r') h1 h2
  have HLF : Hid (leaf x (a :: r') = .error 191) := by
    show _ = _
    rw [HLF0, if_pos h4, if_pos (by rw [kind_mem]; exact h5)]
  have H5 := Lib.hid h5
  subst h4
  clear h5
  have H1 := Lib.hid h1
  have H2 := Lib.hid h2
  clear h1 h2 HLF0
  obtain ⟨ad, hA, hc0⟩ := hs.out i (by simpa using hi)
  subst hA
  have HRS := Lib.hid (rest_strs (i := i) hs.out hc)
  have HRL : Hid ((ws.drop (i + 1)).length = ws.length - (i + 1)) := List.length_drop
  have hc1 : w.cell? (ad.add i) = some (.string (str ws[i])) := by simpa using hc0
  obtain ⟨n, hn1⟩ : ∃ n, ws.length = n := ⟨_, rfl⟩
  rw [hx] at hc1
  rw [hrr] at HRS HRL
  rw [hn1] at hi hn hc HRL ⊢
  have i9 : (i : Int) ≤ 1023 := by omega
  have i0 : (0 : Int) ≤ (i : Int) := by omega
  have e1 : (i : Int) < (n : Int) := by omega
  have e2 : (i : Int) + 1 ≤ (n : Int) := by omega
  have e4 : (n : Int) ≤ (c : Int) := by omega
  have e3 : (0 : Int) ≤ (i : Int) + 1 := by omega
  have hra : (if c = i + 1 then some ad else some { block := ad.block, off := ad.off + (i + 1) }) = restA ad c i := rfl
  obtain ⟨A', hA'⟩ : ∃ A', restA ad c i = A' := ⟨_, rfl⟩
  rw [hA'] at hra HRS
  obtain ⟨m, hrl⟩ : ∃ m, n - (i + 1) = m := ⟨_, rfl⟩
  have HM := Lib.hid (HRL.out.trans hrl)
  clear hc0 hrr hn1 hi hn hc hA'
  go_enter Tryz.func42, Tryz.ntmps42
  go_upto_region 3 with (fail)
  clear hc1 i9 i0 e1 e2 e3 e4 hra hrl
  refine gen_world (fun w' => Hid (Below w.heap.size w w')) (Below.refl _ _) ?_
  rintro w1 hb1
  go_wp2_with fail
  refine (lit_no _ S1 H1.out (by decide) w1).mono ?_
  rintro e w2 ⟨rfl, rfl⟩
  go_upto_region 5 with (fail)
  refine gen_world (fun w' => Hid (Below w.heap.size w w')) (hb1.out.alloc hb1.out.size _) ?_
  clear hb1
  rintro w1 hb1
  go_wp2_with fail
  refine (lit_no _ S2 H2.out (by decide) w1).mono ?_
  rintro e w2 ⟨rfl, rfl⟩
  go_upto_region 9 with (fail)
  refine gen_world (fun w' => Hid (Below w.heap.size w w')) (hb1.out.alloc hb1.out.size _) ?_
  clear hb1
  rintro w1 hb1
  obtain ⟨ad2, hA2, ca⟩ := first_at HRS.out
  rw [add_zero] at ca
  have ca : w1.cell? ad2 = some (.string (str a)) := (hb1.out.cell (World.block_lt_of_cell? w _ ca)).trans ca
  subst hA2
  have m0 : (0 : Int) < (m : Int) := by have hm := HM.out; simp at hm; omega
  have m1 : ((m : Int) == 0) = false := beq_eq_false_iff_ne.2 (by omega)
  rw [show str [107, 105, 110, 100] = ⟨#[107, 105, 110, 100]⟩ from rfl]
  go_wp2_with fail
  refine (lit_no a KD H5.out (by decide) w1).mono ?_
  rintro e w2 ⟨rfl, rfl⟩
  go_wp2_with fail
  go_ret2
  exact ⟨hb1.out.alloc hb1.out.size _, .inr ⟨_, _, HLF.out, by decide, rfl⟩⟩
set_option maxRecDepth 100000 in
set_option maxHeartbeats 3200000 in
theorem op_kind_yes (A : Option Addr) (c : Nat) (ws : List W) (i : Nat) (w : World) (hs : Hid (Strs w A (ws.map str))) (hi : i < ws.length) (hn : ws.length ≤ 1024) (hc : ws.length ≤ c) (x : W) (hx : ws[i] = x) (r : List W) (hrr : ws.drop (i + 1) = r) (a : W) (r' : List W) (h1 : x ∉ S1) (h2 : x ∉ S2) (h3 : r = a :: r') (h4 : x = [107, 105, 110, 100]) (h5 : a ∈ KD) : Calls Tryz.prog 42 #[.slice A ws.length c, .int .i64 i] w (OpPost x r w) := by
  subst h3
  have HLF0 := leaf_far (a := a) (r := r') h1 h2
  have HLF : Hid (leaf x (a :: r') = .ok (.kind a, 1)) := by
    show _ = _
    rw [HLF0, if_pos h4, if_neg (by rw [kind_mem]; exact fun h => h h5)]
  have H5 := Lib.hid h5
  subst h4
  clear h5
  have H1 := Lib.hid h1
  have H2 := Lib.hid h2
  clear h1 h2 HLF0
  obtain ⟨ad, hA, hc0⟩ := hs.out i (by simpa using hi)
  subst hA
  have HRS := Lib.hid (rest_strs (i := i) hs.out hc)
  have HRL : Hid ((ws.drop (i + 1)).length = ws.length - (i + 1)) := List.length_drop
  have hc1 : w.cell? (ad.add i) = some (.string (str ws[i])) := by simpa using hc0
  obtain ⟨n, hn1⟩ : ∃ n, ws.length = n := ⟨_, rfl⟩
  rw [hx] at hc1
  rw [hrr] at HRS HRL
  rw [hn1] at hi hn hc HRL ⊢
  have i9 : (i : Int) ≤ 1023 := by omega
  have i0 : (0 : Int) ≤ (i : Int) := by omega
  have e1 : (i : Int) < (n : Int) := by omega
  have e2 : (i : Int) + 1 ≤ (n : Int) := by omega
  have e4 : (n : Int) ≤ (c : Int) := by omega
  have e3 : (0 : Int) ≤ (i : Int) + 1 := by omega
  have hra : (if c = i + 1 then some ad else some { block := ad.block, off := ad.off + (i + 1) }) = restA ad c i := rfl
  obtain ⟨A', hA'⟩ : ∃ A', restA ad c i = A' := ⟨_, rfl⟩
  rw [hA'] at hra HRS
  obtain ⟨m, hrl⟩ : ∃ m, n - (i + 1) = m := ⟨_, rfl⟩
  have HM := Lib.hid (HRL.out.trans hrl)
  clear hc0 hrr hn1 hi hn hc hA'
  go_enter Tryz.func42, Tryz.ntmps42
  go_upto_region 3 with (fail)
  clear hc1 i9 i0 e1 e2 e3 e4 hra hrl
  refine gen_world (fun w' => Hid (Below w.heap.size w w')) (Below.refl _ _) ?_
  rintro w1 hb1
  go_wp2_with fail
  refine (lit_no _ S1 H1.out (by decide) w1).mono ?_
  rintro e w2 ⟨rfl, rfl⟩
  go_upto_region 5 with (fail)
  refine gen_world (fun w' => Hid (Below w.heap.size w w')) (hb1.out.alloc hb1.out.size _) ?_
  clear hb1
  rintro w1 hb1
  go_wp2_with fail
  refine (lit_no _ S2 H2.out (by decide) w1).mono ?_
  rintro e w2 ⟨rfl, rfl⟩
  go_upto_region 9 with (fail)
  refine gen_world (fun w' => Hid (Below w.heap.size w w')) (hb1.out.alloc hb1.out.size _) ?_
  clear hb1
  rintro w1 hb1
  obtain ⟨ad2, hA2, ca⟩ := first_at HRS.out
  rw [add_zero] at ca
  have ca : w1.cell? ad2 = some (.string (str a)) := (hb1.out.cell (World.block_lt_of_cell? w _ ca)).trans ca
  subst hA2
  have m0 : (0 : Int) < (m : Int) := by have hm := HM.out; simp at hm; omega
  have m1 : ((m : Int) == 0) = false := beq_eq_false_iff_ne.2 (by omega)
  rw [show str [107, 105, 110, 100] = ⟨#[107, 105, 110, 100]⟩ from rfl]
  go_wp2_with fail
  refine (lit_yes a KD H5.out (by decide) w1).mono ?_
  rintro e w2 ⟨rfl, rfl⟩
  go_wp2_with fail
  go_ret2
  exact ⟨hb1.out.alloc hb1.out.size _, .inl ⟨_, _, HLF.out, rfl⟩⟩
set_option maxRecDepth 100000 in
set_option maxHeartbeats 3200000 in
theorem op_pattern (A : Option Addr) (c : Nat) (ws : List W) (i : Nat) (w : World) (hs : Hid (Strs w A (ws.map str))) (hi : i < ws.length) (hn : ws.length ≤ 1024) (hc : ws.length ≤ c) (x : W) (hx : ws[i] = x) (r : List W) (hrr : ws.drop (i + 1) = r) (a : W) (r' : List W) (h1 : x ∉ S1) (h2 : x ∉ S2) (h3 : r = a :: r') (h4 : x ≠ [107, 105, 110, 100]) (h5 : x ∈ S3) : Calls Tryz.prog 42 #[.slice A ws.length c, .int .i64 i] w (OpPost x r w) := by
  subst h3
  have HLF0 := leaf_far (a := a) (r := r') h1 h2
  have HLF : Hid (leaf x (a :: r') = if patErr a = 0 then .ok (.pattern x a, 1) else .error (patErr a)) := by
    show _ = _
    rw [HLF0, if_neg h4, if_pos (by simpa [S3] using h5)]
  have H5 := Lib.hid h5
  clear h5
  have H1 := Lib.hid h1
  have H2 := Lib.hid h2
  clear h1 h2 HLF0
  have n4 := ne_list h4
  clear h4
  obtain ⟨ad, hA, hc0⟩ := hs.out i (by simpa using hi)
  subst hA
  have HRS := Lib.hid (rest_strs (i := i) hs.out hc)
  have HRL : Hid ((ws.drop (i + 1)).length = ws.length - (i + 1)) := List.length_drop
  have hc1 : w.cell? (ad.add i) = some (.string (str ws[i])) := by simpa using hc0
  obtain ⟨n, hn1⟩ : ∃ n, ws.length = n := ⟨_, rfl⟩
  rw [hx] at hc1
  rw [hrr] at HRS HRL
  rw [hn1] at hi hn hc HRL ⊢
  have i9 : (i : Int) ≤ 1023 := by omega
  have i0 : (0 : Int) ≤ (i : Int) := by omega
  have e1 : (i : Int) < (n : Int) := by omega
  have e2 : (i : Int) + 1 ≤ (n : Int) := by omega
  have e4 : (n : Int) ≤ (c : Int) := by omega
  have e3 : (0 : Int) ≤ (i : Int) + 1 := by omega
  have hra : (if c = i + 1 then some ad else some { block := ad.block, off := ad.off + (i + 1) }) = restA ad c i := rfl
  obtain ⟨A', hA'⟩ : ∃ A', restA ad c i = A' := ⟨_, rfl⟩
  rw [hA'] at hra HRS
  obtain ⟨m, hrl⟩ : ∃ m, n - (i + 1) = m := ⟨_, rfl⟩
  have HM := Lib.hid (HRL.out.trans hrl)
  clear hc0 hx hrr hn1 hi hn hc hA'
  go_enter Tryz.func42, Tryz.ntmps42
  go_upto_region 3 with (fail)
  clear hc1 i9 i0 e1 e2 e3 e4 hra hrl
  refine gen_world (fun w' => Hid (Below w.heap.size w w')) (Below.refl _ _) ?_
  rintro w1 hb1
  go_wp2_with fail
  refine (lit_no x S1 H1.out (by decide) w1).mono ?_
  rintro e w2 ⟨rfl, rfl⟩
  go_upto_region 5 with (fail)
  refine gen_world (fun w' => Hid (Below w.heap.size w w')) (hb1.out.alloc hb1.out.size _) ?_
  clear hb1
  rintro w1 hb1
  go_wp2_with fail
  refine (lit_no x S2 H2.out (by decide) w1).mono ?_
  rintro e w2 ⟨rfl, rfl⟩
  go_upto_region 9 with (fail)
  refine gen_world (fun w' => Hid (Below w.heap.size w w')) (hb1.out.alloc hb1.out.size _) ?_
  clear hb1
  rintro w1 hb1
  obtain ⟨ad2, hA2, ca⟩ := first_at HRS.out
  rw [add_zero] at ca
  have ca : w1.cell? ad2 = some (.string (str a)) := (hb1.out.cell (World.block_lt_of_cell? w _ ca)).trans ca
  subst hA2
  have m0 : (0 : Int) < (m : Int) := by have hm := HM.out; simp at hm; omega
  have m1 : ((m : Int) == 0) = false := beq_eq_false_iff_ne.2 (by omega)
  go_wp2_with fail
  refine (lit_yes x S3 H5.out (by decide) w1).mono ?_
  rintro e w2 ⟨rfl, rfl⟩
  have hb2 : Hid (Below w.heap.size w (w1.alloc (.cells (litc S3) 9))) := hb1.out.alloc hb1.out.size _
  have ca2 : (w1.alloc (.cells (litc S3) 9)).cell? ad2 = some (.string (str a)) := (((Below.refl _ _).alloc (Nat.le_refl _) _ : Below w1.heap.size w1 _).cell (World.block_lt_of_cell? w1 _ ca)).trans ca
  go_upto_region 16 with (fail)
  refine gen_world (fun w' => Hid (Below w.heap.size w w') ∧ w'.cell? ad2 = some (.string (str a))) ⟨hb2, ca2⟩ ?_
  clear ca ca2 hb2 hb1
  rintro w1 ⟨hb1, ca⟩
  go_wp2_with fail
  refine (formR_any a w1).mono ?_
  rintro e w2 ⟨v, rfl, hb2⟩
  go_wp2_with fail
  go_ret2
  refine ⟨hb1.out.trans (hb2.out.mono hb1.out.size), ?_⟩
  by_cases h0 : patErr a = 0
  · exact .inl ⟨_, 1, by rw [HLF.out, if_pos h0], by rw [h0]; rfl⟩
  · exact .inr ⟨_, _, by rw [HLF.out, if_neg h0], h0, rfl⟩
set_option maxRecDepth 100000 in
set_option maxHeartbeats 3200000 in
theorem op_path (A : Option Addr) (c : Nat) (ws : List W) (i : Nat) (w : World) (hs : Hid (Strs w A (ws.map str))) (hi : i < ws.length) (hn : ws.length ≤ 1024) (hc : ws.length ≤ c) (x : W) (hx : ws[i] = x) (r : List W) (hrr : ws.drop (i + 1) = r) (a : W) (r' : List W) (h1 : x ∉ S1) (h2 : x ∉ S2) (h3 : r = a :: r') (h4 : x ≠ [107, 105, 110, 100]) (h5 : x ∉ S3) (h6 : x ∈ S4) (ha : a.length ≤ 1023) : Calls Tryz.prog 42 #[.slice A ws.length c, .int .i64 i] w (OpPost x r w) := by
  subst h3
  have HLF0 := leaf_far (a := a) (r := r') h1 h2
  have HLF : Hid (∃ t, leaf x (a :: r') = if PathB.splitErr a = 0 then .ok (t, 1) else .error (PathB.splitErr a)) := by
    show ∃ t, _ = _
    rw [HLF0, if_neg h4, if_neg (by simpa [S3] using h5)]
    simp only [S4, List.mem_cons, List.mem_nil_iff, or_false] at h6
    rcases h6 with rfl | rfl
    · exact ⟨_, if_pos rfl⟩
    · exact ⟨_, (if_neg (by decide)).trans (if_pos rfl)⟩
  have H5 := Lib.hid h5
  have H6 := Lib.hid h6
  have HA := Lib.hid ha
  clear h5 h6 ha
  have H1 := Lib.hid h1
  have H2 := Lib.hid h2
  clear h1 h2 HLF0
  have n4 := ne_list h4
  clear h4
  obtain ⟨ad, hA, hc0⟩ := hs.out i (by simpa using hi)
  subst hA
  have HRS := Lib.hid (rest_strs (i := i) hs.out hc)
  have HRL : Hid ((ws.drop (i + 1)).length = ws.length - (i + 1)) := List.length_drop
  have hc1 : w.cell? (ad.add i) = some (.string (str ws[i])) := by simpa using hc0
  obtain ⟨n, hn1⟩ : ∃ n, ws.length = n := ⟨_, rfl⟩
  rw [hx] at hc1
  rw [hrr] at HRS HRL
  rw [hn1] at hi hn hc HRL ⊢
  have i9 : (i : Int) ≤ 1023 := by omega
  have i0 : (0 : Int) ≤ (i : Int) := by omega
  have e1 : (i : Int) < (n : Int) := by omega
  have e2 : (i : Int) + 1 ≤ (n : Int) := by omega
  have e4 : (n : Int) ≤ (c : Int) := by omega
  have e3 : (0 : Int) ≤ (i : Int) + 1 := by omega
  have hra : (if c = i + 1 then some ad else some { block := ad.block, off := ad.off + (i + 1) }) = restA ad c i := rfl
  obtain ⟨A', hA'⟩ : ∃ A', restA ad c i = A' := ⟨_, rfl⟩
  rw [hA'] at hra HRS
  obtain ⟨m, hrl⟩ : ∃ m, n - (i + 1) = m := ⟨_, rfl⟩
  have HM := Lib.hid (HRL.out.trans hrl)
  clear hc0 hx hrr hn1 hi hn hc hA'
  go_enter Tryz.func42, Tryz.ntmps42
  go_upto_region 3 with (fail)
  clear hc1 i9 i0 e1 e2 e3 e4 hra hrl
  refine gen_world (fun w' => Hid (Below w.heap.size w w')) (Below.refl _ _) ?_
  rintro w1 hb1
  go_wp2_with fail
  refine (lit_no x S1 H1.out (by decide) w1).mono ?_
  rintro e w2 ⟨rfl, rfl⟩
  go_upto_region 5 with (fail)
  refine gen_world (fun w' => Hid (Below w.heap.size w w')) (hb1.out.alloc hb1.out.size _) ?_
  clear hb1
  rintro w1 hb1
  go_wp2_with fail
  refine (lit_no x S2 H2.out (by decide) w1).mono ?_
  rintro e w2 ⟨rfl, rfl⟩
  go_upto_region 9 with (fail)
  refine gen_world (fun w' => Hid (Below w.heap.size w w')) (hb1.out.alloc hb1.out.size _) ?_
  clear hb1
  rintro w1 hb1
  obtain ⟨ad2, hA2, ca⟩ := first_at HRS.out
  rw [add_zero] at ca
  have ca0 := Lib.hid ca
  have ca : w1.cell? ad2 = some (.string (str a)) := (hb1.out.cell (World.block_lt_of_cell? w _ ca)).trans ca
  subst hA2
  have m0 : (0 : Int) < (m : Int) := by have hm := HM.out; simp at hm; omega
  have m1 : ((m : Int) == 0) = false := beq_eq_false_iff_ne.2 (by omega)
  go_wp2_with fail
  refine (lit_no x S3 H5.out (by decide) w1).mono ?_
  rintro e w2 ⟨rfl, rfl⟩
  go_upto_region 18 with (fail)
  refine gen_world (fun w' => Hid (Below w.heap.size w w')) (hb1.out.alloc hb1.out.size _) ?_
  clear ca hb1
  rintro w1 hb1
  go_wp2_with fail
  refine (lit_yes x S4 H6.out (by decide) w1).mono ?_
  rintro e w2 ⟨rfl, rfl⟩
  have hb2 : Hid (Below w.heap.size w (w1.alloc (.cells (litc S4) 9))) := hb1.out.alloc hb1.out.size _
  go_upto_region 19 with (fail)
  refine gen_world (fun w' => Hid (Below w.heap.size w w')) hb2 ?_
  clear hb2 hb1
  rintro w1 hb1
  have ca : w1.cell? ad2 = some (.string (str a)) := (hb1.out.cell (World.block_lt_of_cell? w _ ca0.out)).trans ca0.out
  go_wp2_with fail
  refine (splitR_any a w1 HA.out).mono ?_
  obtain ⟨t, hlf⟩ := HLF.out
  have HLF := Lib.hid hlf
  clear hlf
  rintro e w2 (⟨h0, rfl, hb2⟩ | ⟨h0, A2, c2, rfl, hb2, _⟩)
  · have H0 := Lib.hid h0
    clear h0
    go_wp2_with fail
    go_ret2
    exact ⟨hb1.out.trans (hb2.out.mono hb1.out.size), .inr ⟨_, _, by rw [HLF.out, if_neg H0.out], H0.out, rfl⟩⟩
  · have H0 := Lib.hid h0
    clear h0
    go_wp2_with fail
    go_ret2
    exact ⟨hb1.out.trans (hb2.out.mono hb1.out.size), .inl ⟨_, 1, by rw [HLF.out, if_pos H0.out], rfl⟩⟩
set_option maxRecDepth 100000 in
set_option maxHeartbeats 3200000 in
theorem op_long (A : Option Addr) (c : Nat) (ws : List W) (i : Nat) (w : World) (hs : Hid (Strs w A (ws.map str))) (hi : i < ws.length) (hn : ws.length ≤ 1024) (hc : ws.length ≤ c) (x : W) (hx : ws[i] = x) (r : List W) (hrr : ws.drop (i + 1) = r) (a : W) (r' : List W) (h1 : x ∉ S1) (h2 : x ∉ S2) (h3 : r = a :: r') (h4 : x ≠ [107, 105, 110, 100]) (h5 : x ∉ S3) (h6 : x ∉ S4) (h8 : x ∈ S5) (h7 : 255 < a.length) : Calls Tryz.prog 42 #[.slice A ws.length c, .int .i64 i] w (OpPost x r w) := by
  subst h3
  have HLF0 := leaf_far (a := a) (r := r') h1 h2
  have HLF : Hid (leaf x (a :: r') = .error 7) := by
    show _ = _
    have h6a : x ≠ [117, 110, 100, 101, 114] := fun h => h6 (by rw [h]; decide)
    have h6b : x ≠ [115, 97, 109, 101] := fun h => h6 (by rw [h]; decide)
    rw [HLF0, if_neg h4, if_neg (by simpa [S3] using h5), if_neg h6a, if_neg h6b, if_pos (by simpa [S5] using h8), if_pos h7]
  have H5 := Lib.hid h5
  have H6 := Lib.hid h6
  have H8 := Lib.hid h8
  have l7 : ((255 : Int) < ((str a).size : Int)) := by rw [str_size]; omega
  clear h5 h6 h7 h8
  have H1 := Lib.hid h1
  have H2 := Lib.hid h2
  clear h1 h2 HLF0
  have n4 := ne_list h4
  clear h4
  obtain ⟨ad, hA, hc0⟩ := hs.out i (by simpa using hi)
  subst hA
  have HRS := Lib.hid (rest_strs (i := i) hs.out hc)
  have HRL : Hid ((ws.drop (i + 1)).length = ws.length - (i + 1)) := List.length_drop
  have hc1 : w.cell? (ad.add i) = some (.string (str ws[i])) := by simpa using hc0
  obtain ⟨n, hn1⟩ : ∃ n, ws.length = n := ⟨_, rfl⟩
  rw [hx] at hc1
  rw [hrr] at HRS HRL
  rw [hn1] at hi hn hc HRL ⊢
  have i9 : (i : Int) ≤ 1023 := by omega
  have i0 : (0 : Int) ≤ (i : Int) := by omega
  have e1 : (i : Int) < (n : Int) := by omega
  have e2 : (i : Int) + 1 ≤ (n : Int) := by omega
  have e4 : (n : Int) ≤ (c : Int) := by omega
  have e3 : (0 : Int) ≤ (i : Int) + 1 := by omega
  have hra : (if c = i + 1 then some ad else some { block := ad.block, off := ad.off + (i + 1) }) = restA ad c i := rfl
  obtain ⟨A', hA'⟩ : ∃ A', restA ad c i = A' := ⟨_, rfl⟩
  rw [hA'] at hra HRS
  obtain ⟨m, hrl⟩ : ∃ m, n - (i + 1) = m := ⟨_, rfl⟩
  have HM := Lib.hid (HRL.out.trans hrl)
  clear hc0 hx hrr hn1 hi hn hc hA'
  go_enter Tryz.func42, Tryz.ntmps42
  go_upto_region 3 with (fail)
  clear hc1 i9 i0 e1 e2 e3 e4 hra hrl
  refine gen_world (fun w' => Hid (Below w.heap.size w w')) (Below.refl _ _) ?_
  rintro w1 hb1
  go_wp2_with fail
  refine (lit_no x S1 H1.out (by decide) w1).mono ?_
  rintro e w2 ⟨rfl, rfl⟩
  go_upto_region 5 with (fail)
  refine gen_world (fun w' => Hid (Below w.heap.size w w')) (hb1.out.alloc hb1.out.size _) ?_
  clear hb1
  rintro w1 hb1
  go_wp2_with fail
  refine (lit_no x S2 H2.out (by decide) w1).mono ?_
  rintro e w2 ⟨rfl, rfl⟩
  go_upto_region 9 with (fail)
  refine gen_world (fun w' => Hid (Below w.heap.size w w')) (hb1.out.alloc hb1.out.size _) ?_
  clear hb1
  rintro w1 hb1
  obtain ⟨ad2, hA2, ca⟩ := first_at HRS.out
  rw [add_zero] at ca
  have ca0 := Lib.hid ca
  have ca : w1.cell? ad2 = some (.string (str a)) := (hb1.out.cell (World.block_lt_of_cell? w _ ca)).trans ca
  subst hA2
  have m0 : (0 : Int) < (m : Int) := by have hm := HM.out; simp at hm; omega
  have m1 : ((m : Int) == 0) = false := beq_eq_false_iff_ne.2 (by omega)
  go_wp2_with fail
  refine (lit_no x S3 H5.out (by decide) w1).mono ?_
  rintro e w2 ⟨rfl, rfl⟩
  go_upto_region 18 with (fail)
  refine gen_world (fun w' => Hid (Below w.heap.size w w')) (hb1.out.alloc hb1.out.size _) ?_
  clear ca hb1
  rintro w1 hb1
  go_wp2_with fail
  refine (lit_no x S4 H6.out (by decide) w1).mono ?_
  rintro e w2 ⟨rfl, rfl⟩
  go_upto_region 21 with (fail)
  refine gen_world (fun w' => Hid (Below w.heap.size w w')) (hb1.out.alloc hb1.out.size _) ?_
  clear hb1
  rintro w1 hb1
  go_wp2_with fail
  refine (lit_yes x S5 H8.out (by decide) w1).mono ?_
  rintro e w2 ⟨rfl, rfl⟩
  go_upto_region 22 with (fail)
  refine gen_world (fun w' => Hid (Below w.heap.size w w')) (hb1.out.alloc hb1.out.size _) ?_
  clear hb1
  rintro w1 hb1
  have ca : w1.cell? ad2 = some (.string (str a)) := (hb1.out.cell (World.block_lt_of_cell? w _ ca0.out)).trans ca0.out
  go_wp2_with fail
  go_ret2
  exact ⟨hb1, .inr ⟨_, _, HLF.out, by decide, rfl⟩⟩
set_option maxRecDepth 100000 in
set_option maxHeartbeats 3200000 in
theorem op_content (A : Option Addr) (c : Nat) (ws : List W) (i : Nat) (w : World) (hs : Hid (Strs w A (ws.map str))) (hi : i < ws.length) (hn : ws.length ≤ 1024) (hc : ws.length ≤ c) (x : W) (hx : ws[i] = x) (r : List W) (hrr : ws.drop (i + 1) = r) (a : W) (r' : List W) (h1 : x ∉ S1) (h2 : x ∉ S2) (h3 : r = a :: r') (h4 : x ≠ [107, 105, 110, 100]) (h5 : x ∉ S3) (h6 : x ∉ S4) (h8 : x ∈ S5) (h7 : ¬ 255 < a.length) : Calls Tryz.prog 42 #[.slice A ws.length c, .int .i64 i] w (OpPost x r w) := by
  subst h3
  have HLF0 := leaf_far (a := a) (r := r') h1 h2
  have HLF : Hid (leaf x (a :: r') = .ok (.content x a, 1)) := by
    show _ = _
    have h6a : x ≠ [117, 110, 100, 101, 114] := fun h => h6 (by rw [h]; decide)
    have h6b : x ≠ [115, 97, 109, 101] := fun h => h6 (by rw [h]; decide)
    rw [HLF0, if_neg h4, if_neg (by simpa [S3] using h5), if_neg h6a, if_neg h6b, if_pos (by simpa [S5] using h8), if_neg h7]
  have H5 := Lib.hid h5
  have H6 := Lib.hid h6
  have H8 := Lib.hid h8
  have l7 : ¬ ((255 : Int) < ((str a).size : Int)) := by rw [str_size]; omega
  clear h5 h6 h7 h8
  have H1 := Lib.hid h1
  have H2 := Lib.hid h2
  clear h1 h2 HLF0
  have n4 := ne_list h4
  clear h4
  obtain ⟨ad, hA, hc0⟩ := hs.out i (by simpa using hi)
  subst hA
  have HRS := Lib.hid (rest_strs (i := i) hs.out hc)
  have HRL : Hid ((ws.drop (i + 1)).length = ws.length - (i + 1)) := List.length_drop
  have hc1 : w.cell? (ad.add i) = some (.string (str ws[i])) := by simpa using hc0
  obtain ⟨n, hn1⟩ : ∃ n, ws.length = n := ⟨_, rfl⟩
  rw [hx] at hc1
  rw [hrr] at HRS HRL
  rw [hn1] at hi hn hc HRL ⊢
  have i9 : (i : Int) ≤ 1023 := by omega
  have i0 : (0 : Int) ≤ (i : Int) := by omega
  have e1 : (i : Int) < (n : Int) := by omega
  have e2 : (i : Int) + 1 ≤ (n : Int) := by omega
  have e4 : (n : Int) ≤ (c : Int) := by omega
  have e3 : (0 : Int) ≤ (i : Int) + 1 := by omega
  have hra : (if c = i + 1 then some ad else some { block := ad.block, off := ad.off + (i + 1) }) = restA ad c i := rfl
  obtain ⟨A', hA'⟩ : ∃ A', restA ad c i = A' := ⟨_, rfl⟩
  rw [hA'] at hra HRS
  obtain ⟨m, hrl⟩ : ∃ m, n - (i + 1) = m := ⟨_, rfl⟩
  have HM := Lib.hid (HRL.out.trans hrl)
  clear hc0 hx hrr hn1 hi hn hc hA'
  go_enter Tryz.func42, Tryz.ntmps42
  go_upto_region 3 with (fail)
  clear hc1 i9 i0 e1 e2 e3 e4 hra hrl
  refine gen_world (fun w' => Hid (Below w.heap.size w w')) (Below.refl _ _) ?_
  rintro w1 hb1
  go_wp2_with fail
  refine (lit_no x S1 H1.out (by decide) w1).mono ?_
  rintro e w2 ⟨rfl, rfl⟩
  go_upto_region 5 with (fail)
  refine gen_world (fun w' => Hid (Below w.heap.size w w')) (hb1.out.alloc hb1.out.size _) ?_
  clear hb1
  rintro w1 hb1
  go_wp2_with fail
  refine (lit_no x S2 H2.out (by decide) w1).mono ?_
  rintro e w2 ⟨rfl, rfl⟩
  go_upto_region 9 with (fail)
  refine gen_world (fun w' => Hid (Below w.heap.size w w')) (hb1.out.alloc hb1.out.size _) ?_
  clear hb1
  rintro w1 hb1
  obtain ⟨ad2, hA2, ca⟩ := first_at HRS.out
  rw [add_zero] at ca
  have ca0 := Lib.hid ca
  have ca : w1.cell? ad2 = some (.string (str a)) := (hb1.out.cell (World.block_lt_of_cell? w _ ca)).trans ca
  subst hA2
  have m0 : (0 : Int) < (m : Int) := by have hm := HM.out; simp at hm; omega
  have m1 : ((m : Int) == 0) = false := beq_eq_false_iff_ne.2 (by omega)
  go_wp2_with fail
  refine (lit_no x S3 H5.out (by decide) w1).mono ?_
  rintro e w2 ⟨rfl, rfl⟩
  go_upto_region 18 with (fail)
  refine gen_world (fun w' => Hid (Below w.heap.size w w')) (hb1.out.alloc hb1.out.size _) ?_
  clear ca hb1
  rintro w1 hb1
  go_wp2_with fail
  refine (lit_no x S4 H6.out (by decide) w1).mono ?_
  rintro e w2 ⟨rfl, rfl⟩
  go_upto_region 21 with (fail)
  refine gen_world (fun w' => Hid (Below w.heap.size w w')) (hb1.out.alloc hb1.out.size _) ?_
  clear hb1
  rintro w1 hb1
  go_wp2_with fail
  refine (lit_yes x S5 H8.out (by decide) w1).mono ?_
  rintro e w2 ⟨rfl, rfl⟩
  go_upto_region 22 with (fail)
  refine gen_world (fun w' => Hid (Below w.heap.size w w')) (hb1.out.alloc hb1.out.size _) ?_
  clear hb1
  rintro w1 hb1
  have ca : w1.cell? ad2 = some (.string (str a)) := (hb1.out.cell (World.block_lt_of_cell? w _ ca0.out)).trans ca0.out
  go_wp2_with fail
  go_ret2
  exact ⟨hb1, .inl ⟨_, _, HLF.out, rfl⟩⟩
set_option maxRecDepth 100000 in
set_option maxHeartbeats 3200000 in
theorem op_none (A : Option Addr) (c : Nat) (ws : List W) (i : Nat) (w : World) (hs : Hid (Strs w A (ws.map str))) (hi : i < ws.length) (hn : ws.length ≤ 1024) (hc : ws.length ≤ c) (x : W) (hx : ws[i] = x) (r : List W) (hrr : ws.drop (i + 1) = r) (a : W) (r' : List W) (h1 : x ∉ S1) (h2 : x ∉ S2) (h3 : r = a :: r') (h4 : x ≠ [107, 105, 110, 100]) (h5 : x ∉ S3) (h6 : x ∉ S4) (h8 : x ∉ S5) : Calls Tryz.prog 42 #[.slice A ws.length c, .int .i64 i] w (OpPost x r w) := by
  subst h3
  have HLF0 := leaf_far (a := a) (r := r') h1 h2
  have HLF : Hid (leaf x (a :: r') = .error 191) := by
    show _ = _
    have h6a : x ≠ [117, 110, 100, 101, 114] := fun h => h6 (by rw [h]; decide)
    have h6b : x ≠ [115, 97, 109, 101] := fun h => h6 (by rw [h]; decide)
    rw [HLF0, if_neg h4, if_neg (by simpa [S3] using h5), if_neg h6a, if_neg h6b, if_neg (by simpa [S5] using h8)]
  have H5 := Lib.hid h5
  have H6 := Lib.hid h6
  have H8 := Lib.hid h8
  clear h5 h6 h8
  have H1 := Lib.hid h1
  have H2 := Lib.hid h2
  clear h1 h2 HLF0
  have n4 := ne_list h4
  clear h4
  obtain ⟨ad, hA, hc0⟩ := hs.out i (by simpa using hi)
  subst hA
  have HRS := Lib.hid (rest_strs (i := i) hs.out hc)
  have HRL : Hid ((ws.drop (i + 1)).length = ws.length - (i + 1)) := List.length_drop
  have hc1 : w.cell? (ad.add i) = some (.string (str ws[i])) := by simpa using hc0
  obtain ⟨n, hn1⟩ : ∃ n, ws.length = n := ⟨_, rfl⟩
  rw [hx] at hc1
  rw [hrr] at HRS HRL
  rw [hn1] at hi hn hc HRL ⊢
  have i9 : (i : Int) ≤ 1023 := by omega
  have i0 : (0 : Int) ≤ (i : Int) := by omega
  have e1 : (i : Int) < (n : Int) := by omega
  have e2 : (i : Int) + 1 ≤ (n : Int) := by omega
  have e4 : (n : Int) ≤ (c : Int) := by omega
  have e3 : (0 : Int) ≤ (i : Int) + 1 := by omega
  have hra : (if c = i + 1 then some ad else some { block := ad.block, off := ad.off + (i + 1) }) = restA ad c i := rfl
  obtain ⟨A', hA'⟩ : ∃ A', restA ad c i = A' := ⟨_, rfl⟩
  rw [hA'] at hra HRS
  obtain ⟨m, hrl⟩ : ∃ m, n - (i + 1) = m := ⟨_, rfl⟩
  have HM := Lib.hid (HRL.out.trans hrl)
  clear hc0 hx hrr hn1 hi hn hc hA'
  go_enter Tryz.func42, Tryz.ntmps42
  go_upto_region 3 with (fail)
  clear hc1 i9 i0 e1 e2 e3 e4 hra hrl
  refine gen_world (fun w' => Hid (Below w.heap.size w w')) (Below.refl _ _) ?_
  rintro w1 hb1
  go_wp2_with fail
  refine (lit_no x S1 H1.out (by decide) w1).mono ?_
  rintro e w2 ⟨rfl, rfl⟩
  go_upto_region 5 with (fail)
  refine gen_world (fun w' => Hid (Below w.heap.size w w')) (hb1.out.alloc hb1.out.size _) ?_
  clear hb1
  rintro w1 hb1
  go_wp2_with fail
  refine (lit_no x S2 H2.out (by decide) w1).mono ?_
  rintro e w2 ⟨rfl, rfl⟩
  go_upto_region 9 with (fail)
  refine gen_world (fun w' => Hid (Below w.heap.size w w')) (hb1.out.alloc hb1.out.size _) ?_
  clear hb1
  rintro w1 hb1
  obtain ⟨ad2, hA2, ca⟩ := first_at HRS.out
  rw [add_zero] at ca
  have ca : w1.cell? ad2 = some (.string (str a)) := (hb1.out.cell (World.block_lt_of_cell? w _ ca)).trans ca
  subst hA2
  have m0 : (0 : Int) < (m : Int) := by have hm := HM.out; simp at hm; omega
  have m1 : ((m : Int) == 0) = false := beq_eq_false_iff_ne.2 (by omega)
  go_wp2_with fail
  refine (lit_no x S3 H5.out (by decide) w1).mono ?_
  rintro e w2 ⟨rfl, rfl⟩
  go_upto_region 18 with (fail)
  refine gen_world (fun w' => Hid (Below w.heap.size w w')) (hb1.out.alloc hb1.out.size _) ?_
  clear ca hb1
  rintro w1 hb1
  go_wp2_with fail
  refine (lit_no x S4 H6.out (by decide) w1).mono ?_
  rintro e w2 ⟨rfl, rfl⟩
  go_upto_region 21 with (fail)
  refine gen_world (fun w' => Hid (Below w.heap.size w w')) (hb1.out.alloc hb1.out.size _) ?_
  clear hb1
  rintro w1 hb1
  go_wp2_with fail
  refine (lit_no x S5 H8.out (by decide) w1).mono ?_
  rintro e w2 ⟨rfl, rfl⟩
  go_wp2_with fail
  go_ret2
  exact ⟨hb1.out.alloc hb1.out.size _, .inr ⟨_, _, HLF.out, by decide, rfl⟩⟩
theorem leaf_fld {x : W} {r : List W} (h : x ∈ S2) : leaf x r = match r with
    | a :: b :: _ => if a ∈ TokB.cmps then (if TokC.isNum b = true then .ok (.field x a (TokC.numV b), 2) else .error 191) else .error 191
    | _ => .error 191 := by
  unfold leaf
  rw [if_pos (by rw [field_mem, decide_eq_true h])]
  match r with
  | [] => rfl
  | [a] => rfl
  | a :: b :: r => rfl
theorem s1_not {x : W} (h : x ∈ S2) : x ∉ S1 := by
  simp only [S2, List.mem_cons, List.mem_nil_iff, or_false] at h
  rcases h with rfl | rfl | rfl | rfl | rfl <;> decide
set_option maxRecDepth 100000 in
set_option maxHeartbeats 3200000 in
theorem op_short (A : Option Addr) (c : Nat) (ws : List W) (i : Nat) (w : World) (hs : Hid (Strs w A (ws.map str))) (hi : i < ws.length) (hn : ws.length ≤ 1024) (hc : ws.length ≤ c) (x : W) (hx : ws[i] = x) (r : List W) (hrr : ws.drop (i + 1) = r) (h2 : x ∈ S2) (h3 : r.length < 2) : Calls Tryz.prog 42 #[.slice A ws.length c, .int .i64 i] w (OpPost x r w) := by
  have HLF : Hid (leaf x r = .error 191) := by
    show _ = _
    rw [leaf_fld h2]
    match r, h3 with
    | [], _ => rfl
    | [a], _ => rfl
  have H1 := Lib.hid (s1_not h2)
  have H2 := Lib.hid h2
  have l2 : (r.length : Int) < 2 := by omega
  have HL2 := Lib.hid l2
  clear h2 h3 l2
  obtain ⟨ad, hA, hc0⟩ := hs.out i (by simpa using hi)
  subst hA
  have HRS := Lib.hid (rest_strs (i := i) hs.out hc)
  have HRL : Hid ((ws.drop (i + 1)).length = ws.length - (i + 1)) := List.length_drop
  have hc1 : w.cell? (ad.add i) = some (.string (str ws[i])) := by simpa using hc0
  obtain ⟨n, hn1⟩ : ∃ n, ws.length = n := ⟨_, rfl⟩
  rw [hx] at hc1
  rw [hrr] at HRS HRL
  rw [hn1] at hi hn hc HRL ⊢
  have i9 : (i : Int) ≤ 1023 := by omega
  have i0 : (0 : Int) ≤ (i : Int) := by omega
  have e1 : (i : Int) < (n : Int) := by omega
  have e2 : (i : Int) + 1 ≤ (n : Int) := by omega
  have e4 : (n : Int) ≤ (c : Int) := by omega
  have e3 : (0 : Int) ≤ (i : Int) + 1 := by omega
  have hra : (if c = i + 1 then some ad else some { block := ad.block, off := ad.off + (i + 1) }) = restA ad c i := rfl
  obtain ⟨A', hA'⟩ : ∃ A', restA ad c i = A' := ⟨_, rfl⟩
  rw [hA'] at hra HRS
  obtain ⟨m, hrl⟩ : ∃ m, n - (i + 1) = m := ⟨_, rfl⟩
  have HM := Lib.hid (HRL.out.trans hrl)
  clear hc0 hx hrr hn1 hi hn hc hA'
  go_enter Tryz.func42, Tryz.ntmps42
  go_upto_region 3 with (fail)
  clear hc1 i9 i0 e1 e2 e3 e4 hra hrl
  refine gen_world (fun w' => Hid (Below w.heap.size w w')) (Below.refl _ _) ?_
  rintro w1 hb1
  go_wp2_with fail
  refine (lit_no x S1 H1.out (by decide) w1).mono ?_
  rintro e w2 ⟨rfl, rfl⟩
  go_upto_region 5 with (fail)
  refine gen_world (fun w' => Hid (Below w.heap.size w w')) (hb1.out.alloc hb1.out.size _) ?_
  clear hb1
  rintro w1 hb1
  go_wp2_with fail
  refine (lit_yes x S2 H2.out (by decide) w1).mono ?_
  rintro e w2 ⟨rfl, rfl⟩
  have l2 : (m : Int) < 2 := by have hm := HM.out; have := HL2.out; omega
  go_wp2_with fail
  go_ret2
  exact ⟨hb1.out.alloc hb1.out.size _, .inr ⟨_, _, HLF.out, by decide, rfl⟩⟩
set_option maxRecDepth 100000 in
set_option maxHeartbeats 3200000 in
theorem op_cmp (A : Option Addr) (c : Nat) (ws : List W) (i : Nat) (w : World) (hs : Hid (Strs w A (ws.map str))) (hi : i < ws.length) (hn : ws.length ≤ 1024) (hc : ws.length ≤ c) (x : W) (hx : ws[i] = x) (r : List W) (hrr : ws.drop (i + 1) = r) (a b : W) (r' : List W) (h2 : x ∈ S2) (h3 : r = a :: b :: r') (h4 : a ∉ TokB.cmps) : Calls Tryz.prog 42 #[.slice A ws.length c, .int .i64 i] w (OpPost x r w) := by
  subst h3
  have HLF : Hid (leaf x (a :: b :: r') = .error 191) := by
    show _ = _
    rw [leaf_fld h2]
    show (if a ∈ TokB.cmps then (if TokC.isNum b = true then _ else _) else _) = _
    rw [if_neg h4]
  have H1 := Lib.hid (s1_not h2)
  have H2 := Lib.hid h2
  have H4 := Lib.hid h4
  clear h2 h4
  obtain ⟨ad, hA, hc0⟩ := hs.out i (by simpa using hi)
  subst hA
  have HRS := Lib.hid (rest_strs (i := i) hs.out hc)
  have HRL : Hid ((ws.drop (i + 1)).length = ws.length - (i + 1)) := List.length_drop
  have hc1 : w.cell? (ad.add i) = some (.string (str ws[i])) := by simpa using hc0
  obtain ⟨n, hn1⟩ : ∃ n, ws.length = n := ⟨_, rfl⟩
  rw [hx] at hc1
  rw [hrr] at HRS HRL
  rw [hn1] at hi hn hc HRL ⊢
  have i9 : (i : Int) ≤ 1023 := by omega
  have i0 : (0 : Int) ≤ (i : Int) := by omega
  have e1 : (i : Int) < (n : Int) := by omega
  have e2 : (i : Int) + 1 ≤ (n : Int) := by omega
  have e4 : (n : Int) ≤ (c : Int) := by omega
  have e3 : (0 : Int) ≤ (i : Int) + 1 := by omega
  have hra : (if c = i + 1 then some ad else some { block := ad.block, off := ad.off + (i + 1) }) = restA ad c i := rfl
  obtain ⟨A', hA'⟩ : ∃ A', restA ad c i = A' := ⟨_, rfl⟩
  rw [hA'] at hra HRS
  obtain ⟨m, hrl⟩ : ∃ m, n - (i + 1) = m := ⟨_, rfl⟩
  have HM := Lib.hid (HRL.out.trans hrl)
  clear hc0 hx hrr hn1 hi hn hc hA'
  go_enter Tryz.func42, Tryz.ntmps42
  go_upto_region 3 with (fail)
  clear hc1 i9 i0 e1 e2 e3 e4 hra hrl
  refine gen_world (fun w' => Hid (Below w.heap.size w w')) (Below.refl _ _) ?_
  rintro w1 hb1
  go_wp2_with fail
  refine (lit_no x S1 H1.out (by decide) w1).mono ?_
  rintro e w2 ⟨rfl, rfl⟩
  go_upto_region 5 with (fail)
  refine gen_world (fun w' => Hid (Below w.heap.size w w')) (hb1.out.alloc hb1.out.size _) ?_
  clear hb1
  rintro w1 hb1
  go_wp2_with fail
  refine (lit_yes x S2 H2.out (by decide) w1).mono ?_
  rintro e w2 ⟨rfl, rfl⟩
  obtain ⟨ad2, hA2, ca⟩ := first_at HRS.out
  rw [add_zero] at ca
  have CA := Lib.hid ca
  obtain ⟨ad3, hA3, cb⟩ := second_at HRS.out
  rw [hA2] at hA3
  cases hA3
  have CB := Lib.hid cb
  subst hA2
  have m2 : ¬ ((m : Int) < 2) := by have hm := HM.out; simp at hm; omega
  have m0 : (0 : Int) < (m : Int) := by omega
  have m1 : (1 : Int) < (m : Int) := by omega
  clear ca cb
  go_upto_region 6 with (fail)
  refine gen_world (fun w' => Hid (Below w.heap.size w w')) (hb1.out.alloc hb1.out.size _) ?_
  clear hb1
  rintro w1 hb1
  have ca : w1.cell? ad2 = some (.string (str a)) := (hb1.out.cell (World.block_lt_of_cell? w _ CA.out)).trans CA.out
  have cb : w1.cell? ⟨ad2.block, ad2.off + 1, none⟩ = some (.string (str b)) := (hb1.out.cell (World.block_lt_of_cell? w _ CB.out)).trans CB.out
  go_wp2_with fail
  refine (lit_no a cmps H4.out (by decide) w1).mono ?_
  rintro e w2 ⟨rfl, rfl⟩
  go_wp2_with fail
  go_ret2
  exact ⟨hb1.out.alloc hb1.out.size _, .inr ⟨_, _, HLF.out, by decide, rfl⟩⟩
set_option maxRecDepth 100000 in
set_option maxHeartbeats 3200000 in
theorem op_num_no (A : Option Addr) (c : Nat) (ws : List W) (i : Nat) (w : World) (hs : Hid (Strs w A (ws.map str))) (hi : i < ws.length) (hn : ws.length ≤ 1024) (hc : ws.length ≤ c) (x : W) (hx : ws[i] = x) (r : List W) (hrr : ws.drop (i + 1) = r) (a b : W) (r' : List W) (h2 : x ∈ S2) (h3 : r = a :: b :: r') (h4 : a ∈ TokB.cmps) (h5 : isNum b = false) : Calls Tryz.prog 42 #[.slice A ws.length c, .int .i64 i] w (OpPost x r w) := by
  subst h3
  have HLF : Hid (leaf x (a :: b :: r') = .error 191) := by
    show _ = _
    rw [leaf_fld h2]
    show (if a ∈ TokB.cmps then (if TokC.isNum b = true then _ else _) else _) = _
    rw [if_pos h4, if_neg (by rw [h5]; simp)]
  have H1 := Lib.hid (s1_not h2)
  have H2 := Lib.hid h2
  have H4 := Lib.hid h4
  have HNR : Hid (numR b = -1) := by show _ = _; unfold numR; rw [h5]; rfl
  clear h2 h4 h5
  obtain ⟨ad, hA, hc0⟩ := hs.out i (by simpa using hi)
  subst hA
  have HRS := Lib.hid (rest_strs (i := i) hs.out hc)
  have HRL : Hid ((ws.drop (i + 1)).length = ws.length - (i + 1)) := List.length_drop
  have hc1 : w.cell? (ad.add i) = some (.string (str ws[i])) := by simpa using hc0
  obtain ⟨n, hn1⟩ : ∃ n, ws.length = n := ⟨_, rfl⟩
  rw [hx] at hc1
  rw [hrr] at HRS HRL
  rw [hn1] at hi hn hc HRL ⊢
  have i9 : (i : Int) ≤ 1023 := by omega
  have i0 : (0 : Int) ≤ (i : Int) := by omega
  have e1 : (i : Int) < (n : Int) := by omega
  have e2 : (i : Int) + 1 ≤ (n : Int) := by omega
  have e4 : (n : Int) ≤ (c : Int) := by omega
  have e3 : (0 : Int) ≤ (i : Int) + 1 := by omega
  have hra : (if c = i + 1 then some ad else some { block := ad.block, off := ad.off + (i + 1) }) = restA ad c i := rfl
  obtain ⟨A', hA'⟩ : ∃ A', restA ad c i = A' := ⟨_, rfl⟩
  rw [hA'] at hra HRS
  obtain ⟨m, hrl⟩ : ∃ m, n - (i + 1) = m := ⟨_, rfl⟩
  have HM := Lib.hid (HRL.out.trans hrl)
  clear hc0 hx hrr hn1 hi hn hc hA'
  go_enter Tryz.func42, Tryz.ntmps42
  go_upto_region 3 with (fail)
  clear hc1 i9 i0 e1 e2 e3 e4 hra hrl
  refine gen_world (fun w' => Hid (Below w.heap.size w w')) (Below.refl _ _) ?_
  rintro w1 hb1
  go_wp2_with fail
  refine (lit_no x S1 H1.out (by decide) w1).mono ?_
  rintro e w2 ⟨rfl, rfl⟩
  go_upto_region 5 with (fail)
  refine gen_world (fun w' => Hid (Below w.heap.size w w')) (hb1.out.alloc hb1.out.size _) ?_
  clear hb1
  rintro w1 hb1
  go_wp2_with fail
  refine (lit_yes x S2 H2.out (by decide) w1).mono ?_
  rintro e w2 ⟨rfl, rfl⟩
  obtain ⟨ad2, hA2, ca⟩ := first_at HRS.out
  rw [add_zero] at ca
  have CA := Lib.hid ca
  obtain ⟨ad3, hA3, cb⟩ := second_at HRS.out
  rw [hA2] at hA3
  cases hA3
  have CB := Lib.hid cb
  subst hA2
  have m2 : ¬ ((m : Int) < 2) := by have hm := HM.out; simp at hm; omega
  have m0 : (0 : Int) < (m : Int) := by omega
  have m1 : (1 : Int) < (m : Int) := by omega
  clear ca cb
  go_upto_region 6 with (fail)
  refine gen_world (fun w' => Hid (Below w.heap.size w w')) (hb1.out.alloc hb1.out.size _) ?_
  clear hb1
  rintro w1 hb1
  have ca : w1.cell? ad2 = some (.string (str a)) := (hb1.out.cell (World.block_lt_of_cell? w _ CA.out)).trans CA.out
  have cb : w1.cell? ⟨ad2.block, ad2.off + 1, none⟩ = some (.string (str b)) := (hb1.out.cell (World.block_lt_of_cell? w _ CB.out)).trans CB.out
  go_wp2_with fail
  refine (lit_yes a cmps H4.out (by decide) w1).mono ?_
  rintro e w2 ⟨rfl, rfl⟩
  have cb2 : (w1.alloc (.cells (litc cmps) 9)).cell? ⟨ad2.block, ad2.off + 1, none⟩ = some (.string (str b)) := (((Below.refl _ _).alloc (Nat.le_refl _) _ : Below w1.heap.size w1 _).cell (World.block_lt_of_cell? w1 _ cb)).trans cb
  have HB2 : Hid (Below w.heap.size w (w1.alloc (.cells (litc cmps) 9))) := hb1.out.alloc hb1.out.size _
  generalize w1.alloc (.cells (litc cmps) 9) = w2 at *
  go_wp2_with fail
  refine (numR_any b w2).mono ?_
  rintro e w3 ⟨rfl, rfl⟩
  rw [HNR.out]
  go_wp2_with fail
  go_ret2
  exact ⟨HB2, .inr ⟨_, _, HLF.out, by decide, rfl⟩⟩
set_option maxRecDepth 100000 in
set_option maxHeartbeats 3200000 in
theorem op_num_yes (A : Option Addr) (c : Nat) (ws : List W) (i : Nat) (w : World) (hs : Hid (Strs w A (ws.map str))) (hi : i < ws.length) (hn : ws.length ≤ 1024) (hc : ws.length ≤ c) (x : W) (hx : ws[i] = x) (r : List W) (hrr : ws.drop (i + 1) = r) (a b : W) (r' : List W) (h2 : x ∈ S2) (h3 : r = a :: b :: r') (h4 : a ∈ TokB.cmps) (h5 : isNum b = true) : Calls Tryz.prog 42 #[.slice A ws.length c, .int .i64 i] w (OpPost x r w) := by
  subst h3
  have HLF : Hid (leaf x (a :: b :: r') = .ok (.field x a (TokC.numV b), 2)) := by
    show _ = _
    rw [leaf_fld h2]
    show (if a ∈ TokB.cmps then (if TokC.isNum b = true then _ else _) else _) = _
    rw [if_pos h4, if_pos h5]
  have H1 := Lib.hid (s1_not h2)
  have H2 := Lib.hid h2
  have H4 := Lib.hid h4
  have HNR : Hid (numR b = (numV b : Int)) := by show _ = _; unfold numR; rw [h5]; rfl
  clear h2 h4 h5
  obtain ⟨ad, hA, hc0⟩ := hs.out i (by simpa using hi)
  subst hA
  have HRS := Lib.hid (rest_strs (i := i) hs.out hc)
  have HRL : Hid ((ws.drop (i + 1)).length = ws.length - (i + 1)) := List.length_drop
  have hc1 : w.cell? (ad.add i) = some (.string (str ws[i])) := by simpa using hc0
  obtain ⟨n, hn1⟩ : ∃ n, ws.length = n := ⟨_, rfl⟩
  rw [hx] at hc1
  rw [hrr] at HRS HRL
  rw [hn1] at hi hn hc HRL ⊢
  have i9 : (i : Int) ≤ 1023 := by omega
  have i0 : (0 : Int) ≤ (i : Int) := by omega
  have e1 : (i : Int) < (n : Int) := by omega
  have e2 : (i : Int) + 1 ≤ (n : Int) := by omega
  have e4 : (n : Int) ≤ (c : Int) := by omega
  have e3 : (0 : Int) ≤ (i : Int) + 1 := by omega
  have hra : (if c = i + 1 then some ad else some { block := ad.block, off := ad.off + (i + 1) }) = restA ad c i := rfl
  obtain ⟨A', hA'⟩ : ∃ A', restA ad c i = A' := ⟨_, rfl⟩
  rw [hA'] at hra HRS
  obtain ⟨m, hrl⟩ : ∃ m, n - (i + 1) = m := ⟨_, rfl⟩
  have HM := Lib.hid (HRL.out.trans hrl)
  clear hc0 hx hrr hn1 hi hn hc hA'
  go_enter Tryz.func42, Tryz.ntmps42
  go_upto_region 3 with (fail)
  clear hc1 i9 i0 e1 e2 e3 e4 hra hrl
  refine gen_world (fun w' => Hid (Below w.heap.size w w')) (Below.refl _ _) ?_
  rintro w1 hb1
  go_wp2_with fail
  refine (lit_no x S1 H1.out (by decide) w1).mono ?_
  rintro e w2 ⟨rfl, rfl⟩
  go_upto_region 5 with (fail)
  refine gen_world (fun w' => Hid (Below w.heap.size w w')) (hb1.out.alloc hb1.out.size _) ?_
  clear hb1
  rintro w1 hb1
  go_wp2_with fail
  refine (lit_yes x S2 H2.out (by decide) w1).mono ?_
  rintro e w2 ⟨rfl, rfl⟩
  obtain ⟨ad2, hA2, ca⟩ := first_at HRS.out
  rw [add_zero] at ca
  have CA := Lib.hid ca
  obtain ⟨ad3, hA3, cb⟩ := second_at HRS.out
  rw [hA2] at hA3
  cases hA3
  have CB := Lib.hid cb
  subst hA2
  have m2 : ¬ ((m : Int) < 2) := by have hm := HM.out; simp at hm; omega
  have m0 : (0 : Int) < (m : Int) := by omega
  have m1 : (1 : Int) < (m : Int) := by omega
  clear ca cb
  go_upto_region 6 with (fail)
  refine gen_world (fun w' => Hid (Below w.heap.size w w')) (hb1.out.alloc hb1.out.size _) ?_
  clear hb1
  rintro w1 hb1
  have ca : w1.cell? ad2 = some (.string (str a)) := (hb1.out.cell (World.block_lt_of_cell? w _ CA.out)).trans CA.out
  have cb : w1.cell? ⟨ad2.block, ad2.off + 1, none⟩ = some (.string (str b)) := (hb1.out.cell (World.block_lt_of_cell? w _ CB.out)).trans CB.out
  go_wp2_with fail
  refine (lit_yes a cmps H4.out (by decide) w1).mono ?_
  rintro e w2 ⟨rfl, rfl⟩
  have cb2 : (w1.alloc (.cells (litc cmps) 9)).cell? ⟨ad2.block, ad2.off + 1, none⟩ = some (.string (str b)) := (((Below.refl _ _).alloc (Nat.le_refl _) _ : Below w1.heap.size w1 _).cell (World.block_lt_of_cell? w1 _ cb)).trans cb
  have HB2 : Hid (Below w.heap.size w (w1.alloc (.cells (litc cmps) 9))) := hb1.out.alloc hb1.out.size _
  generalize w1.alloc (.cells (litc cmps) 9) = w2 at *
  go_wp2_with fail
  refine (numR_any b w2).mono ?_
  rintro e w3 ⟨rfl, rfl⟩
  rw [HNR.out]
  have k0 : ¬ ((numV b : Int) < 0) := by omega
  generalize numV b = q at *
  go_wp2_with fail
  go_ret2
  exact ⟨HB2, .inl ⟨_, _, HLF.out, rfl⟩⟩
theorem operand_any (A : Option Addr) (c : Nat) (ws : List W) (i : Nat) (w : World) (hs : Hid (Strs w A (ws.map str))) (hi : i < ws.length) (hn : ws.length ≤ 1024) (hc : ws.length ≤ c) (hw : ∀ x ∈ ws, x.length ≤ 1023) :
    Calls Tryz.prog 42 #[.slice A ws.length c, .int .i64 i] w (OpPost ws[i] (ws.drop (i + 1)) w) := by
  obtain ⟨r, hrr⟩ : ∃ r, ws.drop (i + 1) = r := ⟨_, rfl⟩
  rw [hrr]
  by_cases h1 : ws[i] ∈ S1
  · exact op_all A c ws i w hs hi hn hc _ rfl r hrr h1
  by_cases h2 : ws[i] ∈ S2
  · match r, hrr with
    | [], hrr => exact op_short A c ws i w hs hi hn hc _ rfl _ hrr h2 (by decide)
    | [a], hrr => exact op_short A c ws i w hs hi hn hc _ rfl _ hrr h2 (by simp)
    | a :: b :: r', hrr =>
      by_cases h4 : a ∈ cmps
      · cases h5 : isNum b
        · exact op_num_no A c ws i w hs hi hn hc _ rfl _ hrr a b r' h2 rfl h4 h5
        · exact op_num_yes A c ws i w hs hi hn hc _ rfl _ hrr a b r' h2 rfl h4 h5
      · exact op_cmp A c ws i w hs hi hn hc _ rfl _ hrr a b r' h2 rfl h4
  match r, hrr with
  | [], hrr => exact op_end A c ws i w hs hi hn hc _ rfl _ hrr h1 h2 rfl
  | a :: r', hrr =>
    have ha : a.length ≤ 1023 := hw a (List.mem_of_mem_drop (i := i + 1) (by rw [hrr]; simp))
    by_cases h4 : ws[i] = [107, 105, 110, 100]
    · by_cases h5 : a ∈ KD
      · exact op_kind_yes A c ws i w hs hi hn hc _ rfl _ hrr a r' h1 h2 rfl h4 h5
      · exact op_kind_no A c ws i w hs hi hn hc _ rfl _ hrr a r' h1 h2 rfl h4 h5
    by_cases h5 : ws[i] ∈ S3
    · exact op_pattern A c ws i w hs hi hn hc _ rfl _ hrr a r' h1 h2 rfl h4 h5
    by_cases h6 : ws[i] ∈ S4
    · exact op_path A c ws i w hs hi hn hc _ rfl _ hrr a r' h1 h2 rfl h4 h5 h6 ha
    by_cases h8 : ws[i] ∈ S5
    · by_cases h7 : 255 < a.length
      · exact op_long A c ws i w hs hi hn hc _ rfl _ hrr a r' h1 h2 rfl h4 h5 h6 h8 h7
      · exact op_content A c ws i w hs hi hn hc _ rfl _ hrr a r' h1 h2 rfl h4 h5 h6 h8 h7
    · exact op_none A c ws i w hs hi hn hc _ rfl _ hrr a r' h1 h2 rfl h4 h5 h6 h8
end Go.Proofs.YtcdhkeahcliefaaGreatDoor.RefC
