/- The document's words of a line: inside, escaped, hex, next. -/
import Derived.Test.YtcdhkeahcliefaaGreatDoorPrint05
namespace Go.Proofs.YtcdhkeahcliefaaGreatDoor.LexC
open Go.ChangeShapes Go.WideShapes Go.ChangeAt Go.RowKit
open Go.Proofs.YtcdhkeahcliefaaGreatDoor.Kit Go.Proofs.YtcdhkeahcliefaaGreatDoor.Base Go.Proofs.YtcdhkeahcliefaaGreatDoor.Bld Go.Proofs.YtcdhkeahcliefaaGreatDoor.Lex Go.Proofs.YtcdhkeahcliefaaGreatDoor.LexB
set_option linter.unusedVariables false

set_option maxRecDepth 100000 in
set_option maxHeartbeats 1600000 in
theorem inside_any (Z P : Nat) (w0 w : World) (s : Lx) (c : UInt8) (h : Hid (Rd Z P w0 w s)) (hs : Hid (Sm s)) :
    Calls Tryz.prog 56 #[.pointer (some ⟨P, 0, none⟩), .int .u8 (c.toNat : Int)] w fun e w' => e = .returned (.tuple #[]) ∧ Hid (Rd Z P w0 w' (insideS s c)) := by
  obtain ⟨vw, vs, hv⟩ := h.out
  have HV := Lib.hid hv
  have c0 : w.cell? ⟨P, 0, none⟩ = some (.int .i64 s.pos) := (hv.2.2.1.cell 0).trans rfl
  have g0 := hv.2.2.1.frozen 0
  have c1 : w.cell? ⟨P, 1, none⟩ = some vw := (hv.2.2.1.cell 1).trans rfl
  have g1 := hv.2.2.1.frozen 1
  have c4 : w.cell? ⟨P, 4, none⟩ = some (.bool s.bad) := (hv.2.2.1.cell 4).trans rfl
  have g4 := hv.2.2.1.frozen 4
  clear hv
  by_cases h34 : c.toNat = 34
  · have HR : Hid (insideS s c = { endsS s with pos := 6 }) := if_pos h34
    have e34 : ((c.toNat : Int) == 34) = true := beq_iff_eq.2 (by omega)
    clear h34
    go_enter Tryz.func56, Tryz.ntmps56
    go_wp2_with fail
    refine (ends_any Z P w0 _ s h hs).mono ?_
    rintro e w2 ⟨rfl, h2⟩
    obtain ⟨vw2, vs2, hv2⟩ := h2.out
    have d0 : w2.cell? ⟨P, 0, none⟩ = some (.int .i64 (endsS s).pos) := (hv2.2.2.1.cell 0).trans rfl
    have f0 := hv2.2.2.1.frozen 0
    have HV2 := Lib.hid hv2
    clear hv2 c0 c1 c4 g0 g1 g4
    go_wp2_with fail
    go_end0
    refine ⟨rfl, ?_⟩
    rw [HR.out]
    exact ⟨_, _, HV2.out.setPos 6⟩
  have e34 : ((c.toNat : Int) == 34) = false := beq_eq_false_iff_ne.2 (by omega)
  by_cases h92 : c.toNat = 92
  · have HR : Hid (insideS s c = { s with pos := 3 }) := by show _ = _; unfold insideS; rw [if_neg h34, if_pos h92]
    have e92 : ((c.toNat : Int) == 92) = true := beq_iff_eq.2 (by omega)
    clear h34 h92
    go_enter Tryz.func56, Tryz.ntmps56
    go_wp2_with fail
    go_end0
    refine ⟨rfl, ?_⟩
    rw [HR.out]
    exact ⟨_, _, HV.out.setPos 3⟩
  have e92 : ((c.toNat : Int) == 92) = false := beq_eq_false_iff_ne.2 (by omega)
  by_cases h32 : c.toNat < 32
  · have HR : Hid (insideS s c = { s with bad := true }) := by show _ = _; unfold insideS isBarred; rw [if_neg h34, if_neg h92, if_pos (by simp [h32])]
    have x32 : (c.toNat : Int) < 32 := by omega
    clear h34 h92 h32
    go_enter Tryz.func56, Tryz.ntmps56
    go_wp2_with fail
    go_end0
    refine ⟨rfl, ?_⟩
    rw [HR.out]
    exact ⟨_, _, HV.out.setBad true⟩
  have x32 : ¬ ((c.toNat : Int) < 32) := by omega
  by_cases h127 : c.toNat = 127
  · have HR : Hid (insideS s c = { s with bad := true }) := by show _ = _; unfold insideS isBarred; rw [if_neg h34, if_neg h92, if_pos (by simp [h127])]
    have e127 : ((c.toNat : Int) == 127) = true := beq_iff_eq.2 (by omega)
    clear h34 h92 h32 h127
    go_enter Tryz.func56, Tryz.ntmps56
    go_wp2_with fail
    go_end0
    refine ⟨rfl, ?_⟩
    rw [HR.out]
    exact ⟨_, _, HV.out.setBad true⟩
  have e127 : ((c.toNat : Int) == 127) = false := beq_eq_false_iff_ne.2 (by omega)
  have HR : Hid (insideS s c = { s with word := s.word ++ [c] }) := by show _ = _; unfold insideS isBarred; rw [if_neg h34, if_neg h92, if_neg (by simp; omega)]
  clear h34 h92 h32 h127
  go_enter Tryz.func56, Tryz.ntmps56
  go_wp2_with (first | (at_builtin; go_loud (refine app_keep (v := vw) el60 rfl (.tmp 8) (.tmp 10) rfl rfl (RdV.raw HV) #[.int .u8 c.toNat] 1 1 rfl rfl (one_cell _ rfl) (Sm.byte hs) ?_); intro A7 c7 w7 h7 hk7; have d1 : w7.cell? ⟨P, 1, none⟩ = some vw := ((hk7.out.blk HV.out.2.2.1 (by decide)).cell 1).trans rfl; have f1 := (hk7.out.blk HV.out.2.2.1 (by decide)).frozen 1))
  go_end0
  refine ⟨rfl, ?_⟩
  rw [HR.out]
  exact ⟨_, _, HV.out.push c rfl h7.out hk7.out⟩
set_option maxRecDepth 100000 in
set_option maxHeartbeats 1600000 in
theorem escaped_any (Z P : Nat) (w0 w : World) (s : Lx) (c : UInt8) (h : Hid (Rd Z P w0 w s)) (hs : Hid (Sm s)) :
    Calls Tryz.prog 57 #[.pointer (some ⟨P, 0, none⟩), .int .u8 (c.toNat : Int)] w fun e w' => e = .returned (.tuple #[]) ∧ Hid (Rd Z P w0 w' (escapedS s c)) := by
  obtain ⟨vw, vs, hv⟩ := h.out
  have HV := Lib.hid hv
  have c0 : w.cell? ⟨P, 0, none⟩ = some (.int .i64 s.pos) := (hv.2.2.1.cell 0).trans rfl
  have g0 := hv.2.2.1.frozen 0
  clear hv
  have h1 : Hid (RdV Z P w0 (w.setCell ⟨P, 0, none⟩ (.int .i64 2)) { s with pos := 2 } vw vs) := HV.out.setPos 2
  by_cases hc : c.toNat = 92
  · have HR : Hid (escapedS s c = { s with pos := 2, word := s.word ++ [c] }) := by show _ = _; unfold escapedS; rw [if_pos (.inl hc)]
    have e92 : ((c.toNat : Int) == 92) = true := beq_iff_eq.2 (by omega)
    clear hc
    go_enter Tryz.func57, Tryz.ntmps57
    go_upto_region 1 with (fail)
    clear c0 g0
    generalize w.setCell ⟨P, 0, none⟩ (.int .i64 2) = w1 at *
    have c0 : w1.cell? ⟨P, 0, none⟩ = some (.int .i64 2) := (h1.out.2.2.1.cell 0).trans rfl
    have g0 := h1.out.2.2.1.frozen 0
    have c1 : w1.cell? ⟨P, 1, none⟩ = some vw := (h1.out.2.2.1.cell 1).trans rfl
    have c4 : w1.cell? ⟨P, 4, none⟩ = some (.bool s.bad) := (h1.out.2.2.1.cell 4).trans rfl
    have g4 := h1.out.2.2.1.frozen 4
    go_wp2_with (first | (at_builtin; go_loud (refine app_keep (v := vw) el60 rfl (.tmp 18) (.tmp 20) rfl rfl (RdV.raw h1) #[.int .u8 c.toNat] 1 1 rfl rfl (one_cell _ rfl) (Sm.byte hs) ?_); intro A7 c7 w7 h7 hk7; have d1 : w7.cell? ⟨P, 1, none⟩ = some vw := ((hk7.out.blk h1.out.2.2.1 (by decide)).cell 1).trans rfl; have f1 := (hk7.out.blk h1.out.2.2.1 (by decide)).frozen 1))
    go_end0
    refine ⟨rfl, ?_⟩
    rw [HR.out]
    exact ⟨_, _, h1.out.push c rfl h7.out hk7.out⟩
  have e92 : ((c.toNat : Int) == 92) = false := beq_eq_false_iff_ne.2 (by omega)
  have y92 := Lib.hid hc
  clear hc
  by_cases hc : c.toNat = 34
  · have HR : Hid (escapedS s c = { s with pos := 2, word := s.word ++ [c] }) := by show _ = _; unfold escapedS; rw [if_pos (.inr hc)]
    have e34 : ((c.toNat : Int) == 34) = true := beq_iff_eq.2 (by omega)
    clear hc
    go_enter Tryz.func57, Tryz.ntmps57
    go_upto_region 1 with (fail)
    clear c0 g0
    generalize w.setCell ⟨P, 0, none⟩ (.int .i64 2) = w1 at *
    have c0 : w1.cell? ⟨P, 0, none⟩ = some (.int .i64 2) := (h1.out.2.2.1.cell 0).trans rfl
    have g0 := h1.out.2.2.1.frozen 0
    have c1 : w1.cell? ⟨P, 1, none⟩ = some vw := (h1.out.2.2.1.cell 1).trans rfl
    have c4 : w1.cell? ⟨P, 4, none⟩ = some (.bool s.bad) := (h1.out.2.2.1.cell 4).trans rfl
    have g4 := h1.out.2.2.1.frozen 4
    go_wp2_with (first | (at_builtin; go_loud (refine app_keep (v := vw) el60 rfl (.tmp 18) (.tmp 20) rfl rfl (RdV.raw h1) #[.int .u8 c.toNat] 1 1 rfl rfl (one_cell _ rfl) (Sm.byte hs) ?_); intro A7 c7 w7 h7 hk7; have d1 : w7.cell? ⟨P, 1, none⟩ = some vw := ((hk7.out.blk h1.out.2.2.1 (by decide)).cell 1).trans rfl; have f1 := (hk7.out.blk h1.out.2.2.1 (by decide)).frozen 1))
    go_end0
    refine ⟨rfl, ?_⟩
    rw [HR.out]
    exact ⟨_, _, h1.out.push c rfl h7.out hk7.out⟩
  have e34 : ((c.toNat : Int) == 34) = false := beq_eq_false_iff_ne.2 (by omega)
  have y34 := Lib.hid hc
  clear hc
  by_cases hc : c.toNat = 110
  · have HR : Hid (escapedS s c = { s with pos := 2, word := s.word ++ [10] }) := by show _ = _; unfold escapedS; rw [if_neg (by have := y92.out; have := y34.out; omega), if_pos hc]
    have e110 : ((c.toNat : Int) == 110) = true := beq_iff_eq.2 (by omega)
    clear hc
    go_enter Tryz.func57, Tryz.ntmps57
    go_upto_region 1 with (fail)
    clear c0 g0
    generalize w.setCell ⟨P, 0, none⟩ (.int .i64 2) = w1 at *
    have c0 : w1.cell? ⟨P, 0, none⟩ = some (.int .i64 2) := (h1.out.2.2.1.cell 0).trans rfl
    have g0 := h1.out.2.2.1.frozen 0
    have c1 : w1.cell? ⟨P, 1, none⟩ = some vw := (h1.out.2.2.1.cell 1).trans rfl
    have c4 : w1.cell? ⟨P, 4, none⟩ = some (.bool s.bad) := (h1.out.2.2.1.cell 4).trans rfl
    have g4 := h1.out.2.2.1.frozen 4
    go_wp2_with (first | (at_builtin; go_loud (refine app_keep (v := vw) el60 rfl (.tmp 30) (.tmp 31) rfl rfl (RdV.raw h1) #[.int .u8 10] 1 1 rfl rfl (one_cell _ rfl) (Sm.byte hs) ?_); intro A7 c7 w7 h7 hk7; have d1 : w7.cell? ⟨P, 1, none⟩ = some vw := ((hk7.out.blk h1.out.2.2.1 (by decide)).cell 1).trans rfl; have f1 := (hk7.out.blk h1.out.2.2.1 (by decide)).frozen 1))
    go_end0
    refine ⟨rfl, ?_⟩
    rw [HR.out]
    exact ⟨_, _, h1.out.push 10 rfl h7.out hk7.out⟩
  have e110 : ((c.toNat : Int) == 110) = false := beq_eq_false_iff_ne.2 (by omega)
  have y110 := Lib.hid hc
  clear hc
  by_cases hc : c.toNat = 116
  · have HR : Hid (escapedS s c = { s with pos := 2, word := s.word ++ [9] }) := by show _ = _; unfold escapedS; rw [if_neg (by have := y92.out; have := y34.out; omega), if_neg y110.out, if_pos hc]
    have e116 : ((c.toNat : Int) == 116) = true := beq_iff_eq.2 (by omega)
    clear hc
    go_enter Tryz.func57, Tryz.ntmps57
    go_upto_region 1 with (fail)
    clear c0 g0
    generalize w.setCell ⟨P, 0, none⟩ (.int .i64 2) = w1 at *
    have c0 : w1.cell? ⟨P, 0, none⟩ = some (.int .i64 2) := (h1.out.2.2.1.cell 0).trans rfl
    have g0 := h1.out.2.2.1.frozen 0
    have c1 : w1.cell? ⟨P, 1, none⟩ = some vw := (h1.out.2.2.1.cell 1).trans rfl
    have c4 : w1.cell? ⟨P, 4, none⟩ = some (.bool s.bad) := (h1.out.2.2.1.cell 4).trans rfl
    have g4 := h1.out.2.2.1.frozen 4
    go_wp2_with (first | (at_builtin; go_loud (refine app_keep (v := vw) el60 rfl (.tmp 41) (.tmp 42) rfl rfl (RdV.raw h1) #[.int .u8 9] 1 1 rfl rfl (one_cell _ rfl) (Sm.byte hs) ?_); intro A7 c7 w7 h7 hk7; have d1 : w7.cell? ⟨P, 1, none⟩ = some vw := ((hk7.out.blk h1.out.2.2.1 (by decide)).cell 1).trans rfl; have f1 := (hk7.out.blk h1.out.2.2.1 (by decide)).frozen 1))
    go_end0
    refine ⟨rfl, ?_⟩
    rw [HR.out]
    exact ⟨_, _, h1.out.push 9 rfl h7.out hk7.out⟩
  have e116 : ((c.toNat : Int) == 116) = false := beq_eq_false_iff_ne.2 (by omega)
  have y116 := Lib.hid hc
  clear hc
  by_cases hc : c.toNat = 120
  · have HR : Hid (escapedS s c = { s with pos := 4 }) := by show _ = _; unfold escapedS; rw [if_neg (by have := y92.out; have := y34.out; omega), if_neg y110.out, if_neg y116.out, if_pos hc]
    have e120 : ((c.toNat : Int) == 120) = true := beq_iff_eq.2 (by omega)
    clear hc
    go_enter Tryz.func57, Tryz.ntmps57
    go_upto_region 1 with (fail)
    clear c0 g0
    generalize w.setCell ⟨P, 0, none⟩ (.int .i64 2) = w1 at *
    have c0 : w1.cell? ⟨P, 0, none⟩ = some (.int .i64 2) := (h1.out.2.2.1.cell 0).trans rfl
    have g0 := h1.out.2.2.1.frozen 0
    have c1 : w1.cell? ⟨P, 1, none⟩ = some vw := (h1.out.2.2.1.cell 1).trans rfl
    have c4 : w1.cell? ⟨P, 4, none⟩ = some (.bool s.bad) := (h1.out.2.2.1.cell 4).trans rfl
    have g4 := h1.out.2.2.1.frozen 4
    go_wp2_with fail
    go_end0
    refine ⟨rfl, ?_⟩
    rw [HR.out]
    exact ⟨_, _, h1.out.setPos 4⟩
  · have HR : Hid (escapedS s c = { s with pos := 2, bad := true }) := by show _ = _; unfold escapedS; rw [if_neg (by have := y92.out; have := y34.out; omega), if_neg y110.out, if_neg y116.out, if_neg hc]
    have e120 : ((c.toNat : Int) == 120) = false := beq_eq_false_iff_ne.2 (by omega)
    clear hc
    go_enter Tryz.func57, Tryz.ntmps57
    go_upto_region 1 with (fail)
    clear c0 g0
    generalize w.setCell ⟨P, 0, none⟩ (.int .i64 2) = w1 at *
    have c0 : w1.cell? ⟨P, 0, none⟩ = some (.int .i64 2) := (h1.out.2.2.1.cell 0).trans rfl
    have g0 := h1.out.2.2.1.frozen 0
    have c1 : w1.cell? ⟨P, 1, none⟩ = some vw := (h1.out.2.2.1.cell 1).trans rfl
    have c4 : w1.cell? ⟨P, 4, none⟩ = some (.bool s.bad) := (h1.out.2.2.1.cell 4).trans rfl
    have g4 := h1.out.2.2.1.frozen 4
    go_wp2_with fail
    go_end0
    refine ⟨rfl, ?_⟩
    rw [HR.out]
    exact ⟨_, _, h1.out.setBad true⟩
set_option maxRecDepth 100000 in
set_option maxHeartbeats 1600000 in
theorem hex_any (c : Nat) (w : World) (hc9 : c ≤ 255) : Calls Tryz.prog 58 #[.int .u8 (c : Int)] w fun e w' => e = .returned (.int .i64 (hexv c)) ∧ w = w' := by
  have HC9 := Lib.hid hc9
  have c9 : (c : Int) ≤ 255 := by omega
  have c0 : (0 : Int) ≤ (c : Int) := by omega
  unfold hexv
  by_cases hc : 48 ≤ c ∧ 57 ≥ c
  · rw [if_pos (show 48 ≤ c ∧ c ≤ 57 from hc)]
    have a48 : ((48 : Int) ≤ (c : Int)) := by omega
    have a57 : ((c : Int) ≤ (57 : Int)) := by omega
    clear hc hc9
    go_enter Tryz.func58, Tryz.ntmps58
    go_wp2_with fail
    go_ret
    exact ⟨rfl, rfl⟩
  rw [if_neg (show ¬ (48 ≤ c ∧ c ≤ 57) from hc)]
  have n48 : c < 48 ∨ 57 < c := by omega
  clear hc
  by_cases hc : 97 ≤ c ∧ 102 ≥ c
  · rw [if_pos (show 97 ≤ c ∧ c ≤ 102 from hc)]
    have a97 : ((97 : Int) ≤ (c : Int)) := by omega
    have a102 : ((c : Int) ≤ (102 : Int)) := by omega
    clear hc hc9
    go_enter Tryz.func58, Tryz.ntmps58
    go_wp2_with fail
    go_ret
    exact ⟨rfl, rfl⟩
  rw [if_neg (show ¬ (97 ≤ c ∧ c ≤ 102) from hc)]
  have n97 : c < 97 ∨ 102 < c := by omega
  clear hc
  by_cases hc : 65 ≤ c ∧ 70 ≥ c
  · rw [if_pos (show 65 ≤ c ∧ c ≤ 70 from hc)]
    have a65 : ((65 : Int) ≤ (c : Int)) := by omega
    have a70 : ((c : Int) ≤ (70 : Int)) := by omega
    clear hc hc9
    go_enter Tryz.func58, Tryz.ntmps58
    go_wp2_with fail
    go_ret
    exact ⟨rfl, rfl⟩
  rw [if_neg (show ¬ (65 ≤ c ∧ c ≤ 70) from hc)]
  have n65 : c < 65 ∨ 70 < c := by omega
  clear hc
  have key : Hid ((c < 48 ∨ 57 < c) ∧ (c < 97 ∨ 102 < c) ∧ (c < 65 ∨ 70 < c)) := ⟨n48, n97, n65⟩
  clear n48 n97 n65 hc9
  rcases key.out with ⟨h1, h2, h3⟩
  rcases h1 with h1 | h1 <;> rcases h2 with h2 | h2 <;> rcases h3 with h3 | h3
  all_goals (
    first
    | (exfalso; omega)
    | (have z1 : ¬ ((48 : Int) ≤ (c : Int)) := by omega
       have z2 : ¬ ((97 : Int) ≤ (c : Int)) := by omega
       have z3 : ¬ ((65 : Int) ≤ (c : Int)) := by omega
       clear h1 h2 h3
       go_enter Tryz.func58, Tryz.ntmps58
       go_wp2_with fail
       go_ret
       exact ⟨rfl, rfl⟩)
    | (have z1 : (48 : Int) ≤ (c : Int) := by omega
       have z4 : ¬ ((c : Int) ≤ (57 : Int)) := by omega
       have z2 : ¬ ((97 : Int) ≤ (c : Int)) := by omega
       have z3 : ¬ ((65 : Int) ≤ (c : Int)) := by omega
       clear h1 h2 h3
       go_enter Tryz.func58, Tryz.ntmps58
       go_wp2_with fail
       go_ret
       exact ⟨rfl, rfl⟩)
    | (have z1 : (48 : Int) ≤ (c : Int) := by omega
       have z4 : ¬ ((c : Int) ≤ (57 : Int)) := by omega
       have z2 : ¬ ((97 : Int) ≤ (c : Int)) := by omega
       have z3 : (65 : Int) ≤ (c : Int) := by omega
       have z5 : ¬ ((c : Int) ≤ (70 : Int)) := by omega
       clear h1 h2 h3
       go_enter Tryz.func58, Tryz.ntmps58
       go_wp2_with fail
       go_ret
       exact ⟨rfl, rfl⟩)
    | (have z1 : (48 : Int) ≤ (c : Int) := by omega
       have z4 : ¬ ((c : Int) ≤ (57 : Int)) := by omega
       have z2 : (97 : Int) ≤ (c : Int) := by omega
       have z6 : ¬ ((c : Int) ≤ (102 : Int)) := by omega
       have z3 : (65 : Int) ≤ (c : Int) := by omega
       have z5 : ¬ ((c : Int) ≤ (70 : Int)) := by omega
       clear h1 h2 h3
       go_enter Tryz.func58, Tryz.ntmps58
       go_wp2_with fail
       go_ret
       exact ⟨rfl, rfl⟩))
set_option maxRecDepth 100000 in
set_option maxHeartbeats 1600000 in
theorem digit_any (c : Nat) (w : World) (hc9 : c ≤ 1114111) : Calls Tryz.prog 52 #[.int .i32 (c : Int)] w fun e w' => e = .returned (.int .i64 (hexv c)) ∧ w = w' := by
  have HC9 := Lib.hid hc9
  have c9 : (c : Int) ≤ 1114111 := by omega
  have c0 : (0 : Int) ≤ (c : Int) := by omega
  unfold hexv
  by_cases hc : 48 ≤ c ∧ 57 ≥ c
  · rw [if_pos (show 48 ≤ c ∧ c ≤ 57 from hc)]
    have a48 : ((48 : Int) ≤ (c : Int)) := by omega
    have a57 : ((c : Int) ≤ (57 : Int)) := by omega
    clear hc hc9
    go_enter Tryz.func52, Tryz.ntmps52
    go_wp2_with fail
    go_ret
    exact ⟨rfl, rfl⟩
  rw [if_neg (show ¬ (48 ≤ c ∧ c ≤ 57) from hc)]
  have n48 : c < 48 ∨ 57 < c := by omega
  clear hc
  by_cases hc : 97 ≤ c ∧ 102 ≥ c
  · rw [if_pos (show 97 ≤ c ∧ c ≤ 102 from hc)]
    have a97 : ((97 : Int) ≤ (c : Int)) := by omega
    have a102 : ((c : Int) ≤ (102 : Int)) := by omega
    clear hc hc9
    go_enter Tryz.func52, Tryz.ntmps52
    go_wp2_with fail
    go_ret
    exact ⟨rfl, rfl⟩
  rw [if_neg (show ¬ (97 ≤ c ∧ c ≤ 102) from hc)]
  have n97 : c < 97 ∨ 102 < c := by omega
  clear hc
  by_cases hc : 65 ≤ c ∧ 70 ≥ c
  · rw [if_pos (show 65 ≤ c ∧ c ≤ 70 from hc)]
    have a65 : ((65 : Int) ≤ (c : Int)) := by omega
    have a70 : ((c : Int) ≤ (70 : Int)) := by omega
    clear hc hc9
    go_enter Tryz.func52, Tryz.ntmps52
    go_wp2_with fail
    go_ret
    exact ⟨rfl, rfl⟩
  rw [if_neg (show ¬ (65 ≤ c ∧ c ≤ 70) from hc)]
  have n65 : c < 65 ∨ 70 < c := by omega
  clear hc
  have key : Hid ((c < 48 ∨ 57 < c) ∧ (c < 97 ∨ 102 < c) ∧ (c < 65 ∨ 70 < c)) := ⟨n48, n97, n65⟩
  clear n48 n97 n65 hc9
  rcases key.out with ⟨h1, h2, h3⟩
  rcases h1 with h1 | h1 <;> rcases h2 with h2 | h2 <;> rcases h3 with h3 | h3
  all_goals (
    first
    | (exfalso; omega)
    | (have z1 : ¬ ((48 : Int) ≤ (c : Int)) := by omega
       have z2 : ¬ ((97 : Int) ≤ (c : Int)) := by omega
       have z3 : ¬ ((65 : Int) ≤ (c : Int)) := by omega
       clear h1 h2 h3
       go_enter Tryz.func52, Tryz.ntmps52
       go_wp2_with fail
       go_ret
       exact ⟨rfl, rfl⟩)
    | (have z1 : (48 : Int) ≤ (c : Int) := by omega
       have z4 : ¬ ((c : Int) ≤ (57 : Int)) := by omega
       have z2 : ¬ ((97 : Int) ≤ (c : Int)) := by omega
       have z3 : ¬ ((65 : Int) ≤ (c : Int)) := by omega
       clear h1 h2 h3
       go_enter Tryz.func52, Tryz.ntmps52
       go_wp2_with fail
       go_ret
       exact ⟨rfl, rfl⟩)
    | (have z1 : (48 : Int) ≤ (c : Int) := by omega
       have z4 : ¬ ((c : Int) ≤ (57 : Int)) := by omega
       have z2 : ¬ ((97 : Int) ≤ (c : Int)) := by omega
       have z3 : (65 : Int) ≤ (c : Int) := by omega
       have z5 : ¬ ((c : Int) ≤ (70 : Int)) := by omega
       clear h1 h2 h3
       go_enter Tryz.func52, Tryz.ntmps52
       go_wp2_with fail
       go_ret
       exact ⟨rfl, rfl⟩)
    | (have z1 : (48 : Int) ≤ (c : Int) := by omega
       have z4 : ¬ ((c : Int) ≤ (57 : Int)) := by omega
       have z2 : (97 : Int) ≤ (c : Int) := by omega
       have z6 : ¬ ((c : Int) ≤ (102 : Int)) := by omega
       have z3 : (65 : Int) ≤ (c : Int) := by omega
       have z5 : ¬ ((c : Int) ≤ (70 : Int)) := by omega
       clear h1 h2 h3
       go_enter Tryz.func52, Tryz.ntmps52
       go_wp2_with fail
       go_ret
       exact ⟨rfl, rfl⟩))
end Go.Proofs.YtcdhkeahcliefaaGreatDoor.LexC
