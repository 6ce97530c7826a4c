/- find.Match: what it answers, for every pattern and text. -/
import Derived.Test.YtcdhkeahcliefaaPatOf
import Derived.Defers
import Derived.Recover
import Derived.Laws.Pointers
namespace Go.Proofs.Ytcdhkeahcliefaa.PatMatch
open Go.ChangeShapes Go.WideShapes Go.ChangeAt Go.RowKit
open Go.Proofs.Ytcdhkeahcliefaa.Kit Go.Proofs.Ytcdhkeahcliefaa.Pat Go.Proofs.Ytcdhkeahcliefaa.PatA Go.Proofs.Ytcdhkeahcliefaa.PatSet Go.Proofs.Ytcdhkeahcliefaa.PatPiece Go.Proofs.Ytcdhkeahcliefaa.PatCompile Go.Proofs.Ytcdhkeahcliefaa.PatOf
set_option linter.unusedVariables false

/-- the deferred literal, where an error was thrown: the named result is that error -/
theorem catch_threw (b : Nat) (x y : Int) (w : World) (hk : Blk w b #[.int .i64 y] 30) :
    CallsD Try.prog 28 #[.pointer (some ⟨b, 0, none⟩)] (.panicking [{ v := .iface 30 (.int .i64 x), recovered := false }]) w fun e u' w' =>
      e = .returned (.tuple #[]) ∧ u' = .panicking [{ v := .iface 30 (.int .i64 x), recovered := true }] ∧ Chg (fun k => k = b) w w' ∧ Blk w' b #[.int .i64 x] 30 := by
  refine callsD_of_wpS Try.func28 rfl fun c₀ cs hu => ?_
  apply wpS_seq
  apply wpS_region
  simp [wpOpsS, go_sem, recoverD, hu, Try.ntmps28, Exit.thenS]
  refine wpS_of_wp ?_
  have he : ∀ w, (binOp .eql 20 (.iface 30 (.int .i64 x)) .nilIface).run Try.prog w = .ok (.bool false) w := fun _ => by kernel_rfl
  have hta : ∀ w, (Instr.typeAssert (.iface 30 (.int .i64 x)) 20 30 true).run Try.prog w = .ok (.tuple #[.int .i64 x, .bool true]) w := fun _ => by kernel_rfl
  show Code.wp Try.prog _ _ { tmps := #[.pointer (some ⟨b, 0, none⟩), undef, undef, undef, .iface 30 (.int .i64 x), undef, undef, undef, undef, undef, undef], defers := [] } w
  have hc : w.cell? ⟨b, 0, none⟩ = some (.int .i64 y) := (hk.cell 0).trans rfl
  have hz := hk.frozen 0
  have HK := Lib.hid hk
  clear hk
  go_wp2
  refine ⟨rfl, _, rfl, .tuple #[], by simp [results, Try.results28], rfl, rfl, ?_, HK.out.put 0 (.int .i64 x)⟩
  exact Chg.only ((Only.refl b w).setCell ⟨b, 0, none⟩ rfl _) rfl
/-- the deferred literal, where nothing was thrown -/
theorem catch_idle (b : Nat) (w : World) :
    CallsD Try.prog 28 #[.pointer (some ⟨b, 0, none⟩)] .returning w fun e u' w' => e = .returned (.tuple #[]) ∧ u' = .returning ∧ w' = w := by
  refine callsD_of_wpS Try.func28 rfl fun c₀ cs hu => ?_
  apply wpS_seq
  apply wpS_region
  simp [wpOpsS, go_sem, recoverD, hu, Try.ntmps28, Exit.thenS]
  refine wpS_of_wp ?_
  have he : ∀ w, (binOp .eql 20 .nilIface .nilIface).run Try.prog w = .ok (.bool true) w := fun _ => by kernel_rfl
  show Code.wp Try.prog _ _ { tmps := #[.pointer (some ⟨b, 0, none⟩), undef, undef, undef, .nilIface, undef, undef, undef, undef, undef, undef], defers := [] } w
  go_wp2
  cases c₀
  simp_all [bodyPostS, results, Try.results28]
theorem chg_set (b : Nat) (w : World) (v : Value) : Chg (fun k => k = b) w (w.setCell ⟨b, 0, none⟩ v) := Chg.only ((Only.refl b w).setCell ⟨b, 0, none⟩ rfl _) rfl
/-- what a guarded call comes to: OK, or the error that was thrown -/
def Guarded (g : Nat) (R : World → Prop) (S : Int → World → Prop) (e : Ending) (w' : World) : Prop :=
  (e = .returned (.int .i64 0) ∧ ∃ w2, R w2 ∧ Chg (fun k => k = g) w2 w') ∨ (∃ x, e = .returned (.int .i64 x) ∧ ∃ w2, S x w2 ∧ Chg (fun k => k = g) w2 w')
/-- a guarded call: what the literal that was handed in does; an error that is thrown is the answer -/
theorem guarded_any (F : FuncId) (caps : Array Value) (w : World) (R : World → Prop) (S : Int → World → Prop) (hent : ∀ w, (callFunc F caps).run Try.prog w = .ok (.enter F caps) w)
    (hcl : ∀ w1, Below w.heap.size w w1 → Blk w1 w.heap.size #[.int .i64 0] 30 → Calls Try.prog F caps w1 fun e w2 => (e = .returned (.tuple #[]) ∧ Blk w2 w.heap.size #[.int .i64 0] 30 ∧ R w2) ∨ (∃ x, Threw x e ∧ Blk w2 w.heap.size #[.int .i64 0] 30 ∧ S x w2)) :
    Calls Try.prog 21 #[.func (.func F) #[] caps] w (Guarded w.heap.size R S) := by
  have hmf : ∀ (fn : Fn) (first cap : Array Value) (w : World), (Instr.makeFunc fn first cap).run Try.prog w = .ok (.func fn first cap) w := fun _ _ _ _ => rfl
  have HCL := Lib.hid hcl
  clear hcl
  go_enter_defers Try.func21, Try.ntmps21
  go_wp2_with fail
  refine (HCL.out _ ((Below.refl _ _).alloc (Nat.le_refl _) _) (Blk.new _ _ _)).mono ?_
  rintro e w2 (⟨rfl, hk, hr⟩ | ⟨x, he, hk, hs⟩)
  · have HK := Lib.hid hk
    have HR := Lib.hid hr
    have hc : w2.cell? ⟨w.heap.size, 0, none⟩ = some (.int .i64 0) := (hk.cell 0).trans rfl
    have hf := hk.frozen 0
    clear hk hr
    go_wp2_with fail
    refine leaves_cons (f := 28) (args := #[.pointer (some ⟨w.heap.size, 0, none⟩)]) (by simp) (by simp [go_sem]) ?_
    refine (catch_idle w.heap.size _).mono ?_
    rintro e u' w'' ⟨rfl, rfl, rfl⟩
    have hc2 : (w2.setCell ⟨w.heap.size, 0, none⟩ (.int .i64 0)).cell? ⟨w.heap.size, 0, none⟩ = some (.int .i64 0) := ((HK.out.put 0 (.int .i64 0)).cell 0).trans rfl
    refine ⟨.int .i64 0, by simp [results, Try.results21, go_sem, hc2], .inl ⟨rfl, w2, HR.out, chg_set _ _ _⟩⟩
  · unfold Threw at he
    subst he
    refine leaves_cons (f := 28) (args := #[.pointer (some ⟨w.heap.size, 0, none⟩)]) (by simp) (by simp [go_sem]) ?_
    refine (catch_threw w.heap.size x 0 _ hk).mono ?_
    rintro e u' w'' ⟨rfl, rfl, hch, hk6⟩
    have hc2 : w''.cell? ⟨w.heap.size, 0, none⟩ = some (.int .i64 x) := (hk6.cell 0).trans rfl
    refine ⟨.int .i64 x, by simp [results, Try.results21, go_sem, hc2], .inr ⟨x, rfl, w2, hs, hch⟩⟩
theorem enter22 (caps : Array Value) (w : World) : (callFunc 22 caps).run Try.prog w = .ok (.enter 22 caps) w := by go_simp
def CloPost (p t : ByteArray) (M : Nat) (w : World) (e : Ending) (w' : World) : Prop :=
  (∃ b, e = .returned (.tuple #[]) ∧ Answer p t b 0 ∧ Hid (Chg (fun k => k = M) w w' ∧ Blk w' M #[.bool b] 4)) ∨
  (∃ x, Threw x e ∧ Answer p t false x ∧ Hid (Below w.heap.size w w'))
set_option maxRecDepth 100000 in
set_option maxHeartbeats 1600000 in
theorem clo_any (p t : ByteArray) (P T M : Nat) (w : World) (HP : Hid (Blk w P #[.string p] 9)) (HT : Hid (Blk w T #[.string t] 9)) (HM : Hid (Blk w M #[.bool false] 4)) :
    Calls Try.prog 22 #[.pointer (some ⟨P, 0, none⟩), .pointer (some ⟨T, 0, none⟩), .pointer (some ⟨M, 0, none⟩)] w (CloPost p t M w) := by
  have cp : w.cell? ⟨P, 0, none⟩ = some (.string p) := (HP.out.cell 0).trans rfl
  go_enter Try.func22, Try.ntmps22
  go_wp2_with fail
  refine (compile_any p _).mono ?_
  clear cp
  rintro e w1 (⟨l, v, h255, hrun, hl, rfl, hb, ho⟩ | ⟨h255, hrun, he, hb⟩ | ⟨h255, he, hb⟩)
  · have ct : w1.cell? ⟨T, 0, none⟩ = some (.string t) := ((HT.out.below hb.out HT.out.lt).cell 0).trans rfl
    have HM1 : Hid (Blk w1 M #[.bool false] 4) := HM.out.below hb.out HM.out.lt
    have H2 : Hid (p.size ≤ 255 ∧ Run p 0 [] (some l) ∧ l.length ≤ 255) := ⟨h255, hrun, by omega⟩
    clear h255 hrun hl
    by_cases hlong : 1023 < t.size
    · have hli : (1023 : Int) < (t.size : Int) := by omega
      have HL := Lib.hid hlong
      have hpn := panics 7
      clear hlong
      go_wp2_with fail
      exact ⟨rfl, .inr ⟨7, rfl, .text H2.out.1 H2.out.2.1 HL.out, hb⟩⟩
    · have hli : ¬ ((1023 : Int) < (t.size : Int)) := by omega
      have HL : Hid (t.size ≤ 1023) := by show _ ≤ _; omega
      clear hlong
      go_wp2_with fail
      refine (of_any v _ l t _ HL.out H2.out.2.2 ho).mono ?_
      obtain ⟨b, hbb⟩ : ∃ b, isOf l t = b := ⟨_, rfl⟩
      unfold OfPost
      rw [hbb]
      have HBB := Lib.hid hbb
      clear hbb ct ho
      rintro e w2 ⟨rfl, hb2⟩
      have HM2 : Hid (Blk w2 M #[.bool false] 4) := HM1.out.below hb2.out HM1.out.lt
      have HC2 : Hid (Below w.heap.size w w2) := hb.out.trans (hb2.out.mono hb.out.size)
      have cm : w2.cell? ⟨M, 0, none⟩ = some (.bool false) := (HM2.out.cell 0).trans rfl
      have fm := HM2.out.frozen 0
      clear hb hb2 HM1
      go_wp2_with fail
      go_end0
      refine .inl ⟨b, rfl, by rw [← HBB.out]; exact .of H2.out.1 H2.out.2.1 HL.out, ?_, HM2.out.put 0 (.bool b)⟩
      exact (Chg.ofBelow HC2.out).trans (chg_set M w2 _)
  · unfold Threw at he
    subst he
    exact ⟨rfl, .inr ⟨190, rfl, .bad h255 hrun, hb⟩⟩
  · unfold Threw at he
    subst he
    exact ⟨rfl, .inr ⟨7, rfl, .long h255, hb⟩⟩
def MatchPost (p t : ByteArray) (w : World) (e : Ending) (w' : World) : Prop := ∃ b x, Answer p t b x ∧ e = .returned (.tuple #[.bool b, .int .i64 x]) ∧ Hid (Below w.heap.size w w')
set_option maxRecDepth 100000 in
set_option maxHeartbeats 1600000 in
theorem match_any (p t : ByteArray) (w : World) : Calls Try.prog 9 #[.string p, .string t] w (MatchPost p t w) := by
  have hmf : ∀ (fn : Fn) (first cap : Array Value) (w : World), (Instr.makeFunc fn first cap).run Try.prog w = .ok (.func fn first cap) w := fun _ _ _ _ => rfl
  go_enter Try.func9, Try.ntmps9
  go_upto_region 2 with (fail)
  obtain ⟨P, hP⟩ : ∃ P, w.heap.size = P := ⟨_, rfl⟩
  rw [hP]
  refine gen_world (fun w' => Hid (Below w.heap.size w w' ∧ Blk w' P #[.string p] 9 ∧ Blk w' (P + 1) #[.string t] 9 ∧ Blk w' (P + 1 + 1) #[.bool false] 4)) ?_ ?_
  · subst hP
    refine ⟨(((Below.refl _ _).alloc (Nat.le_refl _) _).alloc (by simp) _).alloc (by simp; omega) _, ((Blk.new w _ _).alloc _).alloc _, Blk.alloc ?_ _, ?_⟩
    · have h := Blk.new (w.alloc (.cells #[.string p] 9)) #[.string t] 9
      simpa using h
    · have h := Blk.new ((w.alloc (.cells #[.string p] 9)).alloc (.cells #[.string t] 9)) #[.bool false] 4
      simpa using h
  have HGE : Hid (w.heap.size ≤ P + 1 + 1) := by show _ ≤ _; omega
  clear hP
  generalize P + 1 + 1 = M at *
  generalize P + 1 = T at *
  rintro w1 h1
  go_wp2_with fail
  refine (guarded_any 22 #[.pointer (some ⟨P, 0, none⟩), .pointer (some ⟨T, 0, none⟩), .pointer (some ⟨M, 0, none⟩)] w1
    (fun w2 => ∃ b, Answer p t b 0 ∧ Below w.heap.size w w2 ∧ Blk w2 M #[.bool b] 4) (fun x w2 => Answer p t false x ∧ Below w.heap.size w w2 ∧ Blk w2 M #[.bool false] 4) (enter22 _) fun w2 hb hg => ?_).mono ?_
  · have hlt := h1.out.2.2.2.lt
    refine (clo_any p t P T M w2 (h1.out.2.1.below hb h1.out.2.1.lt) (h1.out.2.2.1.below hb h1.out.2.2.1.lt) (h1.out.2.2.2.below hb hlt)).mono ?_
    have hw2 : Below w.heap.size w w2 := h1.out.1.trans (hb.mono h1.out.1.size)
    rintro e w3 (⟨b, rfl, ha, hk⟩ | ⟨x, he, ha, hk⟩)
    · refine .inl ⟨rfl, hk.out.1.blk hg (by omega), b, ha, ?_, hk.out.2⟩
      exact hw2.trans ⟨hk.out.1.os, hk.out.1.tape, hk.out.1.output, hk.out.1.size, fun k hk2 => hk.out.1.block k (by have := hw2.size; omega) (by have := HGE.out; omega)⟩
    · refine .inr ⟨x, he, hg.below hk.out hg.lt, ha, hw2.trans (hk.out.mono hw2.size), ?_⟩
      exact (h1.out.2.2.2.below hb hlt).below hk.out (h1.out.2.2.2.below hb hlt).lt
  have HG : Hid (M < w1.heap.size ∧ w.heap.size ≤ w1.heap.size) := ⟨h1.out.2.2.2.lt, h1.out.1.size⟩
  have key : ∀ (b : Bool) (w2 w3 : World), Below w.heap.size w w2 → Blk w2 M #[.bool b] 4 → Chg (fun k => k = w1.heap.size) w2 w3 → Hid (Below w.heap.size w w3 ∧ Blk w3 M #[.bool b] 4) := fun b w2 w3 hb hk hc =>
    ⟨hb.trans ⟨hc.os, hc.tape, hc.output, hc.size, fun k hk2 => hc.block k (by have := hb.size; omega) (by have := HG.out; omega)⟩, hc.blk hk (by have := HG.out; omega)⟩
  have KEY := Lib.hid key
  clear key
  rintro e w2 (⟨rfl, w3, ⟨b, ha, hb, hk⟩, hc⟩ | ⟨x, rfl, w3, ⟨ha, hb, hk⟩, hc⟩)
  · have h4 := KEY.out b w3 w2 hb hk hc
    have HA := Lib.hid ha
    have cm : w2.cell? ⟨M, 0, none⟩ = some (.bool b) := (h4.out.2.cell 0).trans rfl
    clear ha hb hk hc h1
    go_wp2_with fail
    exact bodyPost_ret (v := .tuple #[.bool b, .int .i64 0]) (by simp [results, Try.results9]) rfl ⟨b, 0, HA.out, rfl, h4.out.1⟩
  · have h4 := KEY.out false w3 w2 hb hk hc
    have HA := Lib.hid ha
    have cm : w2.cell? ⟨M, 0, none⟩ = some (.bool false) := (h4.out.2.cell 0).trans rfl
    clear ha hb hk hc h1
    go_wp2_with fail
    exact bodyPost_ret (v := .tuple #[.bool false, .int .i64 x]) (by simp [results, Try.results9]) rfl ⟨false, x, HA.out, rfl, h4.out.1⟩
end Go.Proofs.Ytcdhkeahcliefaa.PatMatch
