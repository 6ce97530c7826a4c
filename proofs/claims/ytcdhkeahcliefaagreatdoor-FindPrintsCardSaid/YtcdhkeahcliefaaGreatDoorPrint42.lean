/- The document's Print. The program's Print. The one fixed query of the law. FindPrints: every Print is the document's; where the library's tables lie as they were laid. -/
import Derived.Test.YtcdhkeahcliefaaGreatDoorPrint41
import Derived.Test.YtcdhkeahcliefaaGreatDoorPrint33
import Derived.Test.YtcdhkeahcliefaaGreatDoorPrint25
import Derived.Test.YtcdhkeahcliefaaGreatDoorPrint28
import Derived.Defers
import Derived.Recover
import Derived.Laws.Pointers
/- The document's Print. -/
namespace Go.Proofs.YtcdhkeahcliefaaGreatDoor.RefQ
open Go.ChangeShapes Go.WideShapes Go.ChangeAt Go.RowKit
open Go.Proofs.YtcdhkeahcliefaaGreatDoor.Kit Go.Proofs.YtcdhkeahcliefaaGreatDoor.Base Go.Proofs.YtcdhkeahcliefaaGreatDoor.Term Go.Proofs.YtcdhkeahcliefaaGreatDoor.Syn Go.Proofs.YtcdhkeahcliefaaGreatDoor.Gram Go.Proofs.YtcdhkeahcliefaaGreatDoor.GramB Go.Proofs.YtcdhkeahcliefaaGreatDoor.RefD Go.Proofs.YtcdhkeahcliefaaGreatDoor.RefE Go.Proofs.YtcdhkeahcliefaaGreatDoor.RefG Go.Proofs.YtcdhkeahcliefaaGreatDoor.RefH Go.Proofs.YtcdhkeahcliefaaGreatDoor.RefI Go.Proofs.YtcdhkeahcliefaaGreatDoor.RefN Go.Proofs.YtcdhkeahcliefaaGreatDoor.RefP Go.Proofs.YtcdhkeahcliefaaGreatDoor.Text Go.Proofs.YtcdhkeahcliefaaGreatDoor.Size Go.Proofs.YtcdhkeahcliefaaGreatDoor.Parse
open Go.Proofs.YtcdhkeahcliefaaGreatDoor.Lex (lexed)
set_option linter.unusedVariables false

theorem read_err {l : List UInt8} {e : Int} (h : parseQ l = .error e) : e ≠ 0 ∧ readQ l = .error e := by
  unfold parseQ at h
  unfold readQ
  by_cases hl : 1023 < l.length
  · rw [if_pos hl] at h ⊢
    injection h with h
    subst h
    exact ⟨by decide, rfl⟩
  · rw [if_neg hl] at h ⊢
    cases hx : lexed l with
    | none => rw [hx] at h; injection h with h; subst h; exact ⟨by decide, rfl⟩
    | some ws => rw [hx] at h; exact ⟨parse_err h, (parse_parts ws).1 e h⟩
theorem read_ok {l : List UInt8} {t : Term} (h : parseQ l = .ok t) : (textT t).length ≤ 65536 ∧ ∃ wl, D 2 wl t ∧ readQ l = .ok wl ∧ wl.length ≤ 2048 ∧ ∀ d ∈ wl, d.s.length ≤ 1023 := by
  unfold parseQ at h
  unfold readQ
  by_cases hl : 1023 < l.length
  · rw [if_pos hl] at h; cases h
  · rw [if_neg hl] at h ⊢
    cases hx : lexed l with
    | none => rw [hx] at h; cases h
    | some ws =>
      rw [hx] at h
      obtain ⟨wl, h1, h2, h3⟩ := (parse_parts ws).2 t h
      obtain ⟨hn, hw⟩ := lexed_small hx (by omega)
      have hs := lexed_sum hx
      have hu := d_up h1
      have hww := wt_words wl
      rw [h2] at hww
      have hlen : wl.length = ws.length := by rw [← h2, List.length_map]
      refine ⟨by omega, wl, h1, h3, by omega, fun d hd => hw d.s ?_⟩
      rw [← h2]
      exact List.mem_map_of_mem hd
/-- what both Prints answer -/
noncomputable def ansQ (r : Except Int Term) : Value := match r with
  | .error e => .tuple #[.string ⟨#[]⟩, .int .i64 e]
  | .ok t => .tuple #[.string (str (textT t)), .int .i64 0]
set_option maxRecDepth 100000 in
set_option maxHeartbeats 3200000 in
theorem printR_any (l : List UInt8) (w : World) : Calls Tryz.prog 5 #[.string (str l)] w fun e w' => e = .returned (ansQ (parseQ l)) ∧ Hid (Below w.heap.size w w') := by
  have HR := Lib.hid (read_any l w)
  cases hp : parseQ l with
  | error er =>
    obtain ⟨h0, hr⟩ := read_err hp
    rw [hr] at HR
    rw [show ansQ (.error er) = .tuple #[.string ⟨#[]⟩, .int .i64 er] from rfl]
    have t0 : (er != 0) = true := by rw [bne_iff_ne]; exact h0
    clear hp hr h0
    go_enter Tryz.func5, Tryz.ntmps5
    go_wp2_with fail
    refine HR.out.mono ?_
    rintro e w2 (⟨er', he, rfl, hb⟩ | ⟨l2, A, c, he, _⟩)
    · cases he
      go_wp2_with fail
      go_ret2
      exact ⟨rfl, hb⟩
    · cases he
  | ok t =>
    obtain ⟨hsz, wl, hD, hr, hwl, hwb⟩ := read_ok hp
    rw [hr] at HR
    rw [show ansQ (.ok t) = .tuple #[.string (str (textT t)), .int .i64 0] from rfl]
    have HW := Lib.hid (fun A c w' (hw : Hid (WordsAt w' A c wl)) => whole_all wl.length wl t (Nat.le_refl _) hD hwl hwb A c w' hw)
    have HSZ : Hid ((textT t).length ≤ 65536) := hsz
    clear hp hr hD hwl hwb hsz
    go_enter Tryz.func5, Tryz.ntmps5
    go_wp2_with fail
    refine HR.out.mono ?_
    clear HR
    rintro e w2 (⟨er', he, _⟩ | ⟨l2, A, c, he, rfl, hb, hwd⟩)
    · cases he
    · cases he
      have HW2 := Lib.hid (HW.out A c w2 hwd)
      clear HW
      go_wp2_with fail
      refine HW2.out.mono ?_
      rintro e w4 ⟨⟨fo, fu, fw⟩, rfl, hf, hb4⟩
      obtain ⟨⟨Au, nu, cu, hu⟩, ⟨Aw, nw, cw, hw2⟩⟩ := form_slices hf.out
      have hu : fu = .slice Au nu cu := hu
      have hw2 : fw = .slice Aw nw cw := hw2
      subst hu hw2
      rw [show fval (fo, .slice Au nu cu, .slice Aw nw cw) = .agg #[.string (str fo), .slice Au nu cu, .slice Aw nw cw] from rfl]
      have HPR := Lib.hid (print_all hf.out)
      have hal : Below w4.heap.size w4 (w4.alloc (.cells #[.string (str fo), .slice Au nu cu, .slice Aw nw cw] 39)) := (Below.refl _ _).alloc (Nat.le_refl _) _
      have HPC := Lib.hid (HPR.out 0 (w4.alloc (.cells #[.string (str fo), .slice Au nu cu, .slice Aw nw cw] 39)) (by decide) hal HSZ)
      have HPC : Hid (Calls Tryz.prog 12 #[.agg #[.string (str fo), .slice Au nu cu, .slice Aw nw cw], .int .i64 0] (w4.alloc (.cells #[.string (str fo), .slice Au nu cu, .slice Aw nw cw] 39)) (TextPost (textT t) (w4.alloc (.cells #[.string (str fo), .slice Au nu cu, .slice Aw nw cw] 39)))) := HPC
      have HBA : Hid (Below w.heap.size w (w4.alloc (.cells #[.string (str fo), .slice Au nu cu, .slice Aw nw cw] 39))) := hb.out.trans ((hb4.out.mono hb.out.size).trans (hal.mono (Nat.le_trans hb.out.size hb4.out.size)))
      clear hal HPR HW2
      go_wp2_with fail
      refine HPC.out.mono ?_
      rintro e w5 ⟨rfl, hb5⟩
      go_wp2_with fail
      go_ret2
      exact ⟨rfl, HBA.out.trans (hb5.out.mono HBA.out.size)⟩
end Go.Proofs.YtcdhkeahcliefaaGreatDoor.RefQ
/- The program's Print. -/
namespace Go.Proofs.YtcdhkeahcliefaaGreatDoor.Top
open Go.ChangeShapes Go.WideShapes Go.ChangeAt Go.RowKit
open Go.Proofs.YtcdhkeahcliefaaGreatDoor.Kit Go.Proofs.YtcdhkeahcliefaaGreatDoor.Base Go.Proofs.YtcdhkeahcliefaaGreatDoor.PatA Go.Proofs.YtcdhkeahcliefaaGreatDoor.Term Go.Proofs.YtcdhkeahcliefaaGreatDoor.Syn Go.Proofs.YtcdhkeahcliefaaGreatDoor.Text Go.Proofs.YtcdhkeahcliefaaGreatDoor.Parse Go.Proofs.YtcdhkeahcliefaaGreatDoor.RefQ
set_option linter.unusedVariables false

/-- the deferred literal, where an error was thrown: the named result is that error -/
theorem catch_threw (b : Nat) (x y : Int) (w : World) (hk : Blk w b #[.int .i64 y] 23) :
    CallsD Tryz.prog 13 #[.pointer (some ⟨b, 0, none⟩)] (.panicking [{ v := .iface 23 (.int .i64 x), recovered := false }]) w fun e u' w' =>
      e = .returned (.tuple #[]) ∧ u' = .panicking [{ v := .iface 23 (.int .i64 x), recovered := true }] ∧ Chg (fun k => k = b) w w' ∧ Blk w' b #[.int .i64 x] 23 := by
  refine callsD_of_wpS Tryz.func13 rfl fun c₀ cs hu => ?_
  apply wpS_seq
  apply wpS_region
  simp [wpOpsS, go_sem, recoverD, hu, Tryz.ntmps13, Exit.thenS]
  refine wpS_of_wp ?_
  have he : ∀ w, (binOp .eql 20 (.iface 23 (.int .i64 x)) .nilIface).run Tryz.prog w = .ok (.bool false) w := fun _ => by kernel_rfl
  have hta : ∀ w, (Instr.typeAssert (.iface 23 (.int .i64 x)) 20 23 true).run Tryz.prog w = .ok (.tuple #[.int .i64 x, .bool true]) w := fun _ => by kernel_rfl
  show Code.wp Tryz.prog _ _ { tmps := #[.pointer (some ⟨b, 0, none⟩), undef, undef, undef, .iface 23 (.int .i64 x), undef, undef, undef, undef, undef, undef], defers := [] } w
  have hc : w.cell? ⟨b, 0, none⟩ = some (.int .i64 y) := (hk.cell 0).trans rfl
  have hz := hk.frozen 0
  have HK := Lib.hid hk
  clear hk
  go_wp2
  refine ⟨rfl, _, rfl, .tuple #[], by simp [results, Tryz.results13], rfl, rfl, ?_, HK.out.put 0 (.int .i64 x)⟩
  exact Chg.of_only ((Only.refl b w).setCell ⟨b, 0, none⟩ rfl _) rfl
/-- the deferred literal, where nothing was thrown -/
theorem catch_idle (b : Nat) (w : World) :
    CallsD Tryz.prog 13 #[.pointer (some ⟨b, 0, none⟩)] .returning w fun e u' w' => e = .returned (.tuple #[]) ∧ u' = .returning ∧ w' = w := by
  refine callsD_of_wpS Tryz.func13 rfl fun c₀ cs hu => ?_
  apply wpS_seq
  apply wpS_region
  simp [wpOpsS, go_sem, recoverD, hu, Tryz.ntmps13, Exit.thenS]
  refine wpS_of_wp ?_
  have he : ∀ w, (binOp .eql 20 .nilIface .nilIface).run Tryz.prog w = .ok (.bool true) w := fun _ => by kernel_rfl
  show Code.wp Tryz.prog _ _ { tmps := #[.pointer (some ⟨b, 0, none⟩), undef, undef, undef, .nilIface, undef, undef, undef, undef, undef, undef], defers := [] } w
  go_wp2
  cases c₀
  simp_all [bodyPostS, results, Tryz.results13]
theorem chg_set (b : Nat) (w : World) (v : Value) : Chg (fun k => k = b) w (w.setCell ⟨b, 0, none⟩ v) := Chg.of_only ((Only.refl b w).setCell ⟨b, 0, none⟩ rfl _) rfl
/-- what a guarded call comes to: OK, or the error that was thrown -/
def Guarded (g : Nat) (R : World → Prop) (S : Int → World → Prop) (e : Ending) (w' : World) : Prop :=
  (e = .returned (.int .i64 0) ∧ ∃ w2, R w2 ∧ Chg (fun k => k = g) w2 w') ∨ (∃ x, e = .returned (.int .i64 x) ∧ ∃ w2, S x w2 ∧ Chg (fun k => k = g) w2 w')
/-- a guarded call: what the literal that was handed in does; an error that is thrown is the answer -/
theorem guarded_any (F : FuncId) (caps : Array Value) (w : World) (R : World → Prop) (S : Int → World → Prop) (hent : ∀ w, (callFunc F caps).run Tryz.prog w = .ok (.enter F caps) w)
    (hcl : ∀ w1, Below w.heap.size w w1 → Blk w1 w.heap.size #[.int .i64 0] 23 → Calls Tryz.prog F caps w1 fun e w2 => (e = .returned (.tuple #[]) ∧ Blk w2 w.heap.size #[.int .i64 0] 23 ∧ R w2) ∨ (∃ x, Threw x e ∧ Blk w2 w.heap.size #[.int .i64 0] 23 ∧ S x w2)) :
    Calls Tryz.prog 6 #[.func (.func F) #[] caps] w (Guarded w.heap.size R S) := by
  have hmf : ∀ (fn : Fn) (first cap : Array Value) (w : World), (Instr.makeFunc fn first cap).run Tryz.prog w = .ok (.func fn first cap) w := fun _ _ _ _ => rfl
  have HCL := Lib.hid hcl
  clear hcl
  go_enter_defers Tryz.func6, Tryz.ntmps6
  go_wp2_with fail
  refine (HCL.out _ ((Below.refl _ _).alloc (Nat.le_refl _) _) (Blk.new _ _ _)).mono ?_
  rintro e w2 (⟨rfl, hk, hr⟩ | ⟨x, he, hk, hs⟩)
  · have HK := Lib.hid hk
    have HR := Lib.hid hr
    have hc : w2.cell? ⟨w.heap.size, 0, none⟩ = some (.int .i64 0) := (hk.cell 0).trans rfl
    have hf := hk.frozen 0
    clear hk hr
    go_wp2_with fail
    refine leaves_cons (f := 13) (args := #[.pointer (some ⟨w.heap.size, 0, none⟩)]) (by simp) (by simp [go_sem]) ?_
    refine (catch_idle w.heap.size _).mono ?_
    rintro e u' w'' ⟨rfl, rfl, rfl⟩
    have hc2 : (w2.setCell ⟨w.heap.size, 0, none⟩ (.int .i64 0)).cell? ⟨w.heap.size, 0, none⟩ = some (.int .i64 0) := ((HK.out.put 0 (.int .i64 0)).cell 0).trans rfl
    refine ⟨.int .i64 0, by simp [results, Tryz.results6, go_sem, hc2], .inl ⟨rfl, w2, HR.out, chg_set _ _ _⟩⟩
  · unfold Threw at he
    subst he
    refine leaves_cons (f := 13) (args := #[.pointer (some ⟨w.heap.size, 0, none⟩)]) (by simp) (by simp [go_sem]) ?_
    refine (catch_threw w.heap.size x 0 _ hk).mono ?_
    rintro e u' w'' ⟨rfl, rfl, hch, hk6⟩
    have hc2 : w''.cell? ⟨w.heap.size, 0, none⟩ = some (.int .i64 x) := (hk6.cell 0).trans rfl
    refine ⟨.int .i64 x, by simp [results, Tryz.results6, go_sem, hc2], .inr ⟨x, rfl, w2, hs, hch⟩⟩
theorem enter7 (caps : Array Value) (w : World) : (callFunc 7 caps).run Tryz.prog w = .ok (.enter 7 caps) w := by go_simp
def CloPost (l : List UInt8) (M : Nat) (w : World) (e : Ending) (w' : World) : Prop :=
  (∃ t, parseQ l = .ok t ∧ e = .returned (.tuple #[]) ∧ Hid (Chg (fun k => k = M) w w' ∧ Blk w' M #[.string (str (textT t))] 9)) ∨
  (∃ x, parseQ l = .error x ∧ Threw x e ∧ Hid (Below w.heap.size w w'))
set_option maxRecDepth 100000 in
set_option maxHeartbeats 1600000 in
theorem clo_any (l : List UInt8) (P M : Nat) (w : World) (ht : Hid (Tabs w)) (HP : Hid (Blk w P #[.string (str l)] 9)) (HM : Hid (Blk w M #[.string ⟨#[]⟩] 9)) :
    Calls Tryz.prog 7 #[.pointer (some ⟨P, 0, none⟩), .pointer (some ⟨M, 0, none⟩)] w (CloPost l M w) := by
  have cp : w.cell? ⟨P, 0, none⟩ = some (.string (str l)) := (HP.out.cell 0).trans rfl
  have HPA := Lib.hid (parse_any l w ht.out.1)
  have HSZ : Hid (∀ t, parseQ l = .ok t → (textT t).length ≤ 65536) := fun t h => (read_ok h).1
  obtain ⟨r, hr⟩ : ∃ r, parseQ l = r := ⟨_, rfl⟩
  have HR := Lib.hid hr
  rw [hr] at HPA HSZ
  clear hr
  go_enter Tryz.func7, Tryz.ntmps7
  go_wp2_with fail
  refine HPA.out.mono ?_
  clear cp HPA
  rintro e w1 (⟨x, rfl, he, hb⟩ | ⟨t, v, rfl, rfl, hti, hb⟩)
  · unfold Threw at he
    subst he
    exact ⟨rfl, .inr ⟨x, HR.out, rfl, hb⟩⟩
  · have HT := Lib.hid (TextH.text_any hti.out (ht.out.below hb.out) (HSZ.out t rfl))
    have HM1 : Hid (Blk w1 M #[.string ⟨#[]⟩] 9) := HM.out.below hb.out HM.out.lt
    clear hti
    go_wp2_with fail
    refine HT.out.mono ?_
    rintro e w2 ⟨rfl, hb2⟩
    have HM2 : Hid (Blk w2 M #[.string ⟨#[]⟩] 9) := HM1.out.below hb2.out HM1.out.lt
    have HC2 : Hid (Below w.heap.size w w2) := hb.out.trans (hb2.out.mono hb.out.size)
    have cm : w2.cell? ⟨M, 0, none⟩ = some (.string ⟨#[]⟩) := (HM2.out.cell 0).trans rfl
    have fm := HM2.out.frozen 0
    clear hb hb2 HM1
    go_wp2_with fail
    go_end0
    refine .inl ⟨t, HR.out, rfl, ?_, HM2.out.put 0 (.string (str (textT t)))⟩
    exact (Chg.of_below HC2.out).trans (chg_set M w2 _)
set_option maxRecDepth 100000 in
set_option maxHeartbeats 1600000 in
theorem print_any (l : List UInt8) (w : World) (ht : Hid (Tabs w)) : Calls Tryz.prog 4 #[.string (str l)] w fun e w' => e = .returned (ansQ (parseQ l)) ∧ Hid (Below w.heap.size w w') := by
  have hmf : ∀ (fn : Fn) (first cap : Array Value) (w : World), (Instr.makeFunc fn first cap).run Tryz.prog w = .ok (.func fn first cap) w := fun _ _ _ _ => rfl
  obtain ⟨A, hA⟩ : ∃ A, ansQ (parseQ l) = A := ⟨_, rfl⟩
  have HA := Lib.hid hA
  rw [hA]
  clear hA
  go_enter Tryz.func4, Tryz.ntmps4
  go_upto_region 2 with (fail)
  obtain ⟨P, hP⟩ : ∃ P, w.heap.size = P := ⟨_, rfl⟩
  rw [hP]
  refine gen_world (fun w' => Hid (Below w.heap.size w w' ∧ Blk w' P #[.string (str l)] 9 ∧ Blk w' (P + 1) #[.string ⟨#[]⟩] 9)) ?_ ?_
  · subst hP
    refine ⟨((Below.refl _ _).alloc (Nat.le_refl _) _).alloc (by simp) _, (Blk.new w _ _).alloc _, ?_⟩
    have h := Blk.new (w.alloc (.cells #[.string (str l)] 9)) #[.string ⟨#[]⟩] 9
    simpa using h
  have HGE : Hid (w.heap.size ≤ P + 1) := by show _ ≤ _; omega
  clear hP
  generalize P + 1 = M at *
  rintro w1 h1
  go_wp2_with fail
  refine (guarded_any 7 #[.pointer (some ⟨P, 0, none⟩), .pointer (some ⟨M, 0, none⟩)] w1
    (fun w2 => ∃ t, parseQ l = .ok t ∧ Below w.heap.size w w2 ∧ Blk w2 M #[.string (str (textT t))] 9) (fun x w2 => parseQ l = .error x ∧ Below w.heap.size w w2 ∧ Blk w2 M #[.string ⟨#[]⟩] 9) (enter7 _) fun w2 hb hg => ?_).mono ?_
  · have hlt := h1.out.2.2.lt
    have hw2 : Below w.heap.size w w2 := h1.out.1.trans (hb.mono h1.out.1.size)
    refine (clo_any l P M w2 (ht.out.below hw2) (h1.out.2.1.below hb h1.out.2.1.lt) (h1.out.2.2.below hb hlt)).mono ?_
    rintro e w3 (⟨t, ha, rfl, hk⟩ | ⟨x, ha, he, hk⟩)
    · refine .inl ⟨rfl, hk.out.1.blk hg (by omega), t, ha, ?_, hk.out.2⟩
      exact hw2.trans ⟨hk.out.1.os, hk.out.1.tape, hk.out.1.output, hk.out.1.size, fun k hk2 => hk.out.1.block k (by have := hw2.size; omega) (by have := HGE.out; omega)⟩
    · refine .inr ⟨x, he, hg.below hk.out hg.lt, ha, hw2.trans (hk.out.mono hw2.size), ?_⟩
      exact (h1.out.2.2.below hb hlt).below hk.out (h1.out.2.2.below hb hlt).lt
  have HG : Hid (M < w1.heap.size ∧ w.heap.size ≤ w1.heap.size) := ⟨h1.out.2.2.lt, h1.out.1.size⟩
  have key : ∀ (b : ByteArray) (w2 w3 : World), Below w.heap.size w w2 → Blk w2 M #[.string b] 9 → Chg (fun k => k = w1.heap.size) w2 w3 → Hid (Below w.heap.size w w3 ∧ Blk w3 M #[.string b] 9) := fun b w2 w3 hb hk hc =>
    ⟨hb.trans ⟨hc.os, hc.tape, hc.output, hc.size, fun k hk2 => hc.block k (by have := hb.size; omega) (by have := HG.out; omega)⟩, hc.blk hk (by have := HG.out; omega)⟩
  have KEY := Lib.hid key
  clear key
  rintro e w2 (⟨rfl, w3, ⟨t, ha, hb, hk⟩, hc⟩ | ⟨x, rfl, w3, ⟨ha, hb, hk⟩, hc⟩)
  · have h4 := KEY.out _ w3 w2 hb hk hc
    have HX : Hid (A = .tuple #[.string (str (textT t)), .int .i64 0]) := by show _ = _; rw [← HA.out, ha]; rfl
    have cm : w2.cell? ⟨M, 0, none⟩ = some (.string (str (textT t))) := (h4.out.2.cell 0).trans rfl
    clear ha hb hk hc h1
    go_wp2_with fail
    go_ret2
    exact ⟨by rw [HX.out]; rfl, h4.out.1⟩
  · have h4 := KEY.out _ w3 w2 hb hk hc
    have HX : Hid (A = .tuple #[.string ⟨#[]⟩, .int .i64 x]) := by show _ = _; rw [← HA.out, ha]; rfl
    have cm : w2.cell? ⟨M, 0, none⟩ = some (.string ⟨#[]⟩) := (h4.out.2.cell 0).trans rfl
    clear ha hb hk hc h1
    go_wp2_with fail
    go_ret2
    exact ⟨by rw [HX.out]; rfl, h4.out.1⟩
end Go.Proofs.YtcdhkeahcliefaaGreatDoor.Top
/- The one fixed query of the law. -/
namespace Go.Proofs.YtcdhkeahcliefaaGreatDoor.Fixed
open Go.Proofs.YtcdhkeahcliefaaGreatDoor.Base Go.Proofs.YtcdhkeahcliefaaGreatDoor.Term Go.Proofs.YtcdhkeahcliefaaGreatDoor.Syn Go.Proofs.YtcdhkeahcliefaaGreatDoor.Text Go.Proofs.YtcdhkeahcliefaaGreatDoor.Parse Go.Proofs.YtcdhkeahcliefaaGreatDoor.RefQ
open Go.Proofs.YtcdhkeahcliefaaGreatDoor.Lex (lexed)
set_option linter.unusedVariables false

def l0 : List UInt8 := [40, 32, 97, 108, 108, 32, 41, 32, 111, 114, 32, 32, 110, 111, 116, 32, 40, 32, 101, 109, 112, 116, 121, 32, 41]
def ws0 : List W := [[40], [97, 108, 108], [41], [111, 114], [110, 111, 116], [40], [101, 109, 112, 116, 121], [41]]
theorem lexed0 : lexed l0 = some ws0 := by decide
theorem leaf_all (r : List W) : leaf [97, 108, 108] r = .ok (.all, 0) := rfl
theorem leaf_empty (r : List W) : leaf [101, 109, 112, 116, 121] r = .ok (.empty, 0) := rfl
theorem unit_all (n : Nat) (r : List W) : unitF n ([97, 108, 108] :: r) = .ok (.all, 1) := by rw [unitF_leaf n r (by decide) (by decide) (by decide), leaf_all]; rfl
theorem unit_empty (n : Nat) (r : List W) : unitF n ([101, 109, 112, 116, 121] :: r) = .ok (.empty, 1) := by rw [unitF_leaf n r (by decide) (by decide) (by decide), leaf_empty]; rfl
theorem and_one {one : List W → Res} {x y : W} {r : List W} {t : Term} (h : one (x :: y :: r) = .ok (t, 1)) (hy : y ≠ wAnd) (hp : packB (flatB t) = t) : andF one (x :: y :: r) = .ok (t, 1) := by
  show pk packB (seqF one wAnd flatB ((x :: y :: r).length + 1) (x :: y :: r)) = _
  simp only [seqF, h]
  rw [if_neg (by simpa using hy)]
  show Except.ok (packB (flatB t), 1) = _
  rw [hp]
theorem br_one {n : Nat} {x : W} {r : List W} {t : Term} (h : ∀ r, unitF n (x :: r) = .ok (t, 1)) (hb : packB (flatB t) = t) (he : packE (flatE t) = t) : unitF (n + 1) ([40] :: x :: [41] :: r) = .ok (t, 3) := by
  have ha := and_one (one := unitF n) (x := x) (y := [41]) (r := r) (h _) (by decide) hb
  have ho : orF (unitF n) (x :: [41] :: r) = .ok (t, 1) := by
    show pk packE (seqF (andF (unitF n)) wOr flatE ((x :: [41] :: r).length + 1) (x :: [41] :: r)) = _
    simp only [seqF, ha]
    rw [if_neg (by simp [wOr])]
    show Except.ok (packE (flatE t), 1) = _
    rw [he]
  rw [show ([40] : W) = wOpen from rfl, unitF_open, ho]
  rfl
theorem parse0 : parseF ws0 = .ok (.either [.all, .not .empty]) := by
  have u1 : ∀ r, unitF 16 ([40] :: [97, 108, 108] :: [41] :: r) = .ok (.all, 3) := fun r => br_one (fun r => unit_all 15 r) rfl rfl
  have u2 : ∀ r, unitF 15 ([40] :: [101, 109, 112, 116, 121] :: [41] :: r) = .ok (.empty, 3) := fun r => br_one (fun r => unit_empty 14 r) rfl rfl
  have u3 : unitF 16 [[110, 111, 116], [40], [101, 109, 112, 116, 121], [41]] = .ok (.not .empty, 4) := by
    rw [show ([110, 111, 116] : W) = wNot from rfl, unitF_not, u2]
    rfl
  have a1 : andF (unitF 16) ws0 = .ok (.all, 3) := by
    show pk packB (seqF (unitF 16) wAnd flatB (ws0.length + 1) ws0) = _
    unfold ws0
    simp only [seqF, u1]
    rfl
  have a2 : andF (unitF 16) [[110, 111, 116], [40], [101, 109, 112, 116, 121], [41]] = .ok (.not .empty, 4) := by
    show pk packB (seqF (unitF 16) wAnd flatB 5 _) = _
    simp only [seqF, u3]
    rfl
  have o1 : orF (unitF 16) ws0 = .ok (.either [.all, .not .empty], 8) := by
    show pk packE (seqF (andF (unitF 16)) wOr flatE 9 ws0) = _
    have hd : (ws0.drop 3).head? = some wOr := rfl
    have hd2 : ws0.drop (3 + 1) = [[110, 111, 116], [40], [101, 109, 112, 116, 121], [41]] := rfl
    simp only [seqF, a1, if_pos hd, hd2, a2]
    rfl
  unfold parseF
  rw [o1]
  rfl
theorem fixed : parseQ l0 = .ok (.either [.all, .not .empty]) := by
  unfold parseQ
  rw [if_neg (by decide), lexed0]
  exact parse0
theorem fixed_text : textT (.either [.all, .not .empty]) = [97, 108, 108, 32, 111, 114, 32, 110, 111, 116, 32, 101, 109, 112, 116, 121] := by
  rw [textT, textsE, textsE, textsE, textT, textT, textT]
  rfl
theorem fixed_ans : ansQ (parseQ l0) = .tuple #[.string ⟨#[97, 108, 108, 32, 111, 114, 32, 110, 111, 116, 32, 101, 109, 112, 116, 121]⟩, .int .i64 0] := by
  rw [fixed]
  show Value.tuple #[.string (str (textT (.either [.all, .not .empty]))), .int .i64 0] = _
  rw [fixed_text]
  rfl
end Go.Proofs.YtcdhkeahcliefaaGreatDoor.Fixed
/- FindPrints: every Print is the document's; where the library's tables lie as they were laid. -/
namespace Go.Proofs.YtcdhkeahcliefaaGreatDoor.PrintLaw
open Go.ChangeShapes Go.WideShapes Go.ChangeAt Go.RowKit
open Go.Proofs.YtcdhkeahcliefaaGreatDoor.Kit Go.Proofs.YtcdhkeahcliefaaGreatDoor.Base Go.Proofs.YtcdhkeahcliefaaGreatDoor.Text Go.Proofs.YtcdhkeahcliefaaGreatDoor.Parse Go.Proofs.YtcdhkeahcliefaaGreatDoor.RefQ Go.Proofs.YtcdhkeahcliefaaGreatDoor.Fixed
set_option linter.unusedVariables false

/-- the cells of a slice of texts -/
def Texts (w : World) (A : Option Addr) (n : Nat) : Prop := ∀ i, i < n → ∃ ad s, A = some ad ∧ w.cell? (ad.add i) = some (.string s)
/-- what an answer is -/
theorem ans_form (r : Except Int Term.Term) : ∃ s x, ansQ r = .tuple #[.string s, .int .i64 x] := by
  cases r with
  | error e => exact ⟨_, _, rfl⟩
  | ok t => exact ⟨_, _, rfl⟩
set_option maxRecDepth 100000 in
set_option maxHeartbeats 1600000 in
theorem law_any (A : Option Addr) (n c : Nat) (w : World) (hn : n ≤ 9223372036854775807) (H : Hid (Texts w A n)) (ht : Hid (Tabs w)) :
    Calls Tryz.prog 3 #[.slice A n c] w fun e w' => e = .returned (.bool true) ∧ Below w.heap.size w w' := by
  have H0 := Lib.hid (Top.print_any l0 w ht)
  rw [fixed_ans] at H0
  rw [show str l0 = ⟨#[40, 32, 97, 108, 108, 32, 41, 32, 111, 114, 32, 32, 110, 111, 116, 32, 40, 32, 101, 109, 112, 116, 121, 32, 41]⟩ from rfl] at H0
  go_enter Tryz.func3, Tryz.ntmps3
  go_wp2_with fail
  refine H0.out.mono ?_
  rintro e w1 ⟨rfl, hb⟩
  go_wp2_with fail
  go_loopg [5] n (fun g i wr => ∃ (k : Nat), g = n - k ∧ k ≤ n ∧ i = .int .i64 k ∧ Hid (Below w.heap.size w wr))
  case atStart => exact ⟨0, rfl, Nat.zero_le _, rfl, hb⟩
  case round =>
    obtain ⟨k, rfl, hk, rfl, hbw⟩ := hrel
    by_cases hlt : k < n
    · have hlti : (k : Int) < (n : Int) := by omega
      have k0 : (0 : Int) ≤ (k : Int) := by omega
      have k9 : (k : Int) < 9223372036854775807 := by omega
      have HLT := Lib.hid hlt
      obtain ⟨ad, s, rfl, hc0⟩ := H.out k hlt
      have C0 := Lib.hid hc0
      have hc : wr.cell? (ad.add k) = some (.string s) := (hbw.out.cell (World.block_lt_of_cell? w _ hc0)).trans hc0
      have H1 := Lib.hid (Top.print_any s.data.toList wr (ht.out.below hbw.out))
      have H2 := Lib.hid (fun w' => printR_any s.data.toList w')
      obtain ⟨t, x, hans⟩ := ans_form (parseQ s.data.toList)
      rw [str_of, hans] at H1 H2
      clear hc0 hans hlt hk
      go_wp2_with fail
      refine H1.out.mono ?_
      rintro e w2 ⟨rfl, hb2⟩
      have HB2 : Hid (Below w.heap.size w w2) := hbw.out.trans (hb2.out.mono hbw.out.size)
      have hc : w2.cell? (ad.add k) = some (.string s) := (HB2.out.cell (World.block_lt_of_cell? w _ C0.out)).trans C0.out
      clear hb2
      go_wp2_with fail
      refine (H2.out w2).mono ?_
      rintro e w3 ⟨rfl, hb3⟩
      have HB3 : Hid (Below w.heap.size w w3) := HB2.out.trans (hb3.out.mono HB2.out.size)
      have e1 : (t.toList != t.toList) = false := by simp
      have e2 : (x != x) = false := by simp
      clear hb3
      go_wp2_with fail
      go_roundg (n - (k + 1))
      case measure => have := HLT.out; omega
      case rel => exact ⟨k + 1, rfl, HLT.out, by go_num, HB3⟩
    · have hlti : ¬ ((k : Int) < (n : Int)) := by omega
      clear hlt hk
      go_wp2_with fail
      go_ret
      exact ⟨rfl, hbw⟩
end Go.Proofs.YtcdhkeahcliefaaGreatDoor.PrintLaw
