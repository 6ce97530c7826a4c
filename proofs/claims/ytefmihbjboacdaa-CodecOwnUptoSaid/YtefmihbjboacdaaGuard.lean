/- guarded: what a decoder gives up with is ErrCorrupt. -/
import Derived.Test.YtefmihbjboacdaaReader
import Derived.Test.YtefmihbjboacdaaWriter
import Derived.Defers
import Derived.Recover
import Derived.Laws.Pointers
namespace Go.Proofs.Ytefmihbjboacdaa.Guard
open Go.ChangeShapes Go.WideShapes Go.ChangeAt Go.RowKit
open Go.Proofs.Ytefmihbjboacdaa.Kit Go.Proofs.Ytefmihbjboacdaa.Reader Go.Proofs.Ytefmihbjboacdaa.Writer
set_option linter.unusedVariables false

theorem fits_yes (w : World) : Calls Try.prog 50 #[.bool true] w fun e w' => e = .returned (.tuple #[]) ∧ w = w' := by
  go_enter Try.func50, Try.ntmps50
  go_wp2_with fail
  go_end0
  exact ⟨rfl, rfl⟩
theorem fits_no (w : World) : Calls Try.prog 50 #[.bool false] w fun e w' => Broken e ∧ w = w' := by
  have hpn := panics
  go_enter Try.func50, Try.ntmps50
  go_wp2_with fail
  exact ⟨rfl, rfl, rfl⟩

/-- the deferred literal, where something was given up: the named result is ErrCorrupt -/
theorem catch_broken (b : Nat) (x : Int) (w : World) (hk : Blk w b #[.int .i64 x] 26) :
    CallsD Try.prog 67 #[.pointer (some ⟨b, 0, none⟩)] (.panicking [{ v := .iface 99 (.agg #[]), recovered := false }]) w fun e u' w' =>
      e = .returned (.tuple #[]) ∧ u' = .panicking [{ v := .iface 99 (.agg #[]), recovered := true }] ∧ Chg (fun k => k = b) w w' ∧ Blk w' b #[.int .i64 6] 26 := by
  refine callsD_of_wpS Try.func67 rfl fun c₀ cs hu => ?_
  apply wpS_seq
  apply wpS_region
  simp [wpOpsS, go_sem, recoverD, hu, Try.ntmps67, Exit.thenS]
  refine wpS_of_wp ?_
  have he : ∀ w, (binOp .eql 20 (.iface 99 (.agg #[])) .nilIface).run Try.prog w = .ok (.bool false) w := fun _ => by kernel_rfl
  have hta : ∀ w, (Instr.typeAssert (.iface 99 (.agg #[])) 20 99 true).run Try.prog w = .ok (.tuple #[.agg #[], .bool true]) w := fun _ => by kernel_rfl
  show Code.wp Try.prog _ _ { tmps := #[.pointer (some ⟨b, 0, none⟩), undef, undef, undef, .iface 99 (.agg #[]), undef, undef, undef, undef, undef], defers := [] } w
  have hk2 : Blk (w.alloc (.cells #[] 99)) b #[.int .i64 x] 26 := hk.alloc _
  have hc : (w.alloc (.cells #[] 99)).cell? ⟨b, 0, none⟩ = some (.int .i64 x) := (hk2.cell 0).trans rfl
  have hz := hk2.frozen 0
  have HK2 := Lib.hid hk2
  clear hk2
  go_wp2
  refine ⟨rfl, _, rfl, .tuple #[], by simp [results, Try.results67], rfl, rfl, ?_, HK2.out.put 0 (.int .i64 6)⟩
  refine ⟨rfl, rfl, rfl, by simp [World.setCell], fun k h1 h2 => ?_⟩
  rw [Below.heap_setCell _ _ _ _ (by exact h2), Below.heap_alloc _ _ _ h1]

/-- the deferred literal, where nothing was given up -/
theorem catch_idle (b : Nat) (w : World) :
    CallsD Try.prog 67 #[.pointer (some ⟨b, 0, none⟩)] .returning w fun e u' w' => e = .returned (.tuple #[]) ∧ u' = .returning ∧ w' = w := by
  refine callsD_of_wpS Try.func67 rfl fun c₀ cs hu => ?_
  apply wpS_seq
  apply wpS_region
  simp [wpOpsS, go_sem, recoverD, hu, Try.ntmps67, Exit.thenS]
  refine wpS_of_wp ?_
  have he : ∀ w, (binOp .eql 20 .nilIface .nilIface).run Try.prog w = .ok (.bool true) w := fun _ => by kernel_rfl
  show Code.wp Try.prog _ _ { tmps := #[.pointer (some ⟨b, 0, none⟩), undef, undef, undef, .nilIface, undef, undef, undef, undef, undef], defers := [] } w
  go_wp2
  cases c₀
  simp_all [bodyPostS, results, Try.results67]

theorem chg_set (b : Nat) (w : World) (v : Value) : Chg (fun k => k = b) w (w.setCell ⟨b, 0, none⟩ v) :=
  ⟨rfl, rfl, rfl, by simp [World.setCell], fun k _ h2 => Below.heap_setCell _ _ _ _ (by exact h2)⟩
/-- what a guarded call comes to: OK, or ErrCorrupt -/
def Guarded (g : Nat) (R S : World → Prop) (e : Ending) (w' : World) : Prop :=
  (e = .returned (.int .i64 0) ∧ ∃ w2, R w2 ∧ Chg (fun k => k = g) w2 w') ∨ (e = .returned (.int .i64 6) ∧ ∃ w2, S w2 ∧ Chg (fun k => k = g) w2 w')
/-- a guarded call: what the literal that was handed in does; given up: ErrCorrupt -/
theorem guarded_any (F : FuncId) (caps : Array Value) (w : World) (R : World → Prop) (S : World → Prop) (hent : ∀ w, (callFunc F caps).run Try.prog w = .ok (.enter F caps) w)
    (hcl : ∀ w1, Below w.heap.size w w1 → Blk w1 w.heap.size #[.int .i64 0] 26 → Calls Try.prog F caps w1 fun e w2 => (e = .returned (.tuple #[]) ∧ Blk w2 w.heap.size #[.int .i64 0] 26 ∧ R w2) ∨ (Broken e ∧ Blk w2 w.heap.size #[.int .i64 0] 26 ∧ S w2)) :
    Calls Try.prog 46 #[.func (.func F) #[] caps] w (Guarded w.heap.size R S) := by
  have hmf : ∀ (fn : Fn) (first cap : Array Value) (w : World), (Instr.makeFunc fn first cap).run Try.prog w = .ok (.func fn first cap) w := fun _ _ _ _ => rfl
  have HCL := Lib.hid hcl
  clear hcl
  go_enter_defers Try.func46, Try.ntmps46
  go_wp2_with fail
  refine (HCL.out _ ((Below.refl _ _).alloc (Nat.le_refl _) _) (Blk.new _ _ _)).mono ?_
  rintro e w2 (⟨rfl, hk, hr⟩ | ⟨he, hk, hs⟩)
  · have HK := Lib.hid hk
    have HR := Lib.hid hr
    have hc : w2.cell? ⟨w.heap.size, 0, none⟩ = some (.int .i64 0) := (hk.cell 0).trans rfl
    have hf := hk.frozen 0
    clear hk hr
    go_wp2_with fail
    refine leaves_cons (f := 67) (args := #[.pointer (some ⟨w.heap.size, 0, none⟩)]) (by simp) (by simp [go_sem]) ?_
    refine (catch_idle w.heap.size _).mono ?_
    rintro e u' w'' ⟨rfl, rfl, rfl⟩
    have hc2 : (w2.setCell ⟨w.heap.size, 0, none⟩ (.int .i64 0)).cell? ⟨w.heap.size, 0, none⟩ = some (.int .i64 0) := ((HK.out.put 0 (.int .i64 0)).cell 0).trans rfl
    refine ⟨.int .i64 0, by simp [results, Try.results46, go_sem, hc2], .inl ⟨rfl, w2, HR.out, chg_set _ _ _⟩⟩
  · unfold Broken at he
    subst he
    refine leaves_cons (f := 67) (args := #[.pointer (some ⟨w.heap.size, 0, none⟩)]) (by simp) (by simp [go_sem]) ?_
    refine (catch_broken w.heap.size 0 _ hk).mono ?_
    rintro e u' w'' ⟨rfl, rfl, hch, hk6⟩
    have hc2 : w''.cell? ⟨w.heap.size, 0, none⟩ = some (.int .i64 6) := (hk6.cell 0).trans rfl
    refine ⟨.int .i64 6, by simp [results, Try.results46, go_sem, hc2], .inr ⟨rfl, w2, hs, hch⟩⟩
theorem enter47 (caps : Array Value) (w : World) : (callFunc 47 caps).run Try.prog w = .ok (.enter 47 caps) w := by go_simp
theorem enter57 (caps : Array Value) (w : World) : (callFunc 57 caps).run Try.prog w = .ok (.enter 57 caps) w := by go_simp
theorem enter62 (caps : Array Value) (w : World) : (callFunc 62 caps).run Try.prog w = .ok (.enter 62 caps) w := by go_simp
end Go.Proofs.Ytefmihbjboacdaa.Guard
