/- Nodes read and compared whole; nodes in a slice that came in. -/
import Derived.Test.YtefmihbjboacdaaNodeEq
import Derived.Deep.MidRow
namespace Go.Proofs.Ytefmihbjboacdaa.NodeCells
open Go.ChangeShapes Go.WideShapes Go.ChangeAt Go.RowKit
open Go.Proofs.Ytefmihbjboacdaa.Kit Go.Proofs.Ytefmihbjboacdaa.Reads Go.Proofs.Ytefmihbjboacdaa.NodeLay Go.Proofs.Ytefmihbjboacdaa.NodeEq
set_option linter.unusedVariables false

/-- the cells of a slice of nodes -/
def Nodes (w : World) (A : Option Addr) (n : Nat) (g : Nat → Nat → Int) : Prop :=
  ∀ i, i < n → ∃ ad, A = some ad ∧ ∀ j v, (ncs (g i)).toList[j]? = some v → w.cell? ((ad.add (i * 17)).add j) = some v
theorem only_row (w : World) (P : Nat) (cs : Array Value) : Only P w (w.setRow P cs) := ⟨rfl, rfl, rfl, by simp [World.setRow], fun k hk => setRow_other _ _ k _ hk⟩
theorem run_load_any {P : Program} (w : World) (a : Addr) (ty : TypeId) (cs : List Value) (d : TypeDesc) (hc : ∀ j v, cs[j]? = some v → w.cell? (a.add j) = some v)
    (hu : P.underlying ty = some d) (hd : d.isRow = true) (hi : (P.info? ty).map (·.size) = some cs.length) :
    (loadVar ty a).run P w = .ok (.agg cs.toArray) w := by
  have hl : (loadCells a cs.length).run P w = .ok cs.toArray w := run_loadCells_list (P := P) w a cs hc
  cases hq : P.info? ty with
  | none => simp [hq] at hi
  | some i =>
    have hs : i.size = cs.length := by simpa [hq] using hi
    have hagg : (isAgg ty).run P w = .ok true w := by
      unfold isAgg
      rw [Sem.run_bind, run_underlying hu w]
      cases d <;> simp_all
    simp [loadVar, Sem.run_bind, hagg, sizeOf, typeInfo, hq, hs, hl]
theorem wp_load_any {P : Program} {op : Oper} {a : Act} {w : World} {K : Act → World → Prop} {Q : Exit → Act → World → Prop} (ty : TypeId) (x : Operand) (ho : op.op = .load ty x)
    (ad : Addr) (hx : a.eval x = .pointer (some ad)) (cs : List Value) (d : TypeDesc) (hc : ∀ j v, cs[j]? = some v → w.cell? (ad.add j) = some v)
    (hu : P.underlying ty = some d) (hd : d.isRow = true) (hi : (P.info? ty).map (·.size) = some cs.length)
    (h : K (a.put op.dst (.agg cs.toArray)) w) : op.wp P a w K Q := by
  unfold Oper.wp execOp
  simp only [ho, hx, Instr.loadAt, Instr.sureAddr, Sem.run_bind, Sem.run_pure, Result.andThen_ok, run_load_any w ad ty cs d hc hu hd hi]
  exact h
/-- a node read out of a slice -/
theorem wpList_load_node {ops : Array Oper} {rest : List Oper} {op : Oper} {a : Act} {w : World} {Q : Exit → Act → World → Prop} (hgd : op.guard = none) (x : Operand) (ho : op.op = .load 51 x)
    (ad : Addr) (hx : a.eval x = .pointer (some ad)) (f : Nat → Int) (hc : ∀ j v, (ncs f).toList[j]? = some v → w.cell? (ad.add j) = some v)
    (h : wpList Try.prog ops Q rest (a.put op.dst (.agg (ncs f))) w) : wpList Try.prog ops Q (op :: rest) a w :=
  wpList_plain hgd fun _ hK => wp_load_any 51 x ho ad hx (ncs f).toList _ hc Try.underlying51 rfl (by kernel_rfl) (hK _ _ h)
theorem neq_same (q : Nat → Int) (w : World) : (binOp .neq 51 (.agg (ncs q)) (.agg (ncs q))).run Try.prog w = .ok (.bool false) w := by
  obtain ⟨i3, hi3, hc⟩ : ∃ i, Try.prog.info? 3 = some i ∧ Try.prog.cellsOf 3 = 1 := by
    cases h : Try.prog.info? 3 with
    | none => exact absurd h (by intro h; have : (Try.prog.info? 3).isSome = true := by kernel_rfl
                                 rw [h] at this; cases this)
    | some i => exact ⟨i, rfl, by kernel_rfl⟩
  have harr : ∀ (a0 a1 a2 a3 a4 a5 a6 a7 a8 a9 : Int) w, (Op.equalIn 9999 49 (.agg #[.int .i64 a0, .int .i64 a1, .int .i64 a2, .int .i64 a3, .int .i64 a4, .int .i64 a5, .int .i64 a6, .int .i64 a7, .int .i64 a8, .int .i64 a9]) (.agg #[.int .i64 a0, .int .i64 a1, .int .i64 a2, .int .i64 a3, .int .i64 a4, .int .i64 a5, .int .i64 a6, .int .i64 a7, .int .i64 a8, .int .i64 a9])).run Try.prog w = .ok true w := by
    intro a0 a1 a2 a3 a4 a5 a6 a7 a8 a9 w
    rw [run_equalIn_array w 9998 _ _ Try.underlying49 hi3, hc, show List.range 10 = [0, 1, 2, 3, 4, 5, 6, 7, 8, 9] from rfl]
    simp only [Op.eqItems]
    go_simp
  unfold ncs
  go_simp
end Go.Proofs.Ytefmihbjboacdaa.NodeCells
