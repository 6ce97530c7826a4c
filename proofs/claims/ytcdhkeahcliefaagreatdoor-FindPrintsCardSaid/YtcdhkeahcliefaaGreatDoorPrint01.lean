/- The frame of a law's row: where every call answers true and leaves all that was there as it was, the given statement holds. Words on worlds: a block known whole, kept by what goes on elsewhere. Patterns in plain words: how a pattern's bytes are read, piece by piece; which texts are of the pieces. No Go in it. The compiler's small parts: more, next, unit, fill. -/
import Derived.Test.YtcdhkeahcliefaaGreatDoorRows
import Derived.WalkKit
import Derived.ProofKit
import Derived.OpenShut
import Derived.ShutString
import Derived.ChangeOld
import Derived.Below
import Derived.SizedLaws
import Derived.Lib.Hide
import Derived.Deep.QuietTactic
import Derived.BigQuiet
import Derived.Deep.LoopGhost
import Derived.Deep.DeepCutAuto
import Derived.WalkSpells
import Derived.Deep.CutBlock
import Derived.Laws.Tables
/- The frame of a law's row: where every call answers true and leaves all that was there as it was, the given statement holds. -/
namespace Go.Proofs.YtcdhkeahcliefaaGreatDoor.Frame
open Go.ChangeShapes Go.WideShapes Go.ChangeAt Go.RowKit
set_option linter.unusedVariables false

theorem own : ownKnob Tryz.prog.godebug = none := by kernel_rfl
theorem laidOut : laidOutB Tryz.prog = true := by kernel_rfl

theorem trodAll_below {H : Type} {enc : TypeId × Value → H} {P : Program} (hl : laidOutB P = true) {W W' : World} (hb : Below W.heap.size W W') :
    ∀ (ts : List TypeId) (_ : ∀ t ∈ ts, P.readableRec t = true ∧ t < P.types.size) (vs : List Value) (ds : List (DataW H)) (ps : List MemPlace),
      DataW.TrodAll enc P W 0 (fun _ => true) true ts vs ds ps → DataW.TrodAll enc P W' 0 (fun b => decide (b < W.heap.size)) true ts vs ds ps
  | [], _, [], [], ps, h => h
  | t :: ts, hr, v :: vs, d :: ds, ps, h => by
    obtain ⟨p, q, h1, h2, h3⟩ := h
    have lt : ∀ x ∈ p, x.block < W.heap.size := by obtain ⟨m, hm⟩ := h1; exact DataW.trod_lt m _ _ _ hm
    exact ⟨p, q, Below.trod hl (hr t (by simp)).1 (hr t (by simp)).2 h1 hb lt, trodAll_below hl hb ts (fun x hx => hr x (by simp [hx])) vs ds q h2, h3⟩
  | [], _, _ :: _, _, _, h => by simp [DataW.TrodAll] at h
  | [], _, [], _ :: _, _, h => by simp [DataW.TrodAll] at h
  | _ :: _, _, [], _, _, h => by simp [DataW.TrodAll] at h
  | _ :: _, _, _ :: _, [], _, h => by simp [DataW.TrodAll] at h

theorem trodAll_length {H : Type} {enc : TypeId × Value → H} {P : Program} {W : World} {b : Nat} {s : Nat → Bool} {held : Bool} :
    ∀ (ts : List TypeId) (vs : List Value) (ds : List (DataW H)) (ps : List MemPlace), DataW.TrodAll enc P W b s held ts vs ds ps → ds.length = ts.length ∧ vs.length = ts.length
  | [], [], [], _, _ => ⟨rfl, rfl⟩
  | t :: ts, v :: vs, d :: ds, ps, h => by
    obtain ⟨p, q, h1, h2, h3⟩ := h
    have := trodAll_length ts vs ds q h2
    simp [this.1, this.2]
  | [], _ :: _, _, _, h => by simp [DataW.TrodAll] at h
  | [], [], _ :: _, _, h => by simp [DataW.TrodAll] at h
  | _ :: _, [], _, _, h => by simp [DataW.TrodAll] at h
  | _ :: _, _ :: _, [], _, h => by simp [DataW.TrodAll] at h

theorem varTypes_nil {P : Program} {s : ChangeSpec} (h : s.vars = []) : s.plain.varTypes P = [] := by
  unfold ChangeSpec.plain DataSpec.varTypes
  rw [h]
  rfl

theorem reads_of_all {P : Program} {ts : List TypeId} (h : ts.all (fun t => P.readableRec t && decide (t < P.types.size)) = true) : ∀ t ∈ ts, P.readableRec t = true ∧ t < P.types.size := by
  intro t ht
  have h1 := List.all_eq_true.1 h t ht
  rw [Bool.and_eq_true] at h1
  exact ⟨h1.1, of_decide_eq_true h1.2⟩

set_option maxRecDepth 100000 in
/-- A law's contract, lifted: the specification says 'true; the arguments as they were'; the call answers true and nothing below its own memory has turned. -/
theorem lifted {f : FuncId} {fn : Func} {s : ChangeSpec} {conds : List PathCond} (os : Os) (started : os.Started) (H : Type) (enc : TypeId × Value → H)
    (noInit : Tryz.prog.inits.idxOf? f = none) (hfn : Tryz.prog.funcs[f]? = some fn)
    (witness : ∃ (w : World) (tape : Tape) (i : Input), w.os = os ∧ (w.forCall tape i).Shaped Tryz.prog ∧ i.vars = [] ∧ Input.okWide Tryz.prog (w.forCall tape i) .any w.heap.size f i ∧
      s.pre6 enc Tryz.prog fn conds false (w.forCall tape i).memory i.args ∧ Assume.holds {} Tryz.prog (lone (Frame.enter Tryz.prog f i.args .normal) [] (w.forCall tape i)))
    (hvars : s.vars = []) (hread : fn.params.toList.all (fun t => Tryz.prog.readableRec t && decide (t < Tryz.prog.types.size)) = true) (hres : fn.resultTypes = #[4])
    (hspec : ∀ ds : List (DataW H), ds.length = fn.params.toList.length → s.fn H (ds ++ []) = { results := [.lit (.bool true)], args := ds })
    (contract : ∀ (W : World) (base : Nat) (args : Array Value) (ds : List (DataW H)) (ps : List MemPlace),
      (∀ (j : Nat) t v, fn.params[j]? = some t → args[j]? = some v → Value.okWide Tryz.prog W .any base t v) →
      DataW.TrodAll enc Tryz.prog W 0 (fun _ => true) true fn.params.toList args.toList ds ps →
      (DataW.weightsEach Tryz.prog fn.params.toList ds).all (· ≤ reachBytes) = true →
      W.noneFrozen ps →
      Calls Tryz.prog f args W fun e W' => e = .returned (.bool true) ∧ Below W.heap.size W W') :
    ReturnsInHanded {} Tryz.checked os f .any (s.pre6 enc Tryz.prog fn conds false) (s.post enc Tryz.prog fn false true false false) := by
  refine returnsInHanded_of_change_sized (C := Tryz.checked) own started noInit hfn witness ?_
  intro W base args ds gs before hval0 hW hcnd hsz0 _
  have hval : ∀ (j : Nat) t v, fn.params[j]? = some t → args[j]? = some v → Value.okWide Tryz.prog W .any base t v := hval0
  have hW' := hW
  obtain ⟨p, q, hA0, hV, rfl, hfz, hnd⟩ := hW
  rw [hvars] at hV
  obtain ⟨rfl, rfl⟩ := trodVars_none hV
  have hA : DataW.TrodAll enc Tryz.prog W 0 (fun _ => true) true fn.params.toList args.toList ds p := hA0
  have hsz : (DataW.weightsEach Tryz.prog fn.params.toList ds).all (· ≤ reachBytes) = true := by
    have : s.plain.varTypes Tryz.prog = [] := varTypes_nil hvars
    have h2 : (DataW.weightsEach Tryz.prog (fn.params.toList ++ s.plain.varTypes Tryz.prog) (ds ++ [])).all (· ≤ reachBytes) = true := hsz0
    rw [this, List.append_nil, List.append_nil] at h2
    exact h2
  have hlen := (trodAll_length _ _ _ _ hA).1
  refine (contract W base args ds p hval hA hsz (fun b off h => hfz b off (by simp [h]))).mono fun e W' ⟨he, bel⟩ => ?_
  subst he
  have hback := trodAll_below laidOut bel fn.params.toList (reads_of_all hread) _ _ _ hA
  have e1 := hspec ds hlen
  refine ⟨_, rfl, ds, [], _, [], p, [], hW', ?_, ?_, ?_, bel.frame _, fun h => by cases h⟩
  · rw [e1, hres]
    exact trodAll_mk1 (shut_bool Tryz.underlying4 _)
  · rw [e1]
    exact hback
  · rw [e1, hvars]
    exact rfl

end Go.Proofs.YtcdhkeahcliefaaGreatDoor.Frame
/- Words on worlds: a block known whole, kept by what goes on elsewhere. -/
namespace Go.Proofs.YtcdhkeahcliefaaGreatDoor.Kit
open Go.RowKit
set_option linter.unusedVariables false

/-- block b is just these cells -/
def Blk (w : World) (b : Nat) (cs : Array Value) (t : TypeId) : Prop := w.heap[b]? = some (.cells cs t (0, 0))

theorem Blk.below {w w' : World} {B b : Nat} {cs : Array Value} {t : TypeId} (h : Blk w b cs t) (hb : Below B w w') (hlt : b < B) : Blk w' b cs t := (hb.block b hlt).trans h
theorem Blk.lt {w : World} {b : Nat} {cs : Array Value} {t : TypeId} (h : Blk w b cs t) : b < w.heap.size := (Array.getElem?_eq_some_iff.1 h).1
theorem Blk.cell {w : World} {b : Nat} {cs : Array Value} {t : TypeId} (h : Blk w b cs t) (i : Nat) : w.cell? ⟨b, i, none⟩ = cs[i]? := by
  unfold Blk at h
  simp [World.cell?, h]
theorem Blk.frozen {w : World} {b : Nat} {cs : Array Value} {t : TypeId} (h : Blk w b cs t) (i : Nat) : w.frozen? ⟨b, i, none⟩ = false := by
  unfold Blk at h
  simp [World.frozen?, h]
theorem Blk.drew {w : World} {b : Nat} {cs : Array Value} {t : TypeId} (h : Blk w b cs t) : Blk w.drew b cs t := h
theorem Blk.alloc {w : World} {b : Nat} {cs : Array Value} {t : TypeId} (h : Blk w b cs t) (o : Obj) : Blk (w.alloc o) b cs t := (Below.heap_alloc w o b h.lt).trans h
theorem Blk.far {w : World} {b : Nat} {cs : Array Value} {t : TypeId} (h : Blk w b cs t) {a : Addr} (hne : b ≠ a.block) (u : Value) : Blk (w.setCell a u) b cs t := (Below.heap_setCell w a u b hne).trans h
theorem Blk.put {w : World} {b : Nat} {cs : Array Value} {t : TypeId} (h : Blk w b cs t) (i : Nat) (u : Value) : Blk (w.setCell ⟨b, i, none⟩ u) b (cs.setIfInBounds i u) t := by
  unfold Blk at h ⊢
  simp [World.setCell, Array.getElem?_modify, h]
theorem Blk.new (w : World) (cs : Array Value) (t : TypeId) : Blk (w.alloc (.cells cs t)) w.heap.size cs t := by
  unfold Blk
  show (w.heap.push _)[w.heap.size]? = _
  simp
/-- nothing but draws has happened -/
structure Still (w w' : World) : Prop where
  os : w'.os = w.os
  tape : w'.tape = w.tape
  output : w'.output = w.output
  heap : w'.heap = w.heap
theorem Still.refl (w : World) : Still w w := ⟨rfl, rfl, rfl, rfl⟩
theorem Still.trans {a b c : World} (h : Still a b) (k : Still b c) : Still a c := ⟨k.os.trans h.os, k.tape.trans h.tape, k.output.trans h.output, k.heap.trans h.heap⟩
theorem Still.drew {a w : World} (h : Still a w) : Still a w.drew := ⟨h.os, h.tape, h.output, h.heap⟩
theorem Still.drewN {a w : World} (h : Still a w) (n : Nat) : Still a (w.drewN n) := ⟨h.os, h.tape, h.output, h.heap⟩
theorem Still.below {w w' : World} (h : Still w w') (B : Nat) : Below B w w' := ⟨h.os, h.tape, h.output, by rw [h.heap]; exact Nat.le_refl _, fun k _ => by rw [h.heap]⟩
theorem Still.blk {w w' : World} (h : Still w w') {b : Nat} {cs : Array Value} {t : TypeId} (k : Blk w b cs t) : Blk w' b cs t := by
  unfold Blk
  rw [h.heap]
  exact k
section
variable {P : Program} {ops : Array Oper} {rest : List Oper} {o : Oper} {a : Act} {Q : Exit → Act → World → Prop} {W : World}
/-- a law's guard: the operation that writes slot N, and no other -/
theorem gate_dst {N : Tmp} (_hN : o.dst = some N) (h : wpList P ops Q (o :: rest) a W) : wpList P ops Q (o :: rest) a W := h
end
/-- block B alone has been written -/
structure Only (B : Nat) (w w' : World) : Prop where
  os : w'.os = w.os
  tape : w'.tape = w.tape
  output : w'.output = w.output
  size : w'.heap.size = w.heap.size
  block : ∀ k, k ≠ B → w'.heap[k]? = w.heap[k]?
theorem Only.refl (B : Nat) (w : World) : Only B w w := ⟨rfl, rfl, rfl, rfl, fun _ _ => rfl⟩
theorem Only.trans {B : Nat} {a b c : World} (h : Only B a b) (k : Only B b c) : Only B a c := ⟨k.os.trans h.os, k.tape.trans h.tape, k.output.trans h.output, k.size.trans h.size, fun j hj => (k.block j hj).trans (h.block j hj)⟩
theorem Only.below {B B0 : Nat} {w w' : World} (h : Only B w w') (hB : B0 ≤ B) : Below B0 w w' := ⟨h.os, h.tape, h.output, by rw [h.size]; exact Nat.le_refl _, fun k hk => h.block k (by omega)⟩
theorem Only.blk {B : Nat} {w w' : World} (h : Only B w w') {b : Nat} {cs : Array Value} {t : TypeId} (k : Blk w b cs t) (hne : b ≠ B) : Blk w' b cs t := (h.block b hne).trans k
theorem Only.drew {B : Nat} {a w : World} (h : Only B a w) : Only B a w.drew := ⟨h.os, h.tape, h.output, h.size, h.block⟩
theorem Only.drewN {B : Nat} {a w : World} (h : Only B a w) (n : Nat) : Only B a (w.drewN n) := ⟨h.os, h.tape, h.output, h.size, h.block⟩
theorem Only.setCell {B : Nat} {a w : World} (h : Only B a w) (p : Addr) (hp : p.block = B) (u : Value) : Only B a (w.setCell p u) :=
  h.trans ⟨rfl, rfl, rfl, by simp [World.setCell], fun k hk => Below.heap_setCell w p u k (by omega)⟩
/-- from here on the world is told by what is known of it alone -/
theorem gen_world {P : Program} {c : Code} {Q : Exit → Act → World → Prop} {a : Act} {w : World} (R : World → Prop) (h : R w) (k : ∀ w', R w' → c.wp P Q a w') : c.wp P Q a w := k w h
end Go.Proofs.YtcdhkeahcliefaaGreatDoor.Kit
/- Patterns in plain words: how a pattern's bytes are read, piece by piece; which texts are of the pieces. No Go in it. -/
namespace Go.Proofs.YtcdhkeahcliefaaGreatDoor.Pat
set_option linter.unusedVariables false

/-- byte i of a text -/
def gb (s : ByteArray) (i : Nat) : Nat := (s.data.getD i 0).toNat
theorem gb_lt (s : ByteArray) (i : Nat) : gb s i < 256 := by
  unfold gb
  exact UInt8.toNat_lt _
/-- what a piece is -/
inductive Pc where
  | byte (b : Nat)
  | any1
  | star
  | stars
  | set (M : Nat → Bool)
/-- the byte that a unit of a set stands for, and the place behind it -/
def U (s : ByteArray) (i : Nat) : Option (Nat × Nat) :=
  if s.size ≤ i then none
  else if gb s i = 93 ∨ gb s i = 45 then none
  else if gb s i = 92 then (if s.size ≤ i + 1 then none else some (gb s (i + 1), i + 2))
  else some (gb s i, i + 1)
/-- a range of a set -/
def R (s : ByteArray) (i : Nat) : Option (Nat × Nat × Nat) :=
  match U s i with
  | none => none
  | some (lo, j) =>
    if j < s.size ∧ gb s j = 45 then
      match U s (j + 1) with
      | none => none
      | some (hi, k) => if hi < lo then none else some (lo, hi, k)
    else some (lo, lo, j)
def add (M : Nat → Bool) (lo hi : Nat) : Nat → Bool := fun c => M c || (decide (lo ≤ c) && decide (c ≤ hi))
/-- is the set at its end? -/
def AtEnd (s : ByteArray) (i k : Nat) : Prop := k ≠ 0 ∧ i < s.size ∧ gb s i = 93
instance (s : ByteArray) (i k : Nat) : Decidable (AtEnd s i k) := by unfold AtEnd; infer_instance
/-- the ranges of a set, from place i on: k of them so far, M so far -/
inductive SetRun (s : ByteArray) : Nat → (Nat → Bool) → Nat → Option ((Nat → Bool) × Nat) → Prop where
  | stop {i M k} (h : AtEnd s i k) : SetRun s i M k (some (M, i))
  | bad {i M k} (h : ¬ AtEnd s i k) (hr : R s i = none) : SetRun s i M k none
  | step {i M k lo hi j r} (h : ¬ AtEnd s i k) (hr : R s i = some (lo, hi, j)) (h2 : SetRun s j (add M lo hi) (k + 1) r) : SetRun s i M k r
theorem SetRun.same {s : ByteArray} {i : Nat} {M : Nat → Bool} {k : Nat} {r r' : Option ((Nat → Bool) × Nat)} (h : SetRun s i M k r) (h' : SetRun s i M k r') : r = r' := by
  induction h with
  | stop h =>
    cases h' with
    | stop => rfl
    | bad h2 => exact absurd h h2
    | step h2 => exact absurd h h2
  | bad h hr =>
    cases h' with
    | stop h2 => exact absurd h2 h
    | bad => rfl
    | step _ hr2 => rw [hr] at hr2; cases hr2
  | step h hr _ ih =>
    cases h' with
    | stop h2 => exact absurd h2 h
    | bad _ hr2 => rw [hr] at hr2; cases hr2
    | step _ hr2 h3 =>
      rw [hr] at hr2
      cases hr2
      exact ih h3
/-- the first place from i on that is no star -/
inductive StarRun (s : ByteArray) : Nat → Nat → Prop where
  | stop {i} (h : ¬ (i < s.size ∧ gb s i = 42)) : StarRun s i i
  | step {i j} (h : i < s.size ∧ gb s i = 42) (h2 : StarRun s (i + 1) j) : StarRun s i j
theorem StarRun.same {s : ByteArray} {i j j' : Nat} (h : StarRun s i j) (h' : StarRun s i j') : j = j' := by
  induction h with
  | stop h =>
    cases h' with
    | stop => rfl
    | step h2 => exact absurd h2 h
  | step h _ ih =>
    cases h' with
    | stop h2 => exact absurd h h2
    | step _ h3 => exact ih h3
theorem StarRun.le {s : ByteArray} {i j : Nat} (h : StarRun s i j) : i ≤ j := by
  induction h with
  | stop => exact Nat.le_refl _
  | step _ _ ih => omega
theorem StarRun.lt {s : ByteArray} {i j : Nat} (h : StarRun s i j) (hi : i ≤ s.size) : j ≤ s.size := by
  induction h with
  | stop => exact hi
  | step h _ ih => exact ih (by omega)
/-- a set's members at last: turned over where it says so; the slash never -/
def last (neg : Bool) (M : Nat → Bool) : Nat → Bool := fun c => (M c != neg) && c != 47
def Turned (s : ByteArray) (i : Nat) : Bool := decide (i < s.size) && gb s i == 33
def past (s : ByteArray) (i : Nat) : Nat := if Turned s i then i + 1 else i
/-- one piece, at place i (there is a byte) -/
inductive Piece (s : ByteArray) : Nat → Option (Pc × Nat) → Prop where
  | star {i} (h : gb s i = 42) (hj : StarRun s (i + 1) (i + 1)) : Piece s i (some (.star, i + 1))
  | stars {i j} (h : gb s i = 42) (hj : StarRun s (i + 1) j) (hne : i + 1 < j) : Piece s i (some (.stars, j))
  | any1 {i} (h : gb s i = 63) : Piece s i (some (.any1, i + 1))
  | set {i M e} (h : gb s i = 91) (hr : SetRun s (past s (i + 1)) (fun _ => false) 0 (some (M, e))) : Piece s i (some (.set (last (Turned s (i + 1)) M), e + 1))
  | noset {i} (h : gb s i = 91) (hr : SetRun s (past s (i + 1)) (fun _ => false) 0 none) : Piece s i none
  | esc {i} (h : gb s i = 92) (hl : i + 1 < s.size) : Piece s i (some (.byte (gb s (i + 1)), i + 2))
  | noesc {i} (h : gb s i = 92) (hl : s.size ≤ i + 1) : Piece s i none
  | byte {i} (h1 : gb s i ≠ 42) (h2 : gb s i ≠ 63) (h3 : gb s i ≠ 91) (h4 : gb s i ≠ 92) : Piece s i (some (.byte (gb s i), i + 1))
theorem Piece.same {s : ByteArray} {i : Nat} {r r' : Option (Pc × Nat)} (h : Piece s i r) (h' : Piece s i r') : r = r' := by
  cases h with
  | star h hj =>
    cases h' with
    | star => rfl
    | stars h2 hj2 hne => have := hj.same hj2; omega
    | _ => first | omega | (exfalso; omega)
  | stars h hj hne =>
    cases h' with
    | star h2 hj2 => have := hj.same hj2; omega
    | stars h2 hj2 hne => rw [hj.same hj2]
    | _ => first | omega | (exfalso; omega)
  | any1 h => cases h' <;> first | rfl | (exfalso; omega)
  | set h hr =>
    cases h' with
    | set h2 hr2 => cases hr.same hr2; rfl
    | noset h2 hr2 => cases hr.same hr2
    | _ => exfalso; omega
  | noset h hr =>
    cases h' with
    | set h2 hr2 => cases hr.same hr2
    | noset => rfl
    | _ => exfalso; omega
  | esc h hl => cases h' <;> first | rfl | (exfalso; omega)
  | noesc h hl => cases h' <;> first | rfl | (exfalso; omega)
  | byte h1 h2 h3 h4 => cases h' <;> first | rfl | (exfalso; omega)
/-- all pieces, from place i on -/
inductive Run (s : ByteArray) : Nat → List Pc → Option (List Pc) → Prop where
  | stop {i l} (h : s.size ≤ i) : Run s i l (some l)
  | bad {i l} (h : i < s.size) (hp : Piece s i none) : Run s i l none
  | step {i l p j r} (h : i < s.size) (hp : Piece s i (some (p, j))) (h2 : Run s j (l ++ [p]) r) : Run s i l r
theorem Run.same {s : ByteArray} {i : Nat} {l : List Pc} {r r' : Option (List Pc)} (h : Run s i l r) (h' : Run s i l r') : r = r' := by
  induction h with
  | stop h =>
    cases h' with
    | stop => rfl
    | bad h2 => omega
    | step h2 => omega
  | bad h hp =>
    cases h' with
    | stop h2 => omega
    | bad => rfl
    | step _ hp2 => cases hp.same hp2
  | step h hp _ ih =>
    cases h' with
    | stop h2 => omega
    | bad _ hp2 => cases hp.same hp2
    | step _ hp2 h3 =>
      cases hp.same hp2
      exact ih h3

/-- may a byte stand for the piece (for a star: be one of its bytes)? -/
def takes : Pc → Nat → Bool
  | .byte b, c => c == b
  | .any1, c => c != 47
  | .star, c => c != 47
  | .stars, _ => true
  | .set M, c => M c
def many : Pc → Bool
  | .star => true
  | .stars => true
  | _ => false
/-- to which places of the text one comes behind a piece, from those of S -/
def stepM (p : Pc) (t : ByteArray) (S : Nat → Bool) : Nat → Bool
  | 0 => S 0
  | i + 1 => S (i + 1) || (stepM p t S i && takes p (gb t i))
def step1 (p : Pc) (t : ByteArray) (S : Nat → Bool) : Nat → Bool
  | 0 => false
  | i + 1 => S i && takes p (gb t i)
def step (p : Pc) (t : ByteArray) (S : Nat → Bool) : Nat → Bool := if many p then stepM p t S else step1 p t S
def atZero : Nat → Bool := fun i => i == 0
def reach (t : ByteArray) (S : Nat → Bool) (l : List Pc) : Nat → Bool := l.foldl (fun S p => step p t S) S
/-- is the text of these pieces? -/
def isOf (l : List Pc) (t : ByteArray) : Bool := reach t atZero l t.size
theorem reach_snoc (t : ByteArray) (S : Nat → Bool) (l : List Pc) (p : Pc) : reach t S (l ++ [p]) = step p t (reach t S l) := by
  unfold reach
  rw [List.foldl_append]
  rfl
/-- what Match answers -/
inductive Answer (p t : ByteArray) : Bool → Int → Prop where
  | long (h : 255 < p.size) : Answer p t false 7
  | bad (h : p.size ≤ 255) (hr : Run p 0 [] none) : Answer p t false 190
  | text {l} (h : p.size ≤ 255) (hr : Run p 0 [] (some l)) (ht : 1023 < t.size) : Answer p t false 7
  | of {l} (h : p.size ≤ 255) (hr : Run p 0 [] (some l)) (ht : t.size ≤ 1023) : Answer p t (isOf l t) 0
theorem Answer.same {p t : ByteArray} {b b' : Bool} {e e' : Int} (h : Answer p t b e) (h' : Answer p t b' e') : b = b' ∧ e = e' := by
  cases h with
  | long h => cases h' <;> first | exact ⟨rfl, rfl⟩ | (exfalso; omega)
  | bad h hr =>
    cases h' with
    | long h2 => omega
    | bad => exact ⟨rfl, rfl⟩
    | text h2 hr2 => cases hr.same hr2
    | of h2 hr2 => cases hr.same hr2
  | text h hr ht =>
    cases h' with
    | long h2 => omega
    | bad h2 hr2 => cases hr.same hr2
    | text h2 hr2 => exact ⟨rfl, rfl⟩
    | of h2 hr2 ht2 => omega
  | of h hr ht =>
    cases h' with
    | long h2 => omega
    | bad h2 hr2 => cases hr.same hr2
    | text h2 hr2 ht2 => omega
    | of h2 hr2 ht2 => cases hr.same hr2; exact ⟨rfl, rfl⟩
end Go.Proofs.YtcdhkeahcliefaaGreatDoor.Pat
/- The compiler's small parts: more, next, unit, fill. -/
namespace Go.Proofs.YtcdhkeahcliefaaGreatDoor.PatA
open Go.ChangeShapes Go.WideShapes Go.ChangeAt Go.RowKit
open Go.Proofs.YtcdhkeahcliefaaGreatDoor.Kit Go.Proofs.YtcdhkeahcliefaaGreatDoor.Pat
set_option linter.unusedVariables false

theorem index_gb (s : ByteArray) (i : Nat) (h : i < s.size) (w : World) : (Instr.index 9 (.string s) (.int .i64 i)).run Tryz.prog w = .ok (.int .u8 (gb s i)) w := by
  have e : s[i]? = some (s.data.getD i 0) := by
    rw [getElem?_pos s i h]
    have h2 : i < s.data.size := h
    show some s.data[i] = some (s.data.getD i 0)
    rw [Array.getD_eq_getD_getElem?, Array.getElem?_eq_getElem h2]
    rfl
  have h0 : (0 : Int) ≤ (i : Int) := by omega
  simp [Instr.index, asIntOf, run_underlying Tryz.underlying9, e, gb, h0]
/-- a piece's cells -/
def bools (n : Nat) (M : Nat → Bool) : List Value := (List.range n).map fun c => .bool (M c)
theorem bools_length (n : Nat) (M : Nat → Bool) : (bools n M).length = n := by simp [bools]
theorem bools_get (n : Nat) (M : Nat → Bool) (c : Nat) (h : c < n) : (bools n M)[c]? = some (.bool (M c)) := by
  unfold bools
  rw [List.getElem?_map, List.getElem?_range h]
  rfl
theorem bools_congr {n : Nat} {M M' : Nat → Bool} (h : ∀ c, c < n → M c = M' c) : bools n M = bools n M' := by
  unfold bools
  apply List.map_congr_left
  intro c hc
  rw [h c (List.mem_range.1 hc)]
def upd (M : Nat → Bool) (c : Nat) (v : Bool) : Nat → Bool := fun x => if x = c then v else M x
theorem bools_set (n : Nat) (M : Nat → Bool) (c : Nat) (v : Bool) : (bools n M).set c (.bool v) = bools n (upd M c v) := by
  apply List.ext_getElem?
  intro i
  by_cases hi : i < n
  · rw [bools_get n _ i hi, List.getElem?_set, bools_get n M i hi, bools_length]
    unfold upd
    by_cases hc : c = i
    · subst hc
      simp [hi]
    · rw [if_neg hc, if_neg (Ne.symm hc)]
  · rw [List.getElem?_eq_none (by rw [List.length_set, bools_length]; omega), List.getElem?_eq_none (by rw [bools_length]; omega)]
def rowA (k : Int) (M : Nat → Bool) : Array Value := (.int .i64 k :: bools 256 M).toArray
theorem rowA_size (k : Int) (M : Nat → Bool) : (rowA k M).size = 257 := by
  show (Value.int .i64 k :: bools 256 M).length = 257
  rw [List.length_cons, bools_length]
theorem rowA_kind (k : Int) (M : Nat → Bool) : (rowA k M)[0]? = some (.int .i64 k) := rfl
theorem rowA_get (k : Int) (M : Nat → Bool) (c : Nat) (h : c < 256) : (rowA k M)[1 + c]? = some (.bool (M c)) := by
  unfold rowA
  rw [Nat.add_comm, List.getElem?_toArray, List.getElem?_cons_succ, bools_get 256 M c h]
theorem rowA_put (k : Int) (M : Nat → Bool) (c : Nat) (v : Bool) : (rowA k M).setIfInBounds (1 + c) (.bool v) = rowA k (upd M c v) := by
  unfold rowA
  rw [Nat.add_comm, List.setIfInBounds_toArray, List.set_cons_succ, bools_set]
theorem rowA_setKind (k k' : Int) (M : Nat → Bool) : (rowA k M).setIfInBounds 0 (.int .i64 k') = rowA k' M := by
  unfold rowA
  rw [List.setIfInBounds_toArray, List.set_cons_zero]
theorem rowA_congr {k : Int} {M M' : Nat → Bool} (h : ∀ c, c < 256 → M c = M' c) : rowA k M = rowA k M' := by
  unfold rowA
  rw [bools_congr h]

/-- the compiler in block C: its pattern, and the place that it has come to -/
def Cp (w : World) (C : Nat) (s : ByteArray) (i : Nat) : Prop := Blk w C #[.string s, .int .i64 (i : Int)] 158
def Threw (x : Int) (e : Ending) : Prop := e = .panicked [{ v := .iface 23 (.int .i64 x), recovered := false }]
theorem panics (x : Int) (w : World) : (Instr.panic (.iface 23 (.int .i64 x))).run Tryz.prog w = .halt (.panic (.iface 23 (.int .i64 x))) w := by kernel_rfl

set_option maxRecDepth 100000 in
set_option maxHeartbeats 1600000 in
theorem more_at (C : Nat) (s : ByteArray) (i : Nat) (b : Bool) (w : World) (hb : decide (i < s.size) = b) (H : Hid (Cp w C s i)) :
    Calls Tryz.prog 89 #[.pointer (some ⟨C, 0, none⟩)] w fun e w' => e = .returned (.bool b) ∧ ∃ m, w' = w.drewN m := by
  subst hb
  have c0 : w.cell? ⟨C, 0, none⟩ = some (.string s) := (H.out.cell 0).trans rfl
  have c1 : w.cell? ⟨C, 1, none⟩ = some (.int .i64 (i : Int)) := (H.out.cell 1).trans rfl
  go_enter Tryz.func89, Tryz.ntmps89
  go_wp2_with (go_quiet (fail))
  go_ret
  exact ⟨rfl, _, rfl⟩
set_option maxRecDepth 100000 in
set_option maxHeartbeats 1600000 in
theorem next_no (C : Nat) (s : ByteArray) (i : Nat) (w : World) (h : s.size ≤ i) (H : Hid (Cp w C s i)) :
    Calls Tryz.prog 94 #[.pointer (some ⟨C, 0, none⟩)] w fun e w' => Threw 190 e ∧ Still w w' := by
  have hpn := panics 190
  have HL := Lib.hid (decide_eq_false (Nat.not_lt.2 h))
  clear h
  go_enter Tryz.func94, Tryz.ntmps94
  go_wp2_with fail
  refine (more_at C s i false _ HL.out H).mono ?_
  rintro e w1 ⟨rfl, m, rfl⟩
  have HS := Lib.hid ((Still.refl w).drewN m)
  generalize w.drewN m = w1 at *
  go_wp2_with fail
  exact ⟨rfl, rfl, HS.out⟩
set_option maxRecDepth 100000 in
set_option maxHeartbeats 1600000 in
theorem next_yes (C : Nat) (s : ByteArray) (i : Nat) (w : World) (h : i < s.size) (hs9 : s.size ≤ 1000) (H : Hid (Cp w C s i)) :
    Calls Tryz.prog 94 #[.pointer (some ⟨C, 0, none⟩)] w fun e w' => e = .returned (.int .u8 (gb s i)) ∧ Hid (Only C w w' ∧ Cp w' C s (i + 1)) := by
  have HL := Lib.hid (decide_eq_true h)
  have HLT := Lib.hid h
  have HI := Lib.hid (index_gb s i h)
  have hi9 : (i : Int) ≤ 1000 := by omega
  clear h hs9
  go_enter Tryz.func94, Tryz.ntmps94
  go_wp2_with fail
  refine (more_at C s i true _ HL.out H).mono ?_
  rintro e w1 ⟨rfl, m, rfl⟩
  have hs := (Still.refl w).drewN m
  have HK : Hid (Cp (w.drewN m) C s i) := hs.blk H.out
  have HS := Lib.hid hs
  clear hs
  generalize w.drewN m = w1 at *
  have c1 : w1.cell? ⟨C, 1, none⟩ = some (.int .i64 (i : Int)) := (HK.out.cell 1).trans rfl
  have f1 := HK.out.frozen 1
  go_upto_region 4 with (fail)
  refine gen_world (fun w' => Hid (Only C w w' ∧ Cp w' C s (i + 1))) ?_ ?_
  · refine ⟨?_, HK.out.put 1 _⟩
    exact Only.setCell ⟨HS.out.os, HS.out.tape, HS.out.output, by rw [HS.out.heap], fun k _ => by rw [HS.out.heap]⟩ ⟨C, 1, none⟩ rfl _
  clear c1 f1 HK HS w1
  rintro w1 h1
  have c0 : w1.cell? ⟨C, 0, none⟩ = some (.string s) := (h1.out.2.cell 0).trans rfl
  have c1 : w1.cell? ⟨C, 1, none⟩ = some (.int .i64 ((i + 1 : Nat) : Int)) := (h1.out.2.cell 1).trans rfl
  have hx := HI.out
  clear HI
  obtain ⟨y, hy⟩ : ∃ y, gb s i = y := ⟨_, rfl⟩
  rw [hy] at hx
  have HY := Lib.hid hy
  clear hy
  go_wp2_with (go_quiet (fail))
  go_ret
  exact ⟨by rw [HY.out]; rfl, h1.out.1.drewN _, h1.out.2⟩
/-- block C alone may have been written -/
theorem Still.only {w w' : World} (h : Still w w') (C : Nat) : Only C w w' := ⟨h.os, h.tape, h.output, by rw [h.heap], fun k _ => by rw [h.heap]⟩
set_option maxRecDepth 100000 in
set_option maxHeartbeats 1600000 in
theorem unit_none (C : Nat) (s : ByteArray) (i : Nat) (w : World) (h : U s i = none) (hs9 : s.size ≤ 1000) (H : Hid (Cp w C s i)) :
    Calls Tryz.prog 99 #[.pointer (some ⟨C, 0, none⟩)] w fun e w' => Threw 190 e ∧ Hid (Only C w w') := by
  have hpn := panics 190
  have HS9 := Lib.hid hs9
  clear hs9
  unfold U at h
  by_cases h1 : s.size ≤ i
  · clear h
    have H1 := Lib.hid h1
    clear h1
    go_enter Tryz.func99, Tryz.ntmps99
    go_wp2_with fail
    refine (next_no C s i _ H1.out H).mono ?_
    rintro e w1 ⟨he, hs⟩
    unfold Threw at he
    subst he
    exact ⟨rfl, rfl, Still.only hs C⟩
  · rw [if_neg h1] at h
    have H1 := Lib.hid (Nat.lt_of_not_le h1)
    clear h1
    go_enter Tryz.func99, Tryz.ntmps99
    go_wp2_with fail
    refine (next_yes C s i _ H1.out HS9.out H).mono ?_
    obtain ⟨y, hy⟩ : ∃ y, gb s i = y := ⟨_, rfl⟩
    rw [hy] at h ⊢
    clear hy
    rintro e w1 ⟨rfl, hk⟩
    by_cases h2 : y = 93
    · subst h2
      clear h
      go_wp2_with fail
      exact ⟨rfl, rfl, hk.out.1⟩
    by_cases h3 : y = 45
    · subst h3
      clear h
      go_wp2_with fail
      exact ⟨rfl, rfl, hk.out.1⟩
    rw [if_neg (by omega)] at h
    by_cases h4 : y = 92
    · subst h4
      rw [if_pos rfl] at h
      by_cases h5 : s.size ≤ i + 1
      · have H5 := Lib.hid h5
        clear h h5
        go_wp2_with fail
        refine (next_no C s (i + 1) _ H5.out hk.out.2).mono ?_
        rintro e w2 ⟨he, hs⟩
        unfold Threw at he
        subst he
        exact ⟨rfl, rfl, hk.out.1.trans (Still.only hs C)⟩
      · rw [if_neg h5] at h
        cases h
    · rw [if_neg h4] at h
      cases h
set_option maxRecDepth 100000 in
set_option maxHeartbeats 1600000 in
theorem unit_some (C : Nat) (s : ByteArray) (i : Nat) (x j : Nat) (w : World) (h : U s i = some (x, j)) (hs9 : s.size ≤ 1000) (H : Hid (Cp w C s i)) :
    Calls Tryz.prog 99 #[.pointer (some ⟨C, 0, none⟩)] w fun e w' => e = .returned (.int .u8 x) ∧ Hid (Only C w w' ∧ Cp w' C s j) := by
  have HS9 := Lib.hid hs9
  clear hs9
  unfold U at h
  by_cases h1 : s.size ≤ i
  · rw [if_pos h1] at h
    cases h
  rw [if_neg h1] at h
  have H1 := Lib.hid (Nat.lt_of_not_le h1)
  clear h1
  go_enter Tryz.func99, Tryz.ntmps99
  go_wp2_with fail
  refine (next_yes C s i _ H1.out HS9.out H).mono ?_
  obtain ⟨y, hy⟩ : ∃ y, gb s i = y := ⟨_, rfl⟩
  rw [hy] at h ⊢
  clear hy
  rintro e w1 ⟨rfl, hk⟩
  by_cases h2 : y = 93 ∨ y = 45
  · rw [if_pos h2] at h
    cases h
  rw [if_neg h2] at h
  have e1 : ((y : Int) == 93) = false := beq_eq_false_iff_ne.2 (by omega)
  have e2 : ((y : Int) == 45) = false := beq_eq_false_iff_ne.2 (by omega)
  by_cases h4 : y = 92
  · subst h4
    rw [if_pos rfl] at h
    by_cases h5 : s.size ≤ i + 1
    · rw [if_pos h5] at h
      cases h
    rw [if_neg h5] at h
    cases h
    have H5 := Lib.hid (Nat.lt_of_not_le h5)
    clear h5 h2 e1 e2
    go_wp2_with fail
    refine (next_yes C s (i + 1) _ H5.out HS9.out hk.out.2).mono ?_
    rintro e w2 ⟨rfl, hk2⟩
    go_wp2_with fail
    go_ret
    exact ⟨rfl, hk.out.1.trans hk2.out.1, hk2.out.2⟩
  · rw [if_neg h4] at h
    cases h
    have e3 : ((x : Int) == 92) = false := beq_eq_false_iff_ne.2 (by omega)
    clear h2 h4
    go_wp2_with fail
    go_ret
    exact ⟨rfl, hk.out⟩
def part (M : Nat → Bool) (lo b : Nat) : Nat → Bool := fun c => M c || (decide (lo ≤ c) && decide (c < b))
theorem part_start (M : Nat → Bool) (lo : Nat) : part M lo lo = M := by
  funext c
  unfold part
  by_cases h : lo ≤ c
  · simp [Nat.not_lt.2 h]
  · simp [h]
theorem part_step (M : Nat → Bool) (lo b : Nat) (h : lo ≤ b) : upd (part M lo b) b true = part M lo (b + 1) := by
  funext c
  unfold upd part
  by_cases hc : c = b
  · subst hc
    simp [h]
  · rw [if_neg hc]
    congr 2
    apply decide_eq_decide.2
    omega
theorem part_end (M : Nat → Bool) (lo hi : Nat) (h : lo ≤ hi) : part M lo (hi + 1) = add M lo hi := by
  funext c
  unfold part add
  congr 2
  apply decide_eq_decide.2
  omega
set_option maxRecDepth 100000 in
set_option maxHeartbeats 1600000 in
theorem fill_any (Q : Nat) (k : Int) (M : Nat → Bool) (lo hi : Nat) (w : World) (h : lo ≤ hi) (h9 : hi ≤ 255) (H : Hid (Blk w Q (rowA k M) 161)) :
    Calls Tryz.prog 95 #[.pointer (some ⟨Q, 0, none⟩), .int .i64 lo, .int .i64 hi] w fun e w' => e = .returned (.tuple #[]) ∧ Hid (Only Q w w' ∧ Blk w' Q (rowA k (add M lo hi)) 161) := by
  go_enter Tryz.func95, Tryz.ntmps95
  go_wp2_with fail
  go_loopw [6] (fun i wr => ∃ (b : Nat), i = .int .i64 b ∧ lo ≤ b ∧ b ≤ hi + 1 ∧ Hid (Only Q w wr ∧ Blk wr Q (rowA k (part M lo b)) 161)) (fun i _ => hi + 1 - (intOf i).toNat)
  case atStart => exact ⟨lo, rfl, Nat.le_refl _, by omega, Only.refl _ _, by rw [part_start]; exact H.out⟩
  case round =>
    obtain ⟨b, rfl, hb1, hb2, HK⟩ := hrel
    by_cases hlt : b ≤ hi
    · have hc : wr.cell? ⟨Q, 1 + b, none⟩ = some (.bool (part M lo b b)) := (HK.out.2.cell _).trans (rowA_get k _ b (by omega))
      have hf := HK.out.2.frozen (1 + b)
      have hb9 : (b : Int) < 256 := by omega
      generalize part M lo b b = y at hc
      go_wp2_with fail
      refine ⟨⟨b + 1, by go_num, by omega, by omega, HK.out.1.setCell ⟨Q, 1 + b, none⟩ rfl _, ?_⟩, by simp [intOf]; omega⟩
      have := HK.out.2.put (1 + b) (.bool true)
      rw [rowA_put, part_step M lo b hb1] at this
      exact this
    · go_wp2_with fail
      go_end0
      obtain rfl : b = hi + 1 := by omega
      rw [part_end M lo hi h] at HK
      exact ⟨rfl, HK.out⟩
end Go.Proofs.YtcdhkeahcliefaaGreatDoor.PatA
