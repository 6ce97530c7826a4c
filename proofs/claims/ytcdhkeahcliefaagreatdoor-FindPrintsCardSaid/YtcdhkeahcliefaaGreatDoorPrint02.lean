/- Words on bytes and texts in memory, on rows of one's own, on worlds that only grow. The program's parser over words: next, take. The shelf's contracts for strings.IndexAny, laid at this program (plain text; the numbers as the shelf's command tells them). -/
import Derived.Test.YtcdhkeahcliefaaGreatDoorPrint01
import Derived.Laws.AppendOwn
import Derived.Lib.UnsafeStr
import Derived.Lib.AppendStr
import Derived.Laws.BytesArg
import Derived.Laws.Strings
import Derived.Deep.AppendLies
import Derived.Deep.RegionLaw
import Derived.Lib.Strings
import Derived.Shelf.Strings.IndexAnyAll
/- Words on bytes and texts in memory, on rows of one's own, on worlds that only grow. -/
namespace Go.Proofs.YtcdhkeahcliefaaGreatDoor.Base
open Go.ChangeShapes Go.WideShapes Go.ChangeAt Go.RowKit
open Go.Proofs.YtcdhkeahcliefaaGreatDoor.Kit
set_option linter.unusedVariables false

/-- a text by its bytes -/
def str (l : List UInt8) : ByteArray := ⟨l.toArray⟩
theorem str_size (l : List UInt8) : (str l).size = l.length := by
  show l.toArray.size = _
  simp
theorem str_list (l : List UInt8) : (str l).data.toList = l := by simp [str]
theorem str_of (s : ByteArray) : str s.data.toList = s := by
  cases s
  simp [str]
theorem str_append (l r : List UInt8) : str l ++ str r = str (l ++ r) := by
  apply ByteArray.ext
  rw [ByteArray.data_append]
  simp [str]
theorem str_inj {l r : List UInt8} (h : str l = str r) : l = r := by
  have := congrArg (fun s : ByteArray => s.data.toList) h
  simpa [str] using this
theorem add_block (b i : Nat) : (⟨b, 0, none⟩ : Addr).add i = ⟨b, i, none⟩ := by
  unfold Addr.add
  by_cases h : i = 0
  · simp [h]
  · simp [h]
theorem add_off (b k i : Nat) : (⟨b, k, none⟩ : Addr).add i = ⟨b, k + i, none⟩ := by
  unfold Addr.add
  by_cases h : i = 0
  · simp [h]
  · simp [h]
/-- the bytes of a slice -/
def Bytes (w : World) (A : Option Addr) (l : List UInt8) : Prop := ∀ i (h : i < l.length), ∃ ad, A = some ad ∧ w.cell? (ad.add i) = some (.int .u8 (l[i].toNat : Int))
theorem Bytes.below {w w' : World} {A : Option Addr} {l : List UInt8} (h : Bytes w A l) (hb : Below w.heap.size w w') : Bytes w' A l := fun i hi => by
  obtain ⟨ad, e, hc⟩ := h i hi
  exact ⟨ad, e, (hb.cell (World.block_lt_of_cell? w _ hc)).trans hc⟩
theorem Bytes.nil (w : World) (A : Option Addr) : Bytes w A [] := fun i hi => absurd hi (Nat.not_lt_zero i)
/-- the texts of a slice -/
def Strs (w : World) (A : Option Addr) (xs : List ByteArray) : Prop := ∀ i (h : i < xs.length), ∃ ad, A = some ad ∧ w.cell? (ad.add i) = some (.string xs[i])
theorem Strs.below {w w' : World} {A : Option Addr} {l : List ByteArray} (h : Strs w A l) (hb : Below w.heap.size w w') : Strs w' A l := fun i hi => by
  obtain ⟨ad, e, hc⟩ := h i hi
  exact ⟨ad, e, (hb.cell (World.block_lt_of_cell? w _ hc)).trans hc⟩
theorem Strs.nil (w : World) (A : Option Addr) : Strs w A [] := fun i hi => absurd hi (Nat.not_lt_zero i)
/-- what is behind block B, and all that was there as it was -/
def Since (B : Nat) (w0 w : World) : Prop := Below B w0 w ∧ B ≤ w.heap.size
theorem Since.refl (w : World) : Since w.heap.size w w := ⟨Below.refl _ _, Nat.le_refl _⟩
theorem Since.next {B : Nat} {w0 w w' : World} (h : Since B w0 w) (hb : Below w.heap.size w w') : Since B w0 w' := ⟨h.1.trans (hb.mono h.2), Nat.le_trans h.2 hb.size⟩
theorem Since.drew {B : Nat} {w0 w : World} (h : Since B w0 w) : Since B w0 w.drew := ⟨h.1.drew, h.2⟩
theorem Since.drewN {B : Nat} {w0 w : World} (h : Since B w0 w) (n : Nat) : Since B w0 (w.drewN n) := h.next (((Still.refl w).drewN n).below _)
theorem Since.alloc {B : Nat} {w0 w : World} (h : Since B w0 w) (o : Obj) : Since B w0 (w.alloc o) := ⟨h.1.alloc h.2 o, by simp; have := h.2; omega⟩
theorem Since.on {B : Nat} {w0 w w' : World} (h : Since B w0 w) (hb : Below B w w') : Since B w0 w' := ⟨h.1.trans hb, Nat.le_trans h.2 hb.size⟩
theorem Since.below {w w' : World} (h : Since w.heap.size w w') : Below w.heap.size w w' := h.1

/-- worlds that differ in the blocks of S alone, and in new ones -/
structure Chg (S : Nat → Prop) (w w' : World) : Prop where
  os : w'.os = w.os
  tape : w'.tape = w.tape
  output : w'.output = w.output
  size : w.heap.size ≤ w'.heap.size
  block : ∀ k, k < w.heap.size → ¬ S k → w'.heap[k]? = w.heap[k]?
theorem Chg.refl (S : Nat → Prop) (w : World) : Chg S w w := ⟨rfl, rfl, rfl, Nat.le_refl _, fun _ _ _ => rfl⟩
theorem Chg.trans {S : Nat → Prop} {a b c : World} (h : Chg S a b) (k : Chg S b c) : Chg S a c :=
  ⟨k.os.trans h.os, k.tape.trans h.tape, k.output.trans h.output, Nat.le_trans h.size k.size, fun j hj hn => (k.block j (Nat.lt_of_lt_of_le hj h.size) hn).trans (h.block j hj hn)⟩
theorem Chg.of_below {S : Nat → Prop} {w w' : World} (h : Below w.heap.size w w') : Chg S w w' := ⟨h.os, h.tape, h.output, h.size, fun k hk _ => h.block k hk⟩
theorem Chg.of_only {S : Nat → Prop} {w w' : World} {B : Nat} (h : Only B w w') (hS : S B) : Chg S w w' := ⟨h.os, h.tape, h.output, by rw [h.size]; exact Nat.le_refl _, fun k _ hn => h.block k (fun e => hn (e ▸ hS))⟩
theorem Chg.below {S : Nat → Prop} {w w' : World} {B0 : Nat} (h : Chg S w w') (hB : B0 ≤ w.heap.size) (hS : ∀ k, S k → B0 ≤ k) : Below B0 w w' :=
  ⟨h.os, h.tape, h.output, h.size, fun k hk => h.block k (by omega) (fun hs => by have := hS k hs; omega)⟩
theorem Chg.blk {S : Nat → Prop} {w w' : World} (h : Chg S w w') {b : Nat} {cs : Array Value} {t : TypeId} (k : Blk w b cs t) (hn : ¬ S b) : Blk w' b cs t := (h.block b k.lt hn).trans k
theorem Chg.mono {S T : Nat → Prop} {w w' : World} (h : Chg S w w') (hST : ∀ k, S k → T k) : Chg T w w' := ⟨h.os, h.tape, h.output, h.size, fun k hk hn => h.block k hk (fun hs => hn (hST k hs))⟩
theorem Chg.drew {S : Nat → Prop} {a w : World} (h : Chg S a w) : Chg S a w.drew := ⟨h.os, h.tape, h.output, h.size, h.block⟩
theorem owns_apart {w : World} {base size n : Nat} {e : TypeId} {v : Value} {xs : List Value} (h : w.ownsRow base e size v n xs) : ∀ k, k < base → some k ≠ v.ownBlock := by
  intro k hk
  rcases h.2 with ⟨rfl, _⟩ | ⟨g, cap, cur, rfl, hb, _⟩
  · intro e; cases e
  · intro e
    have : k = g := by cases e; rfl
    omega
theorem owns_chg {w w' : World} {S : Nat → Prop} {base size n : Nat} {e : TypeId} {v : Value} {xs : List Value} (h : w.ownsRow base e size v n xs) (hc : Chg S w w') (hS : ∀ k, base ≤ k → ¬ S k) : w'.ownsRow base e size v n xs := by
  refine ⟨h.1, ?_⟩
  rcases h.2 with h | ⟨g, cap, cur, hv, hb, hg, h1, h2, h3, h4⟩
  · exact .inl h
  · exact .inr ⟨g, cap, cur, hv, hb, (hc.block g ((Array.getElem?_eq_some_iff.1 hg).1) (hS g hb)).trans hg, h1, h2, h3, h4⟩
theorem owns_below {w w' : World} {base size n : Nat} {e : TypeId} {v : Value} {xs : List Value} (h : w.ownsRow base e size v n xs) (hb : Below w.heap.size w w') : w'.ownsRow base e size v n xs :=
  owns_chg h (Chg.of_below (S := fun _ => False) hb) (fun _ _ h => h)
theorem owns_mono {w : World} {base base' size n : Nat} {e : TypeId} {v : Value} {xs : List Value} (h : w.ownsRow base e size v n xs) (hb : base' ≤ base) : w.ownsRow base' e size v n xs := by
  refine ⟨h.1, ?_⟩
  rcases h.2 with h | ⟨g, cap, cur, hv, h0, hg⟩
  · exact .inl h
  · exact .inr ⟨g, cap, cur, hv, Nat.le_trans hb h0, hg⟩
theorem grown_since {B : Nat} {w0 w w' : World} {row : Option Nat} (h : Since B w0 w) (hg : w.grownBy w' row) (hr : ∀ k, k < B → some k ≠ row) : Since B w0 w' :=
  ⟨h.1.trans ⟨hg.os, hg.tape, hg.output, hg.size, fun k hk => hg.block k (Nat.lt_of_lt_of_le hk h.2) (hr k hk)⟩, Nat.le_trans h.2 hg.size⟩
/-- a value that owns n cells, as a slice -/
theorem owns_slice {w : World} {base size n : Nat} {e : TypeId} {v : Value} {xs : List Value} (h : w.ownsRow base e size v n xs) : ∃ A c, v = .slice A n c ∧ ∀ j u, xs[j]? = some u → ∃ ad, A = some ad ∧ w.cell? (ad.add j) = some u := by
  obtain ⟨hl, h⟩ := h
  rcases h with ⟨rfl, rfl⟩ | ⟨g, cap, cur, rfl, hb, hg, q1, q2, q3, q4⟩
  · refine ⟨none, 0, rfl, fun j u hu => ?_⟩
    have := (List.getElem?_eq_some_iff.1 hu).1
    omega
  · refine ⟨some ⟨g, 0, none⟩, cap, rfl, fun j u hu => ⟨_, rfl, ?_⟩⟩
    have hk : Blk w g cur e := hg
    have hj : j < n * size := by rw [← hl]; exact (List.getElem?_eq_some_iff.1 hu).1
    rw [add_block, hk.cell, ← Array.getElem?_toList]
    have e := congrArg (fun l => l[j]?) q4
    rw [List.getElem?_take, if_pos hj, hu] at e
    exact e
theorem owns_bytes {w : World} {base n : Nat} {v : Value} {l : List UInt8} (h : w.ownsRow base 5 1 v n (Lib.byteCells l)) : ∃ A c, v = .slice A n c ∧ Bytes w A l := by
  obtain ⟨A, c, e, hc⟩ := owns_slice h
  refine ⟨A, c, e, fun i hi => hc i _ ?_⟩
  unfold Lib.byteCells
  rw [List.getElem?_map, List.getElem?_eq_getElem hi]
  rfl
theorem owns_strs {w : World} {base n : Nat} {v : Value} {xs : List ByteArray} (h : w.ownsRow base 9 1 v n (xs.map Value.string)) : ∃ A c, v = .slice A n c ∧ Strs w A xs := by
  obtain ⟨A, c, e, hc⟩ := owns_slice h
  refine ⟨A, c, e, fun i hi => hc i _ ?_⟩
  rw [List.getElem?_map, List.getElem?_eq_getElem hi]
  rfl
theorem news_one (w : World) (u : Value) (t : TypeId) : ∀ j x, [u][j]? = some x → (w.alloc (.cells #[u] t)).cell? ((⟨w.heap.size, 0, none⟩ : Addr).add j) = some x := fun j x hu => by
  rw [add_block, (Blk.new w #[u] t).cell j]
  simpa using hu
theorem one_cell (u : Value) (h : u.oneCell' = true) : ∀ x ∈ [u], x.oneCell' = true := fun x hx => by
  simp at hx
  subst hx
  exact h
theorem info5 : (Tryz.prog.info? 5).map (fun i => (i.zero, i.size, i.bytes)) = some (some (.int .u8 0), 1, 1) := by kernel_rfl
theorem info9 : (Tryz.prog.info? 9).map (fun i => (i.zero, i.size, i.bytes)) = some (some (.string ⟨#[]⟩), 1, 16) := by kernel_rfl
theorem nums_str (l : List UInt8) : strOfNums (l.map fun y => (y.toNat : Int)) = str l := by
  unfold strOfNums str
  rw [List.map_map]
  congr 2
  conv => rhs; rw [← List.map_id l]
  congr 1
  funext y
  simp
/-- bytes as a text -/
theorem conv_bytes {w : World} {A : Option Addr} {n c : Nat} {l : List UInt8} (hl : l.length = n) (h : Bytes w A l) : (convert 60 9 (.slice A n c)).run Tryz.prog w = .ok (.string (str l)) w := by
  rw [run_convert_bytes_string w 60 9 5 _ _ c Tryz.underlying60 Tryz.underlying5 Tryz.underlying9]
  cases A with
  | none =>
    have h0 : l = [] := by
      cases l with
      | nil => rfl
      | cons x r =>
        obtain ⟨ad, e, _⟩ := h 0 (by simp)
        cases e
    subst h0
    subst hl
    simp [Conv.bytesToString]
    rfl
  | some ad =>
    have hc : (loadCells ad l.length).run Tryz.prog w = .ok ((l.map fun y => (y.toNat : Int)).map (Value.int .u8)).toArray w := by
      have := run_loadCells_list (P := Tryz.prog) w ad ((l.map fun y => (y.toNat : Int)).map (Value.int .u8)) (fun j u hu => by
        have hj : j < l.length := by have := (List.getElem?_eq_some_iff.1 hu).1; simpa using this
        obtain ⟨ad', e, hcell⟩ := h j hj
        cases e
        rw [hcell]
        rw [List.getElem?_map, List.getElem?_map, List.getElem?_eq_getElem hj] at hu
        exact hu)
      simpa using this
    subst hl
    rw [run_bytesToString w _ _ c _ hc, foldl_push_bytes, ← nums_str]
    simp [strOfNums, ByteArray.empty, ByteArray.emptyWithCapacity]
    rfl
theorem str_own {w : World} {base n : Nat} {v : Value} {l : List UInt8} (h : w.ownsRow base 5 1 v n (Lib.byteCells l)) : (convert 60 9 v).run Tryz.prog w = .ok (.string (str l)) w := by
  have hl : l.length = n := by have := h.1; rw [Lib.byteCells, List.length_map, Nat.mul_one] at this; exact this
  obtain ⟨A, c, rfl, hb⟩ := owns_bytes h
  exact conv_bytes hl hb
/-- an element type and its slices -/
def El (t e : TypeId) (size bytes : Nat) : Prop := ∃ i z, Tryz.prog.underlying t = some (.slice e) ∧ Tryz.prog.info? e = some i ∧ i.zero = some z ∧ i.size = size ∧ i.bytes = bytes ∧ z.cells.size = size ∧ 0 < size ∧ 0 < bytes
theorem el_of {t e : TypeId} {size bytes : Nat} {z : Value} (hu : Tryz.prog.underlying t = some (.slice e)) (h : (Tryz.prog.info? e).map (fun i => (i.zero, i.size, i.bytes)) = some (some z, size, bytes)) (hz : z.cells.size = size) (h1 : 0 < size) (h2 : 0 < bytes) : El t e size bytes := by
  obtain ⟨i, a, b, c, d⟩ := info_parts h
  exact ⟨i, z, hu, a, b, c, d, hz, h1, h2⟩
theorem el60 : El 60 5 1 1 := el_of Tryz.underlying60 info5 rfl (by decide) (by decide)
theorem el22 : El 22 9 1 16 := el_of Tryz.underlying22 info9 rfl (by decide) (by decide)
theorem len_ok {n bytes : Nat} (h0 : 0 < bytes) (h : n * bytes ≤ 140737488355328) : n ≤ maxLen := by
  have := Nat.le_mul_of_pos_right n h0
  unfold maxLen
  omega
theorem alloc_owns {w : World} {Z size n : Nat} {e : TypeId} {v : Value} {xs : List Value} (h : w.ownsRow Z e size v n xs) (o : Obj) : (w.alloc o).ownsRow Z e size v n xs := owns_below h ((Below.refl _ _).alloc (Nat.le_refl _) _)
/-- a literal's cells, just laid, appended to a row of one's own -/
theorem app_new {ops : Array Oper} {rest : List Oper} {o : Oper} {a : Act} {Q : Exit → Act → World → Prop} {t e : TypeId} {size bytes : Nat} (E : El t e size bytes) (hgd : o.guard = none) (s x : Operand)
    (ho : o.op = .call { callee := .builtin .append, args := #[s, x], argTypes := #[t, t] }) {w0 wr : World} {Z : Nat} {v : Value} {n : Nat} {xs : List Value} (hs : a.eval s = v) (H : Hid (Since Z w0 wr ∧ wr.ownsRow Z e size v n xs))
    (cs : Array Value) (m c : Nat) (hx : a.eval x = .slice (some ⟨wr.heap.size, 0, none⟩) m c) (hcs : cs.size = m * size) (hone : ∀ u ∈ cs.toList, u.oneCell' = true) (hb : (n + m) * bytes ≤ 140737488355328)
    (K : ∀ v' w', Hid (Since Z w0 w' ∧ w'.ownsRow Z e size v' (n + m) (xs ++ cs.toList)) → wpList Tryz.prog ops Q rest (a.put o.dst v') w') : wpList Tryz.prog ops Q (o :: rest) a (wr.alloc (.cells cs e)) := by
  obtain ⟨i, z, h1, h2, h3, h4, h5, h6, h7, h8⟩ := E
  have hown := alloc_owns H.out.2 (.cells cs e)
  have hsz : Since Z w0 (wr.alloc (.cells cs e)) := H.out.1.alloc _
  refine wpList_append_own _ hgd s x t ho Z e i z size bytes h1 h2 h3 h4 h5 h6 h7 v n xs hs hown ⟨wr.heap.size, 0, none⟩ m c cs.toList hx (by rw [Array.length_toList, hcs]) (World.news_of_block (Blk.new wr cs e)) hone (len_ok h8 hb) hb hsz.2 ?_
  intro v' w' hown' hgrow _
  exact K v' w' ⟨grown_since hsz hgrow (owns_apart hown), hown'⟩
/-- the same as one step of a region that draws its order -/
theorem step_new {ops : Array Oper} {o : Oper} {a : Act} {K : Act → World → Prop} {Q : Exit → Act → World → Prop} {E0 : Prop} {t e : TypeId} {size bytes : Nat} (E : El t e size bytes) (hgd : o.guard = none) (s x : Operand)
    (ho : o.op = .call { callee := .builtin .append, args := #[s, x], argTypes := #[t, t] }) {w0 wr : World} {Z : Nat} {v : Value} {n : Nat} {xs : List Value} (hs : a.eval s = v) (H : Hid (Since Z w0 wr ∧ wr.ownsRow Z e size v n xs))
    (cs : Array Value) (m c : Nat) (hx : a.eval x = .slice (some ⟨wr.heap.size, 0, none⟩) m c) (hm : 0 < m) (hcs : cs.size = m * size) (hone : ∀ u ∈ cs.toList, u.oneCell' = true) (hb : (n + m) * bytes ≤ 140737488355328)
    (hK : ∀ v' w', Hid (Since Z w0 w' ∧ w'.ownsRow Z e size v' (n + m) (xs ++ cs.toList)) → K (a.put o.dst v') w') :
    if Region.wanted o (yielded ops a.tmps) = true then Oper.wp Tryz.prog o a (wr.alloc (.cells cs e)) K Q else E0 := by
  obtain ⟨i, z, h1, h2, h3, h4, h5, h6, h7, h8⟩ := E
  have hown := alloc_owns H.out.2 (.cells cs e)
  have hsz : Since Z w0 (wr.alloc (.cells cs e)) := H.out.1.alloc _
  refine step_append_lies _ hgd s x t ho Z e i z size bytes h1 h2 h3 h4 h5 h6 h7 v n xs hs hown ⟨wr.heap.size, 0, none⟩ m c cs.toList hx (by rw [Array.length_toList, hcs]) (World.news_of_block (Blk.new wr cs e)) hone hm (len_ok h8 hb) hb hsz.2 _ rfl ?_
  intro g cap w' hown' hgrow _ _
  exact hK _ w' ⟨grown_since hsz hgrow (owns_apart hown), hown'⟩
/-- blocks that are no rows of that type are as they were -/
def Keeps (e : TypeId) (w w' : World) : Prop := ∀ (b : Nat) (o : Obj), (∀ cs fr, o ≠ .cells cs e fr) → w.heap[b]? = some o → w'.heap[b]? = some o
theorem cells_ne {cs : Array Value} {T e : TypeId} {fr : Nat × Nat} (hT : T ≠ e) : ∀ cs' fr', Obj.cells cs T fr ≠ .cells cs' e fr' := fun cs' fr' h => by
  injection h with _ h
  exact hT h
theorem Keeps.blk {e T : TypeId} {w w' : World} {b : Nat} {cs : Array Value} (h : Keeps e w w') (hk : Blk w b cs T) (hT : T ≠ e) : Blk w' b cs T := h b _ (cells_ne hT) hk
theorem Keeps.owns {e e1 : TypeId} {w w' : World} {base size n : Nat} {v : Value} {xs : List Value} (h : Keeps e w w') (hown : w.ownsRow base e1 size v n xs) (hT : e1 ≠ e) : w'.ownsRow base e1 size v n xs := by
  refine ⟨hown.1, ?_⟩
  rcases hown.2 with h0 | ⟨g, cap, cur, hv, hb, hg, h1, h2, h3, h4⟩
  · exact .inl h0
  · exact .inr ⟨g, cap, cur, hv, hb, h g _ (cells_ne hT) hg, h1, h2, h3, h4⟩
theorem grown_keeps {w w' : World} {base size n : Nat} {e : TypeId} {v : Value} {xs : List Value} (hg : w.grownBy w' v.ownBlock) (hown : w.ownsRow base e size v n xs) : Keeps e w w' := fun b o hT hb => by
  refine (hg.block b (Array.getElem?_eq_some_iff.1 hb).1 ?_).trans hb
  intro e1
  rcases hown.2 with ⟨rfl, _⟩ | ⟨g, cap, cur, rfl, _, hgc, _⟩
  · cases e1
  · have : b = g := by cases e1; rfl
    subst this
    rw [hgc] at hb
    exact hT cur (0, 0) (Option.some.inj hb).symm
/-- a row of one's own where another block is written -/
theorem owns_set {w : World} {base size n P j : Nat} {e T : TypeId} {v u : Value} {xs : List Value} {cs : Array Value} (hown : w.ownsRow base e size v n xs) (hk : Blk w P cs T) (hT : T ≠ e) : (w.setCell ⟨P, j, none⟩ u).ownsRow base e size v n xs := by
  refine ⟨hown.1, ?_⟩
  rcases hown.2 with h | ⟨g, cap, cur, hv, hb, hg, h1, h2, h3, h4⟩
  · exact .inl h
  · refine .inr ⟨g, cap, cur, hv, hb, (Below.heap_setCell w ⟨P, j, none⟩ u g ?_).trans hg, h1, h2, h3, h4⟩
    intro e1
    have e1 : g = P := e1
    subst e1
    have hk2 : w.heap[g]? = some (.cells cs T (0, 0)) := hk
    rw [hg] at hk2
    simp only [Option.some.injEq, Obj.cells.injEq] at hk2
    exact hT hk2.2.1.symm
theorem Since.set {B P j : Nat} {w0 w : World} {u : Value} (h : Since B w0 w) (hP : B ≤ P) : Since B w0 (w.setCell ⟨P, j, none⟩ u) :=
  ⟨h.1.setCell (p := ⟨P, j, none⟩) hP u, by rw [World.size_setCell]; exact h.2⟩
/-- app_new, with what stays -/
theorem app_keep {ops : Array Oper} {rest : List Oper} {o : Oper} {a : Act} {Q : Exit → Act → World → Prop} {t e : TypeId} {size bytes : Nat} (E : El t e size bytes) (hgd : o.guard = none) (s x : Operand)
    (ho : o.op = .call { callee := .builtin .append, args := #[s, x], argTypes := #[t, t] }) {w0 wr : World} {Z : Nat} {v : Value} {n : Nat} {xs : List Value} (hs : a.eval s = v) (H : Hid (Since Z w0 wr ∧ wr.ownsRow Z e size v n xs))
    (cs : Array Value) (m c : Nat) (hx : a.eval x = .slice (some ⟨wr.heap.size, 0, none⟩) m c) (hcs : cs.size = m * size) (hone : ∀ u ∈ cs.toList, u.oneCell' = true) (hb : (n + m) * bytes ≤ 140737488355328)
    (K : ∀ A7 c7 w', Hid (Since Z w0 w' ∧ w'.ownsRow Z e size (.slice A7 (n + m) c7) (n + m) (xs ++ cs.toList)) → Hid (Keeps e wr w') → wpList Tryz.prog ops Q rest (a.put o.dst (.slice A7 (n + m) c7)) w') : wpList Tryz.prog ops Q (o :: rest) a (wr.alloc (.cells cs e)) := by
  obtain ⟨i, z, h1, h2, h3, h4, h5, h6, h7, h8⟩ := E
  have hown := alloc_owns H.out.2 (.cells cs e)
  have hsz : Since Z w0 (wr.alloc (.cells cs e)) := H.out.1.alloc _
  refine wpList_append_own _ hgd s x t ho Z e i z size bytes h1 h2 h3 h4 h5 h6 h7 v n xs hs hown ⟨wr.heap.size, 0, none⟩ m c cs.toList hx (by rw [Array.length_toList, hcs]) (World.news_of_block (Blk.new wr cs e)) hone (len_ok h8 hb) hb hsz.2 ?_
  intro v' w' hown' hgrow _
  obtain ⟨A7, c7, rfl, _⟩ := owns_slice hown'
  refine K A7 c7 w' ⟨grown_since hsz hgrow (owns_apart hown), hown'⟩ (fun b o hT hbk => grown_keeps hgrow hown b o hT ?_)
  exact (Below.heap_alloc wr _ b (Array.getElem?_eq_some_iff.1 hbk).1).trans hbk
theorem step_keep {ops : Array Oper} {o : Oper} {a : Act} {K : Act → World → Prop} {Q : Exit → Act → World → Prop} {E0 : Prop} {t e : TypeId} {size bytes : Nat} (E : El t e size bytes) (hgd : o.guard = none) (s x : Operand)
    (ho : o.op = .call { callee := .builtin .append, args := #[s, x], argTypes := #[t, t] }) {w0 wr : World} {Z : Nat} {v : Value} {n : Nat} {xs : List Value} (hs : a.eval s = v) (H : Hid (Since Z w0 wr ∧ wr.ownsRow Z e size v n xs))
    (cs : Array Value) (m c : Nat) (hx : a.eval x = .slice (some ⟨wr.heap.size, 0, none⟩) m c) (hm : 0 < m) (hcs : cs.size = m * size) (hone : ∀ u ∈ cs.toList, u.oneCell' = true) (hb : (n + m) * bytes ≤ 140737488355328)
    (hK : ∀ A7 c7 w', Hid (Since Z w0 w' ∧ w'.ownsRow Z e size (.slice A7 (n + m) c7) (n + m) (xs ++ cs.toList)) → Hid (Keeps e wr w') → K (a.put o.dst (.slice A7 (n + m) c7)) w') :
    if Region.wanted o (yielded ops a.tmps) = true then Oper.wp Tryz.prog o a (wr.alloc (.cells cs e)) K Q else E0 := by
  obtain ⟨i, z, h1, h2, h3, h4, h5, h6, h7, h8⟩ := E
  have hown := alloc_owns H.out.2 (.cells cs e)
  have hsz : Since Z w0 (wr.alloc (.cells cs e)) := H.out.1.alloc _
  refine step_append_lies _ hgd s x t ho Z e i z size bytes h1 h2 h3 h4 h5 h6 h7 v n xs hs hown ⟨wr.heap.size, 0, none⟩ m c cs.toList hx (by rw [Array.length_toList, hcs]) (World.news_of_block (Blk.new wr cs e)) hone hm (len_ok h8 hb) hb hsz.2 _ rfl ?_
  intro g cap w' hown' hgrow _ _
  refine hK _ _ w' ⟨grown_since hsz hgrow (owns_apart hown), hown'⟩ (fun b o hT hbk => grown_keeps hgrow hown b o hT ?_)
  exact (Below.heap_alloc wr _ b (Array.getElem?_eq_some_iff.1 hbk).1).trans hbk
/-- step_keep in whatever world in which the literal's cells lie -/
theorem step_at {ops : Array Oper} {o : Oper} {a : Act} {K : Act → World → Prop} {Q : Exit → Act → World → Prop} {E0 : Prop} {w : World} {t e : TypeId} {size bytes : Nat} (E : El t e size bytes) (hgd : o.guard = none) (s x : Operand)
    (ho : o.op = .call { callee := .builtin .append, args := #[s, x], argTypes := #[t, t] }) {w0 : World} {Z : Nat} {v : Value} {n : Nat} {xs : List Value} (hs : a.eval s = v) (H : Hid (Since Z w0 w ∧ w.ownsRow Z e size v n xs))
    (ad : Addr) (m c : Nat) (news : List Value) (hx : a.eval x = .slice (some ad) m c) (hm : 0 < m) (hcs : news.length = m * size) (hnews : Hid (∀ j u, news[j]? = some u → w.cell? (ad.add j) = some u)) (hone : ∀ u ∈ news, u.oneCell' = true) (hb : (n + m) * bytes ≤ 140737488355328)
    (hK : ∀ A7 c7 w', Hid (Since Z w0 w' ∧ w'.ownsRow Z e size (.slice A7 (n + m) c7) (n + m) (xs ++ news)) → Hid (Keeps e w w') → K (a.put o.dst (.slice A7 (n + m) c7)) w') :
    if Region.wanted o (yielded ops a.tmps) = true then Oper.wp Tryz.prog o a w K Q else E0 := by
  obtain ⟨i, z, h1, h2, h3, h4, h5, h6, h7, h8⟩ := E
  refine step_append_lies _ hgd s x t ho Z e i z size bytes h1 h2 h3 h4 h5 h6 h7 v n xs hs H.out.2 ad m c news hx hcs hnews.out hone hm (len_ok h8 hb) hb H.out.1.2 _ rfl ?_
  intro g cap w' hown' hgrow _ _
  exact hK _ _ w' ⟨grown_since H.out.1 hgrow (owns_apart H.out.2), hown'⟩ (grown_keeps hgrow H.out.2)
/-- a text's bytes appended -/
theorem app_str {ops : Array Oper} {rest : List Oper} {o : Oper} {a : Act} {Q : Exit → Act → World → Prop} (hgd : o.guard = none) (s x : Operand)
    (ho : o.op = .call { callee := .builtin .append, args := #[s, x], argTypes := #[60, 9] }) {w0 wr : World} {Z : Nat} {v : Value} {n : Nat} {xs : List Value} (hs : a.eval s = v) (H : Hid (Since Z w0 wr ∧ wr.ownsRow Z 5 1 v n xs))
    (S : ByteArray) (hx : a.eval x = .string S) (hb : n + S.size ≤ 140737488355328)
    (K : ∀ A7 c7 w', Hid (Since Z w0 w' ∧ w'.ownsRow Z 5 1 (.slice A7 (n + S.size) c7) (n + S.size) (xs ++ Lib.strCells S)) → Hid (Keeps 5 wr w') → wpList Tryz.prog ops Q rest (a.put o.dst (.slice A7 (n + S.size) c7)) w') : wpList Tryz.prog ops Q (o :: rest) a wr := by
  obtain ⟨i, z, h1, h2, h3, h4, h5, h6, h7, h8⟩ := el60
  have hz : i.zero = some (.int .u8 0) := by
    obtain ⟨j, a1, a2, a3, a4⟩ := info_parts info5
    have e : i = j := Option.some.inj (h2.symm.trans a1)
    rw [e]
    exact a2
  refine Lib.wpList_append_own_string _ hgd s x 60 9 ho Z 5 i h1 Tryz.underlying9 h2 hz h4 h5 v n xs hs H.out.2 S hx (by unfold maxLen; omega) hb H.out.1.2 ?_
  intro v' w' hown' hgrow _
  obtain ⟨A7, c7, rfl, _⟩ := owns_slice hown'
  exact K A7 c7 w' ⟨grown_since H.out.1 hgrow (owns_apart H.out.2), hown'⟩ (grown_keeps hgrow H.out.2)
end Go.Proofs.YtcdhkeahcliefaaGreatDoor.Base
/- The program's parser over words: next, take. -/
namespace Go.Proofs.YtcdhkeahcliefaaGreatDoor.Tok
open Go.ChangeShapes Go.WideShapes Go.ChangeAt Go.RowKit
open Go.Proofs.YtcdhkeahcliefaaGreatDoor.Kit Go.Proofs.YtcdhkeahcliefaaGreatDoor.Base Go.Proofs.YtcdhkeahcliefaaGreatDoor.PatA
set_option linter.unusedVariables false

/-- a parser in block P over words that lie below it -/
structure Pw where
  (P : Nat) (w0 : World) (A : Option Addr) (c : Nat) (ws : List (List UInt8)) (w1 : World)
def Pw.Ok (p : Pw) : Prop := p.w0.heap.size = p.P ∧ Strs p.w0 p.A (p.ws.map str) ∧ p.ws.length ≤ 1024
/-- nothing but the parser has been written, and new blocks -/
def Near (p : Pw) (w : World) : Prop := Chg (fun k => k = p.P) p.w1 w ∧ p.P < p.w1.heap.size
def Pr (p : Pw) (w : World) (i o : Nat) : Prop := Since p.P p.w0 w ∧ Blk w p.P #[.slice p.A p.ws.length p.c, .int .i64 i, .int .i64 o] 69 ∧ i ≤ p.ws.length ∧ o ≤ 16 ∧ Near p w
section
variable {p : Pw} {w w' : World} {i o : Nat}
theorem Near.trans (h : Near p w) (hc : Chg (fun k => k = p.P) w w') : Near p w' := ⟨h.1.trans hc, h.2⟩
theorem Near.cell (h : Near p w) (j : Nat) (u : Value) : Near p (w.setCell ⟨p.P, j, none⟩ u) := h.trans (Chg.of_only ((Only.refl p.P w).setCell ⟨p.P, j, none⟩ rfl u) rfl)
theorem Pr.next (h : Pr p w i o) (hb : Below w.heap.size w w') : Pr p w' i o := ⟨h.1.next hb, h.2.1.below hb h.2.1.lt, h.2.2.1, h.2.2.2.1, h.2.2.2.2.trans (Chg.of_below hb)⟩
theorem Pr.drew (h : Pr p w i o) : Pr p w.drew i o := ⟨h.1.drew, h.2.1, h.2.2.1, h.2.2.2.1, h.2.2.2.2.trans (Chg.refl _ w).drew⟩
theorem Pr.drewN (h : Pr p w i o) (m : Nat) : Pr p (w.drewN m) i o := h.next (((Still.refl w).drewN m).below _)
theorem Pr.setAt (h : Pr p w i o) (j : Nat) (hj : j ≤ p.ws.length) : Pr p (w.setCell ⟨p.P, 1, none⟩ (.int .i64 j)) j o := ⟨h.1.set (Nat.le_refl _), h.2.1.put 1 _, hj, h.2.2.2.1, h.2.2.2.2.cell 1 _⟩
theorem Pr.setOpen (h : Pr p w i o) (j : Nat) (hj : j ≤ 16) : Pr p (w.setCell ⟨p.P, 2, none⟩ (.int .i64 j)) i j := ⟨h.1.set (Nat.le_refl _), h.2.1.put 2 _, h.2.2.1, hj, h.2.2.2.2.cell 2 _⟩
theorem Pr.fresh (h : Pr p w i o) : Pr { p with w1 := w } w i o := ⟨h.1, h.2.1, h.2.2.1, h.2.2.2.1, Chg.refl _ w, h.2.1.lt⟩
theorem Pr.back {j q : Nat} (h : Pr p w i o) (h2 : Pr { p with w1 := w } w' j q) : Pr p w' j q := ⟨h2.1, h2.2.1, h2.2.2.1, h2.2.2.2.1, h.2.2.2.2.trans h2.2.2.2.2.1⟩
theorem Pr.blk {j q B : Nat} {cs : Array Value} {T : TypeId} (h2 : Pr { p with w1 := w } w' j q) (hk : Blk w B cs T) (hB : B ≠ p.P) : Blk w' B cs T := h2.2.2.2.2.1.blk hk hB
theorem Pr.word (h : Pr p w i o) (hp : p.Ok) (k : Nat) (hk : k < p.ws.length) : ∃ ad, p.A = some ad ∧ w.cell? (ad.add k) = some (.string (str p.ws[k])) := by
  obtain ⟨ad, hA, hc⟩ := (hp.2.1.below (w' := w) (by rw [hp.1]; exact h.1.1)) k (by simpa using hk)
  exact ⟨ad, hA, by simpa using hc⟩
end
/-- what next answers -/
def NextPost (p : Pw) (i o : Nat) (e : Ending) (w' : World) : Prop :=
  (∃ h : i < p.ws.length, e = .returned (.string (str p.ws[i])) ∧ Hid (Pr p w' (i + 1) o)) ∨ (i = p.ws.length ∧ Threw 191 e ∧ Hid (Since p.P p.w0 w'))
set_option maxRecDepth 100000 in
set_option maxHeartbeats 1600000 in
theorem next_any (p : Pw) (i o : Nat) (w : World) (hp : Hid p.Ok) (h : Hid (Pr p w i o)) : Calls Tryz.prog 67 #[.pointer (some ⟨p.P, 0, none⟩)] w (NextPost p i o) := by
  obtain ⟨n, hn⟩ : ∃ n, p.ws.length = n := ⟨_, rfl⟩
  have HN := Lib.hid hn
  have hb := h.out.2.1
  rw [hn] at hb
  have c0 : w.cell? ⟨p.P, 0, none⟩ = some (.slice p.A n p.c) := (hb.cell 0).trans rfl
  have c1 : w.cell? ⟨p.P, 1, none⟩ = some (.int .i64 i) := (hb.cell 1).trans rfl
  have g0 := hb.frozen 0
  have g1 := hb.frozen 1
  have hi : i ≤ n := by rw [← hn]; exact h.out.2.2.1
  have hn9 : n ≤ 1024 := by rw [← hn]; exact hp.out.2.2
  by_cases he : i = n
  · have HE : Hid (i = p.ws.length) := by rw [HN.out]; exact he
    have e1 : ((i : Int) == (n : Int)) = true := beq_iff_eq.2 (by omega)
    have hpn := panics 191
    clear hb hn he
    go_enter Tryz.func67, Tryz.ntmps67
    go_wp2_with (go_quiet (fail))
    exact ⟨rfl, .inr ⟨HE.out, rfl, h.out.1.drewN _⟩⟩
  · have hlt : i < p.ws.length := by omega
    have HLT := Lib.hid hlt
    have e1 : ((i : Int) == (n : Int)) = false := beq_eq_false_iff_ne.2 (by omega)
    have i9 : (i : Int) ≤ 1024 := by omega
    have i0 : (0 : Int) ≤ (i : Int) := by omega
    have HI9 := Lib.hid i9
    clear hb hn he
    go_enter Tryz.func67, Tryz.ntmps67
    go_upto_region 3 with (go_quiet (fail))
    refine gen_world (fun w' => Hid (Pr p w' i o)) ?_ ?_
    · exact h.out.drewN _
    rintro w1 h1
    have d1 : w1.cell? ⟨p.P, 1, none⟩ = some (.int .i64 i) := (h1.out.2.1.cell 1).trans rfl
    have f1 := h1.out.2.1.frozen 1
    clear c0 c1 g0 g1
    go_upto_region 4 with (fail)
    refine gen_world (fun w' => Hid (Pr p w' (i + 1) o)) ?_ ?_
    · exact h1.out.setAt (i + 1) HLT.out
    rintro w2 h2
    clear d1 f1 h1
    obtain ⟨ad, hA, hc⟩ := h2.out.word hp.out i HLT.out
    have hb2 := h2.out.2.1
    rw [HN.out, hA] at hb2
    have c0 : w2.cell? ⟨p.P, 0, none⟩ = some (.slice (some ad) n p.c) := (hb2.cell 0).trans rfl
    have c1 : w2.cell? ⟨p.P, 1, none⟩ = some (.int .i64 ((i : Int) + 1)) := (hb2.cell 1).trans (by simp)
    have g0 := hb2.frozen 0
    have g1 := hb2.frozen 1
    have hin : (i : Int) < (n : Int) := by have := HLT.out; have := HN.out; omega
    have W2 : (i : Int) + 1 - 1 = (i : Int) := by omega
    have W : IntKind.i64.wrap (i : Int) = (i : Int) := IntWalk.i64_in _ (by omega)
    clear hb2 hA
    go_wp2_with (go_quiet (fail))
    go_ret
    exact .inl ⟨HLT.out, rfl, h2.out.drewN _⟩
/-- is the next word this one? -/
def isNext (p : Pw) (i : Nat) (t : List UInt8) : Bool := p.ws[i]? == some t
def TakePost (p : Pw) (i o : Nat) (t : List UInt8) (e : Ending) (w' : World) : Prop :=
  (isNext p i t = true ∧ e = .returned (.bool true) ∧ Hid (Pr p w' (i + 1) o)) ∨ (isNext p i t = false ∧ e = .returned (.bool false) ∧ Hid (Pr p w' i o))
theorem str_beq (a b : List UInt8) : ((str a).toList == (str b).toList) = (a == b) := by
  rw [Lib.toList_data, Lib.toList_data, str_list, str_list]
set_option maxRecDepth 100000 in
set_option maxHeartbeats 1600000 in
theorem take_any (p : Pw) (i o : Nat) (t : List UInt8) (w : World) (hp : Hid p.Ok) (h : Hid (Pr p w i o)) : Calls Tryz.prog 37 #[.pointer (some ⟨p.P, 0, none⟩), .string (str t)] w (TakePost p i o t) := by
  obtain ⟨n, hn⟩ : ∃ n, p.ws.length = n := ⟨_, rfl⟩
  have HN := Lib.hid hn
  have hb := h.out.2.1
  rw [hn] at hb
  have c0 : w.cell? ⟨p.P, 0, none⟩ = some (.slice p.A n p.c) := (hb.cell 0).trans rfl
  have c1 : w.cell? ⟨p.P, 1, none⟩ = some (.int .i64 i) := (hb.cell 1).trans rfl
  have g0 := hb.frozen 0
  have g1 := hb.frozen 1
  have hi : i ≤ n := by rw [← hn]; exact h.out.2.2.1
  have hn9 : n ≤ 1024 := by rw [← hn]; exact hp.out.2.2
  have i9 : (i : Int) ≤ 1024 := by omega
  have i0 : (0 : Int) ≤ (i : Int) := by omega
  by_cases he : i = n
  · have HE : Hid (isNext p i t = false) := by
      show _ = _
      unfold isNext
      rw [List.getElem?_eq_none (by omega)]
      rfl
    have e1 : decide ((i : Int) < (n : Int)) = false := decide_eq_false (by omega)
    have e2 : ¬ ((i : Int) < (n : Int)) := by omega
    clear hb hn he
    go_enter Tryz.func37, Tryz.ntmps37
    go_wp2_with (go_quiet (fail))
    go_ret
    exact .inr ⟨HE.out, rfl, h.out.drewN _⟩
  · have hlt : i < p.ws.length := by omega
    have HLT := Lib.hid hlt
    have e1 : decide ((i : Int) < (n : Int)) = true := decide_eq_true (by omega)
    have e2 : (i : Int) < (n : Int) := by omega
    obtain ⟨ad, hA, hc⟩ := h.out.word hp.out i hlt
    rw [hA] at c0
    have HIS : Hid (isNext p i t = (p.ws[i] == t)) := by
      show _ = _
      unfold isNext
      rw [List.getElem?_eq_getElem hlt]
      rfl
    have hcmp := str_beq p.ws[i] t
    generalize p.ws[i] = x at *
    cases hx : x == t
    · have HF : Hid (isNext p i t = false) := HIS.out.trans hx
      rw [hx] at hcmp
      clear hb hn he hlt hA hx HIS
      go_enter Tryz.func37, Tryz.ntmps37
      go_wp2_with (go_quiet (fail))
      go_ret
      exact .inr ⟨HF.out, rfl, h.out.drewN _⟩
    · have HF : Hid (isNext p i t = true) := HIS.out.trans hx
      rw [hx] at hcmp
      clear hb hn he hlt hA hx HIS
      go_enter Tryz.func37, Tryz.ntmps37
      go_upto_region 2 with (go_quiet (fail))
      refine gen_world (fun w' => Hid (Pr p w' i o)) ?_ ?_
      · exact h.out.drewN _
      rintro w1 h1
      have d1 : w1.cell? ⟨p.P, 1, none⟩ = some (.int .i64 i) := (h1.out.2.1.cell 1).trans rfl
      have f1 := h1.out.2.1.frozen 1
      clear c0 c1 g0 g1 hc
      go_wp2_with fail
      go_ret
      exact .inl ⟨HF.out, rfl, h1.out.setAt (i + 1) HLT.out⟩
end Go.Proofs.YtcdhkeahcliefaaGreatDoor.Tok
/- The shelf's contracts for strings.IndexAny, laid at this program (plain text; the numbers as the shelf's command tells them). -/
namespace Go.Proofs.YtcdhkeahcliefaaGreatDoor.Laid
open Go.Shelf Go.RowKit
set_option linter.unusedVariables false

def ren : Ren := { f := fun x => match x with | 150 => 102 | 153 => 103 | 152 => 104 | 226 => 105 | 227 => 106 | 228 => 107 | 137 => 108 | 119 => 109 | 224 => 110 | 225 => 111 | 217 => 112 | 266 => 113 | n => n, t := fun x => match x with | 9 => 9 | 4 => 4 | 3 => 3 | 5 => 5 | 21 => 21 | 117 => 178 | 116 => 177 | 0 => 0 | 46 => 91 | 124 => 182 | n => n, g := fun x => x }
set_option maxRecDepth 100000 in
theorem lays : Lays.n150 Tryz.prog ren := {
  mixed := by kernel_rfl
  f119 := Tryz.func109.trans (congrArg some (by kernel_rfl))
  f137 := Tryz.func108.trans (congrArg some (by kernel_rfl))
  f150 := Tryz.func102.trans (congrArg some (by kernel_rfl))
  f152 := Tryz.func104.trans (congrArg some (by kernel_rfl))
  f153 := Tryz.func103.trans (congrArg some (by kernel_rfl))
  f217 := Tryz.func112.trans (congrArg some (by kernel_rfl))
  f224 := Tryz.func110.trans (congrArg some (by kernel_rfl))
  f225 := Tryz.func111.trans (congrArg some (by kernel_rfl))
  f226 := Tryz.func105.trans (congrArg some (by kernel_rfl))
  f227 := Tryz.func106.trans (congrArg some (by kernel_rfl))
  f228 := Tryz.func107.trans (congrArg some (by kernel_rfl))
  f266 := Tryz.func113.trans (congrArg some (by kernel_rfl))
  t0 := Tryz.underlying0
  a0 := Tryz.isAgg0
  z0 := Tryz.sizeOf0
  v0 := Tryz.zeroValue0
  t3 := Tryz.underlying3
  a3 := Tryz.isAgg3
  z3 := Tryz.sizeOf3
  v3 := Tryz.zeroValue3
  t4 := Tryz.underlying4
  a4 := Tryz.isAgg4
  z4 := Tryz.sizeOf4
  v4 := Tryz.zeroValue4
  t5 := Tryz.underlying5
  a5 := Tryz.isAgg5
  z5 := Tryz.sizeOf5
  v5 := Tryz.zeroValue5
  t9 := Tryz.underlying9
  a9 := Tryz.isAgg9
  z9 := Tryz.sizeOf9
  v9 := Tryz.zeroValue9
  t21 := Tryz.underlying21
  a21 := Tryz.isAgg21
  z21 := Tryz.sizeOf21
  v21 := Tryz.zeroValue21
  t46 := Tryz.underlying91
  a46 := Tryz.isAgg91
  z46 := Tryz.sizeOf91
  v46 := Tryz.zeroValue91
  t116 := Tryz.underlying177
  a116 := Tryz.isAgg177
  z116 := Tryz.sizeOf177
  t117 := Tryz.underlying178
  a117 := Tryz.isAgg178
  z117 := Tryz.sizeOf178
  v117 := Tryz.zeroValue178
  t124 := Tryz.underlying182
  a124 := Tryz.isAgg182
  z124 := Tryz.sizeOf182
  v124 := Tryz.zeroValue182
 }
theorem set116 : (Tryz.prog.info? (ren.t 116)).map (fun i => (i.zero, i.size)) = some (some (.agg (Array.replicate 256 (.bool false))), 256) := by kernel_rfl

theorem rune_low (s : ByteArray) (r : Int) (w : World) (h0 : 0 ≤ r) (h1 : r < 128) :
    Calls Tryz.prog 104 #[.string s, .int .i32 r] w fun e w' => e = .returned (.int .i64 (Lib.indexByte s.data.toList r.toNat.toUInt8)) ∧ w' = w :=
  Any.strings_IndexRune_ascii (ρ := ren) { lays with } s r w h0 h1
theorem index_byte (s : ByteArray) (c : Int) (w : World) : Calls Tryz.prog 108 #[.string s, .int .u8 c] w fun e w' => e = .returned (.int .i64 (Lib.indexByte s.data.toList c.toNat.toUInt8)) ∧ w' = w :=
  Any.strings_IndexByte (ρ := ren) { lays with } s c w
theorem any_long (s chars : ByteArray) (w : World) (h2 : 2 ≤ chars.size) (h8 : 8 < s.size) (hs : s.size < 4294967281) (hcs : chars.size < 4294967281)
    (hascii : ∀ (j : Nat) b, chars.data.toList[j]? = some b → b.toNat < 128) :
    Calls Tryz.prog 103 #[.string s, .string chars] w fun e w' => e = .returned (.int .i64 (Lib.indexAny s.data.toList chars.data.toList)) ∧ Below w.heap.size w w' := by
  refine (Any.strings_IndexAny_long (ρ := ren) { lays with } (zero_of_info set116).1 (zero_of_info set116).2 s chars w h2 h8 hs hcs hascii).mono fun e w' ⟨h1, h2⟩ => ⟨h1, ?_⟩
  rw [h2]
  exact ((Below.refl _ _).alloc (Nat.le_refl _) _).alloc (by simp) _
theorem should (n : Int) (w : World) : Calls Tryz.prog 105 #[.int .i64 n] w fun e w' => e = .returned (.bool (decide (8 < n))) ∧ w' = w :=
  Any.strings_shouldUseASCIISet (ρ := ren) { lays with } n w
end Go.Proofs.YtcdhkeahcliefaaGreatDoor.Laid
