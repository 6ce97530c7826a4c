/- CodecOwn, where what it reads is of bulk at most 1048576: what an encoder answers is new memory, spare room too. -/
import Derived.Test.YtefmihbjboacdaaBackLaw
import Derived.Test.YtefmihbjboacdaaOwns
import Derived.Great.Walk
import Derived.Deep.AppendLies
import Derived.Deep.CutBlock
import Derived.Deep.DeepCutAuto
import Derived.Test.YtefmihbjboacdaaFrame
import Derived.JoinedCond
import Derived.Deep.CondSized
import Derived.Test.YtefmihbjboacdaaArgs
import Derived.OpenShut
/- encoded (41): the i-th of nodes, entries and superblocks, encoded into new memory. -/
namespace Go.Proofs.Ytefmihbjboacdaa.Encoded
open Go.ChangeShapes Go.WideShapes Go.ChangeAt Go.RowKit
open Go.Proofs.Ytefmihbjboacdaa.Kit Go.Proofs.Ytefmihbjboacdaa.Crc Go.Proofs.Ytefmihbjboacdaa.Reads Go.Proofs.Ytefmihbjboacdaa.Copy Go.Proofs.Ytefmihbjboacdaa.Lists Go.Proofs.Ytefmihbjboacdaa.Plan Go.Proofs.Ytefmihbjboacdaa.PlansLaw Go.Proofs.Ytefmihbjboacdaa.NodeLay Go.Proofs.Ytefmihbjboacdaa.NodeCells Go.Proofs.Ytefmihbjboacdaa.EntryEnc Go.Proofs.Ytefmihbjboacdaa.SuperEnc Go.Proofs.Ytefmihbjboacdaa.BackLaw
set_option linter.unusedVariables false

/-- new memory that holds l, of its own -/
def OwnPost (l : List UInt8) (w : World) (e : Ending) (w' : World) : Prop :=
  ∃ B, e = .returned (.tuple #[.slice (some ⟨B, 0, none⟩) l.length l.length, .int .i64 0]) ∧ Hid (Made w w' B l)
/-- what there is to encode -/
structure Has (w : World) (A0 A1 A2 : Option Addr) (n0 n1 n2 : Nat) (g0 : Nat → Nat → Int) (g1 : Nat → Int × Int × ByteArray × Int) (g2 : Nat → Int × Int × Int) : Prop where
  nodes : Nodes w A0 n0 g0
  ents : Ents w A1 n1 g1
  supers : Supers w A2 n2 g2
  nok : ∀ i, i < n0 → NOk (g0 i)
  eok : ∀ i, i < n1 → EOk (g1 i).1 (g1 i).2.1 (g1 i).2.2.1
  sok : ∀ i, i < n2 → ∃ a b c : Nat, g2 i = ((a : Int), (b : Int), (c : Int)) ∧ Fits a b c
  small : n0 ≤ 1048577 ∧ n1 ≤ 1048577 ∧ n2 ≤ 1048577
def encL (n0 n1 : Nat) (g0 : Nat → Nat → Int) (g1 : Nat → Int × Int × ByteArray × Int) (g2 : Nat → Int × Int × Int) (i : Nat) : List UInt8 :=
  if i < n0 then nodeOf (g0 i) else if i < n0 + n1 then entryOf (g1 (i - n0)).1 (g1 (i - n0)).2.1 (g1 (i - n0)).2.2.1 else superBytes (g2 (i - n0 - n1)).1.toNat (g2 (i - n0 - n1)).2.1.toNat (g2 (i - n0 - n1)).2.2.toNat
theorem node_own (f : Nat → Int) (w : World) (h : NOk f) : Calls Try.prog 29 #[.agg (ncs f)] w (OwnPost (nodeOf f) w) := by
  refine (NodeEnc.enc_ok f w h).mono ?_
  rintro e w' ⟨B, rfl, hm⟩
  exact ⟨B, by rw [nodeOf_length], hm⟩
theorem entry_own (n k : Int) (s : ByteArray) (sl : Int) (w : World) (h : EOk n k s) : Calls Try.prog 35 #[.agg #[.int .i64 n, .int .i64 k, .string s, .int .i64 sl]] w (OwnPost (entryOf n k s) w) := by
  refine (EntryEnc.enc_ok n k s sl w h).mono ?_
  rintro e w' ⟨B, rfl, hm⟩
  exact ⟨B, by rw [entryOf_length h], hm⟩
theorem super_own (a b c : Nat) (w : World) (h : Fits a b c) : Calls Try.prog 24 #[.agg #[.int .i64 a, .int .i64 b, .int .i64 c]] w (OwnPost (superBytes a b c) w) := by
  refine (SuperEnc.enc_yes a b c w h).mono ?_
  rintro e w' ⟨B, rfl, hm⟩
  exact ⟨B, by rw [superBytes_length], hm⟩

set_option maxRecDepth 100000 in
set_option maxHeartbeats 3200000 in
theorem encoded_any (A0 A1 A2 : Option Addr) (n0 c0 n1 c1 n2 c2 i : Nat) (g0 : Nat → Nat → Int) (g1 : Nat → Int × Int × ByteArray × Int) (g2 : Nat → Int × Int × Int) (w : World)
    (H : Hid (Has w A0 A1 A2 n0 n1 n2 g0 g1 g2)) (hi : i < n0 + n1 + n2) :
    Calls Try.prog 41 #[.slice A0 n0 c0, .slice A1 n1 c1, .slice A2 n2 c2, .int .i64 i] w (OwnPost (encL n0 n1 g0 g1 g2 i) w) := by
  have hs := H.out.small
  have HI := Lib.hid hi
  by_cases h1 : i < n0
  · obtain ⟨ad, rfl, hc⟩ := H.out.nodes i h1
    have HE : Hid (encL n0 n1 g0 g1 g2 i = nodeOf (g0 i)) := if_pos h1
    have HC := Lib.hid (node_own (g0 i) w (H.out.nok i h1))
    have HX := Lib.hid hc
    have b0 : (0 : Int) ≤ (i : Int) := by omega
    have b1 : (i : Int) < (n0 : Int) := by omega
    clear hc h1 hi hs
    rw [HE.out]
    generalize g0 i = f at *
    go_enter Try.func41, Try.ntmps41
    go_wp2_with (first | (refine wpList_load_node rfl (.tmp 17) rfl _ rfl f HX.out ?_))
    refine HC.out.mono ?_
    rintro e w1 ⟨B, rfl, hm⟩
    go_wp2_with fail
    exact bodyPost_ret (v := .tuple #[.slice (some ⟨B, 0, none⟩) _ _, .int .i64 0]) (by simp [results, Try.results41]) rfl ⟨B, rfl, hm⟩
  · by_cases h2 : i < n0 + n1
    · obtain ⟨q, rfl⟩ : ∃ q, i = n0 + q := ⟨i - n0, by omega⟩
      have hq : q < n1 := by omega
      obtain ⟨ad, rfl, e0, e1, e2, e3⟩ := H.out.ents q hq
      have HE : Hid (encL n0 n1 g0 g1 g2 (n0 + q) = entryOf (g1 q).1 (g1 q).2.1 (g1 q).2.2.1) := by
        show _ = _
        unfold encL
        rw [if_neg h1, if_pos h2, Nat.add_sub_cancel_left]
      have HC := Lib.hid (entry_own (g1 q).1 (g1 q).2.1 (g1 q).2.2.1 (g1 q).2.2.2 w (H.out.eok q hq))
      have b0 : (0 : Int) ≤ (q : Int) := by omega
      have b1 : (q : Int) < (n1 : Int) := by omega
      have b2 : ¬ (((n0 + q : Nat) : Int) < (n0 : Int)) := by omega
      have b3 : ((n0 + q : Nat) : Int) - (n0 : Int) = (q : Int) := by omega
      rw [HE.out]
      go_enter Try.func41, Try.ntmps41
      go_wp2_with fail
      refine HC.out.mono ?_
      rintro e w1 ⟨B, rfl, hm⟩
      go_wp2_with fail
      exact bodyPost_ret (v := .tuple #[.slice (some ⟨B, 0, none⟩) _ _, .int .i64 0]) (by simp [results, Try.results41]) rfl ⟨B, rfl, hm⟩
    · obtain ⟨q, rfl⟩ : ∃ q, i = n0 + n1 + q := ⟨i - n0 - n1, by omega⟩
      have hq : q < n2 := by omega
      obtain ⟨ad, rfl, e0, e1, e2⟩ := H.out.supers q hq
      obtain ⟨x, y, z, hg, hf⟩ := H.out.sok q hq
      rw [hg] at e0 e1 e2
      have HE : Hid (encL n0 n1 g0 g1 g2 (n0 + n1 + q) = superBytes x y z) := by
        show _ = _
        unfold encL
        rw [if_neg h1, if_neg h2, show n0 + n1 + q - n0 - n1 = q from by omega, hg]
        rfl
      have HC := Lib.hid (super_own x y z w hf)
      have b0 : (0 : Int) ≤ (q : Int) := by omega
      have b1 : (q : Int) < (n2 : Int) := by omega
      have b2 : ¬ (((n0 : Int) + (n1 : Int) + (q : Int)) < (n0 : Int)) := by omega
      have b3 : ¬ (((n0 : Int) + (n1 : Int) + (q : Int)) < (n0 : Int) + (n1 : Int)) := by omega
      have b4 : ((n0 : Int) + (n1 : Int) + (q : Int)) - (n0 : Int) - (n1 : Int) = (q : Int) := by omega
      rw [HE.out]
      clear hg
      go_enter Try.func41, Try.ntmps41
      go_wp2_with fail
      refine HC.out.mono ?_
      rintro e w1 ⟨B, rfl, hm⟩
      go_wp2_with fail
      exact bodyPost_ret (v := .tuple #[.slice (some ⟨B, 0, none⟩) _ _, .int .i64 0]) (by simp [results, Try.results41]) rfl ⟨B, rfl, hm⟩
end Go.Proofs.Ytefmihbjboacdaa.Encoded
/- CodecOwn, plain part: places with roles, rows of one's own at them. -/
namespace Go.Proofs.Ytefmihbjboacdaa.OwnA
open Go.ChangeShapes Go.WideShapes Go.ChangeAt Go.RowKit
open Go.Proofs.Ytefmihbjboacdaa.Kit Go.Proofs.Ytefmihbjboacdaa.Crc Go.Proofs.Ytefmihbjboacdaa.Reads Go.Proofs.Ytefmihbjboacdaa.Copy Go.Proofs.Ytefmihbjboacdaa.Writer Go.Proofs.Ytefmihbjboacdaa.Plan Go.Proofs.Ytefmihbjboacdaa.PlansLaw Go.Proofs.Ytefmihbjboacdaa.NodeLay Go.Proofs.Ytefmihbjboacdaa.NodeCells Go.Proofs.Ytefmihbjboacdaa.EntryEnc Go.Proofs.Ytefmihbjboacdaa.BackLaw Go.Proofs.Ytefmihbjboacdaa.Encoded
set_option linter.unusedVariables false

/-- what lies at roles' places: block ρ r holds H r; no two roles lie at one place -/
structure Cr (w : World) (Z : Nat) (Ac : Nat → Prop) (ρ : Nat → Nat) (H : Nat → Obj) (wr : World) : Prop where
  below : Below Z w wr
  size : Z ≤ wr.heap.size
  inj : ∀ r s, Ac r → Ac s → ρ r = ρ s → r = s
  lo : ∀ r, Ac r → Z ≤ ρ r
  at' : ∀ r, Ac r → wr.heap[ρ r]? = some (H r)
def mv {α : Type} (ρ : Nat → α) (r : Nat) (g : α) : Nat → α := fun s => if s = r then g else ρ s
theorem mv_same {α : Type} (ρ : Nat → α) (r : Nat) (g : α) : mv ρ r g r = g := if_pos rfl
theorem mv_other {α : Type} (ρ : Nat → α) {r s : Nat} (g : α) (h : s ≠ r) : mv ρ r g s = ρ s := if_neg h
section
variable {w wr w2 : World} {Z : Nat} {Ac : Nat → Prop} {ρ : Nat → Nat} {H : Nat → Obj}
theorem Cr.hi (h : Cr w Z Ac ρ H wr) (r : Nat) (hr : Ac r) : ρ r < wr.heap.size := (Array.getElem?_eq_some_iff.1 (h.at' r hr)).1
theorem Cr.step (h : Cr w Z Ac ρ H wr) (hb : Below wr.heap.size wr w2) : Cr w Z Ac ρ H w2 :=
  ⟨h.below.trans (hb.mono h.size), Nat.le_trans h.size hb.size, h.inj, h.lo, fun r hr => (hb.block _ (h.hi r hr)).trans (h.at' r hr)⟩
theorem Cr.sub {Ac' : Nat → Prop} (h : Cr w Z Ac ρ H wr) (hs : ∀ r, Ac' r → Ac r) : Cr w Z Ac' ρ H wr :=
  ⟨h.below, h.size, fun r s hr hs' => h.inj r s (hs r hr) (hs s hs'), fun r hr => h.lo r (hs r hr), fun r hr => h.at' r (hs r hr)⟩
/-- a role is laid into new memory -/
theorem Cr.made (h : Cr w Z Ac ρ H wr) (hb : Below wr.heap.size wr w2) (r B : Nat) (o : Obj) (hB : wr.heap.size ≤ B) (ho : w2.heap[B]? = some o) : Cr w Z (fun s => Ac s ∨ s = r) (mv ρ r B) (mv H r o) w2 := by
  have h2 := h.step hb
  refine ⟨h2.below, h2.size, fun a b ha hb' e => ?_, fun a ha => ?_, fun a ha => ?_⟩
  · by_cases h1 : a = r
    · by_cases h3 : b = r
      · rw [h1, h3]
      · subst h1
        rw [mv_same, mv_other _ _ h3] at e
        have := h.hi b (hb'.resolve_right h3)
        omega
    · by_cases h3 : b = r
      · subst h3
        rw [mv_same, mv_other _ _ h1] at e
        have := h.hi a (ha.resolve_right h1)
        omega
      · rw [mv_other _ _ h1, mv_other _ _ h3] at e
        exact h.inj a b (ha.resolve_right h1) (hb'.resolve_right h3) e
  · by_cases h1 : a = r
    · rw [h1, mv_same]; exact Nat.le_trans h.size hB
    · rw [mv_other _ _ h1]; exact h.lo a (ha.resolve_right h1)
  · by_cases h1 : a = r
    · rw [h1, mv_same, mv_same]; exact ho
    · rw [mv_other _ _ h1, mv_other _ _ h1]; exact h2.at' a (ha.resolve_right h1)
/-- a role's row is appended to: it stays at its place or goes to new memory -/
theorem Cr.grown (h : Cr w Z Ac ρ H wr) {row : Option Nat} (hg : wr.grownBy w2 row) (r g : Nat) (o : Obj) (hv : row = none ∨ (Ac r ∧ row = some (ρ r))) (hat : row = some g ∨ g = wr.heap.size) (ho : w2.heap[g]? = some o) :
    Cr w Z (fun s => Ac s ∨ s = r) (mv ρ r g) (mv H r o) w2 := by
  have hkeep : ∀ s, Ac s → s ≠ r → w2.heap[ρ s]? = some (H s) ∧ ρ s ≠ g := fun s hs hne => by
    have hlt := h.hi s hs
    rcases hv with rfl | ⟨hr, rfl⟩
    · refine ⟨(hg.block _ hlt (by intro e; cases e)).trans (h.at' s hs), ?_⟩
      rcases hat with e | e
      · cases e
      · omega
    · have hne2 : ρ s ≠ ρ r := fun e => hne (h.inj s r hs hr e)
      refine ⟨(hg.block _ hlt (by intro e; exact hne2 (Option.some.inj e))).trans (h.at' s hs), ?_⟩
      rcases hat with e | e
      · rw [← Option.some.inj e]; exact hne2
      · omega
  have hlo : Z ≤ g := by
    rcases hat with e | e
    · rcases hv with rfl | ⟨hr, rfl⟩
      · cases e
      · rw [← Option.some.inj e]; exact h.lo r hr
    · rw [e]; exact h.size
  refine ⟨h.below.trans ⟨hg.os, hg.tape, hg.output, hg.size, fun k hk => hg.block k (Nat.lt_of_lt_of_le hk h.size) ?_⟩, Nat.le_trans h.size hg.size, fun a b ha hb' e => ?_, fun a ha => ?_, fun a ha => ?_⟩
  · rcases hv with rfl | ⟨hr, rfl⟩
    · intro e; cases e
    · intro e
      have := Option.some.inj e
      have := h.lo r hr
      omega
  · by_cases h1 : a = r
    · by_cases h3 : b = r
      · rw [h1, h3]
      · subst h1
        rw [mv_same, mv_other _ _ h3] at e
        exact absurd e.symm (hkeep b (hb'.resolve_right h3) h3).2
    · by_cases h3 : b = r
      · subst h3
        rw [mv_same, mv_other _ _ h1] at e
        exact absurd e (hkeep a (ha.resolve_right h1) h1).2
      · rw [mv_other _ _ h1, mv_other _ _ h3] at e
        exact h.inj a b (ha.resolve_right h1) (hb'.resolve_right h3) e
  · by_cases h1 : a = r
    · rw [h1, mv_same]; exact hlo
    · rw [mv_other _ _ h1]; exact h.lo a (ha.resolve_right h1)
  · by_cases h1 : a = r
    · rw [h1, mv_same, mv_same]; exact ho
    · rw [mv_other _ _ h1, mv_other _ _ h1]; exact (hkeep a (ha.resolve_right h1) h1).1
end

/-- a row of one's own, by its object -/
def RowAt (o : Obj) (e : TypeId) (size n cap : Nat) (xs : List Value) : Prop :=
  ∃ cur, o = .cells cur e (0, 0) ∧ n ≤ cap ∧ cap ≤ maxLen ∧ cur.size = cap * size ∧ cur.toList.take (n * size) = xs ∧ xs.length = n * size
theorem RowAt.owns {w : World} {g : Nat} {o : Obj} {e : TypeId} {size n cap : Nat} {xs : List Value} (h : RowAt o e size n cap xs) (hg : w.heap[g]? = some o) : w.ownsRow 0 e size (.slice (some ⟨g, 0, none⟩) n cap) n xs := by
  obtain ⟨cur, rfl, h1, h2, h3, h4, h5⟩ := h
  exact ⟨h5, .inr ⟨g, cap, cur, rfl, Nat.zero_le _, hg, h1, h2, h3, h4⟩⟩
theorem row_of_owns {w : World} {g : Nat} {e : TypeId} {size n cap : Nat} {xs : List Value} (h : w.ownsRow 0 e size (.slice (some ⟨g, 0, none⟩) n cap) n xs) : ∃ o, w.heap[g]? = some o ∧ RowAt o e size n cap xs := by
  obtain ⟨h5, h⟩ := h
  rcases h with ⟨h, _⟩ | ⟨g', c, cur, hv, _, hg, h1, h2, h3, h4⟩
  · cases h
  · have e1 : g = g' := by injection hv with a; injection a with a; injection a
    have e2 : cap = c := by injection hv
    subst e1 e2
    exact ⟨_, hg, cur, rfl, h1, h2, h3, h4, h5⟩
theorem RowAt.cell {w : World} {g : Nat} {o : Obj} {e : TypeId} {size n cap q : Nat} {xs : List Value} {u : Value} (h : RowAt o e size n cap xs) (hg : w.heap[g]? = some o) (hu : xs[q]? = some u) : w.cell? ⟨g, q, none⟩ = some u := by
  obtain ⟨cur, rfl, h1, h2, h3, h4, h5⟩ := h
  have hq : q < n * size := by rw [← h5]; exact (List.getElem?_eq_some_iff.1 hu).1
  have hk : Blk w g cur e := hg
  rw [hk.cell, ← Array.getElem?_toList]
  have e := congrArg (fun l => l[q]?) h4
  rw [List.getElem?_take, if_pos hq, hu] at e
  exact e
theorem row_one {e : TypeId} (cs : Array Value) : RowAt (.cells cs e (0, 0)) e cs.size 1 1 cs.toList := by
  refine ⟨cs, rfl, Nat.le_refl _, by unfold maxLen; omega, by omega, ?_, by simp⟩
  rw [Nat.one_mul, List.take_of_length_le (by simp)]

/-- rows side by side -/
def rows (F : Nat → List Value) (n : Nat) : List Value := (List.range n).flatMap F
theorem rows_succ (F : Nat → List Value) (n : Nat) : rows F (n + 1) = rows F n ++ F n := by
  unfold rows
  rw [List.range_succ, List.flatMap_append]
  simp
theorem rows_congr {F G : Nat → List Value} {n : Nat} (h : ∀ j, j < n → F j = G j) : rows F n = rows G n := by
  induction n with
  | zero => rfl
  | succ n ih => rw [rows_succ, rows_succ, ih (fun j hj => h j (by omega)), h n (by omega)]
theorem rows_mv (F : Nat → List Value) (n : Nat) (x : List Value) : rows (mv F n x) (n + 1) = rows F n ++ x := by
  rw [rows_succ, mv_same, rows_congr (fun j hj => mv_other F x (by omega))]
theorem rows_length {F : Nat → List Value} {c n : Nat} (h : ∀ j, j < n → (F j).length = c) : (rows F n).length = n * c := by
  induction n with
  | zero => simp [rows]
  | succ n ih => rw [rows_succ, List.length_append, ih (fun j hj => h j (by omega)), h n (by omega), Nat.succ_mul]
theorem rows_get {F : Nat → List Value} {c n : Nat} (h : ∀ j, j < n → (F j).length = c) (i j : Nat) (hi : i < n) (hj : j < c) : (rows F n)[i * c + j]? = (F i)[j]? := by
  induction n with
  | zero => omega
  | succ n ih =>
    rw [rows_succ]
    have hl := rows_length (F := F) (c := c) (n := n) (fun j hj => h j (by omega))
    by_cases hin : i < n
    · have : i * c + j < n * c := by
        have := Nat.mul_le_mul_right c (show i + 1 ≤ n from hin)
        rw [Nat.succ_mul] at this
        omega
      rw [List.getElem?_append_left (by omega)]
      exact ih (fun j hj => h j (by omega)) hin
    · obtain rfl : i = n := by omega
      rw [List.getElem?_append_right (by omega), hl, Nat.add_sub_cancel_left]
theorem add_off (b k i : Nat) : (⟨b, k, none⟩ : Addr).add i = ⟨b, k + i, none⟩ := by
  unfold Addr.add
  by_cases h : i = 0
  · simp [h]
  · simp [h]

def entCells (q : Int × Int × ByteArray × Int) : List Value := [.int .i64 q.1, .int .i64 q.2.1, .string q.2.2.1, .int .i64 q.2.2.2]
def supCells (q : Int × Int × Int) : List Value := [.int .i64 q.1, .int .i64 q.2.1, .int .i64 q.2.2]
theorem nodes_of {w : World} {g n cap : Nat} {o : Obj} {g0 : Nat → Nat → Int} (hg : w.heap[g]? = some o) (h : RowAt o 51 17 n cap (rows (fun j => (ncs (g0 j)).toList) n)) : Nodes w (some ⟨g, 0, none⟩) n g0 := fun i hi =>
  ⟨_, rfl, fun j v hj => by
    have hj17 : j < 17 := (List.getElem?_eq_some_iff.1 hj).1
    rw [add_block, add_off]
    refine h.cell hg ?_
    rw [rows_get (c := 17) (fun _ _ => rfl) i j hi hj17]
    exact hj⟩
theorem ents_of {w : World} {g n cap : Nat} {o : Obj} {g1 : Nat → Int × Int × ByteArray × Int} (hg : w.heap[g]? = some o) (h : RowAt o 61 4 n cap (rows (fun j => entCells (g1 j)) n)) : Ents w (some ⟨g, 0, none⟩) n g1 := fun i hi => by
  have key : ∀ j, j < 4 → ∀ u, (entCells (g1 i))[j]? = some u → w.cell? ⟨g, i * 4 + j, none⟩ = some u := fun j hj u hu => h.cell hg (by rw [rows_get (c := 4) (fun _ _ => rfl) i j hi hj]; exact hu)
  refine ⟨_, rfl, ?_, ?_, ?_, ?_⟩
  · rw [add_block]; exact key 0 (by decide) _ rfl
  · rw [add_block]; exact key 1 (by decide) _ rfl
  · rw [add_block]; exact key 2 (by decide) _ rfl
  · rw [add_block]; exact key 3 (by decide) _ rfl
theorem supers_of {w : World} {g n cap : Nat} {o : Obj} {g2 : Nat → Int × Int × Int} (hg : w.heap[g]? = some o) (h : RowAt o 30 3 n cap (rows (fun j => supCells (g2 j)) n)) : Supers w (some ⟨g, 0, none⟩) n g2 := fun i hi => by
  have key : ∀ j, j < 3 → ∀ u, (supCells (g2 i))[j]? = some u → w.cell? ⟨g, i * 3 + j, none⟩ = some u := fun j hj u hu => h.cell hg (by rw [rows_get (c := 3) (fun _ _ => rfl) i j hi hj]; exact hu)
  refine ⟨_, rfl, ?_, ?_, ?_⟩
  · rw [add_block]; exact key 0 (by decide) _ rfl
  · rw [add_block]; exact key 1 (by decide) _ rfl
  · rw [add_block]; exact key 2 (by decide) _ rfl

theorem cr_append {w wr w7 : World} {Z : Nat} {Ac : Nat → Prop} {ρ : Nat → Nat} {H : Nat → Obj} (h : Cr w Z Ac ρ H wr) {v : Value} {e : TypeId} {size m cap g : Nat} {xs : List Value} (r : Nat)
    (hv : v.ownBlock = none ∨ (Ac r ∧ v.ownBlock = some (ρ r))) (hgrow : wr.grownBy w7 v.ownBlock) (hat : v.ownBlock = some g ∨ g = wr.heap.size) (hown : w7.ownsRow 0 e size (.slice (some ⟨g, 0, none⟩) m cap) m xs) :
    ∃ o, Cr w Z (fun s => Ac s ∨ s = r) (mv ρ r g) (mv H r o) w7 ∧ RowAt o e size m cap xs := by
  obtain ⟨o, ho, hr⟩ := row_of_owns hown
  exact ⟨o, h.grown hgrow r g o hv hat ho, hr⟩
def Three (r : Nat) : Prop := r = 2 ∨ r = 3 ∨ r = 4
theorem start_cr (w : World) (o7 o8 o9 : Obj) : Cr w w.heap.size Three (fun r => w.heap.size + (r - 2)) (fun r => if r = 2 then o7 else if r = 3 then o8 else o9) (((w.alloc o7).alloc o8).alloc o9) := by
  have hn : ∀ (w : World) (o : Obj), (w.alloc o).heap[w.heap.size]? = some o := fun w o => by
    show (w.heap.push _)[w.heap.size]? = _
    simp
  have hk : ∀ (w : World) (o : Obj) (k : Nat), k < w.heap.size → (w.alloc o).heap[k]? = w.heap[k]? := fun w o k hk => Below.heap_alloc w o k hk
  refine ⟨(((Below.refl _ _).alloc (Nat.le_refl _) _).alloc (by simp) _).alloc (by simp; omega) _, by simp; omega, fun r s hr hs e => ?_, fun r hr => Nat.le_add_right _ _, fun r hr => ?_⟩
  · unfold Three at hr hs
    have e : w.heap.size + (r - 2) = w.heap.size + (s - 2) := e
    omega
  · rcases hr with rfl | rfl | rfl
    · rw [hk _ _ _ (by simp; omega), hk _ _ _ (by simp)]
      exact hn w o7
    · rw [hk _ _ _ (by simp)]
      have := hn (w.alloc o7) o8
      rwa [show (w.alloc o7).heap.size = w.heap.size + 1 from by simp] at this
    · have := hn ((w.alloc o7).alloc o8) o9
      rwa [show ((w.alloc o7).alloc o8).heap.size = w.heap.size + 2 from by simp] at this
/-- one of the three rows grows, the others stay -/
def OneR (w : World) (Z r : Nat) (P : Nat → Nat) (O : Nat → Obj) (e : TypeId) (size : Nat) (G : List Value → Prop) (wr : World) (v : Value) (n : Nat) : Prop :=
  ∃ (ρ : Nat → Nat) (H : Nat → Obj) (cap : Nat) (g : Nat → List Value), v = .slice (some ⟨ρ r, 0, none⟩) n cap ∧ Cr w Z Three ρ H wr ∧ (∀ s, Three s → s ≠ r → ρ s = P s ∧ H s = O s) ∧ RowAt (H r) e size n cap (rows g n) ∧ ∀ j, j < n → G (g j)
section
variable {w wr w2 : World} {Z r n : Nat} {P : Nat → Nat} {O : Nat → Obj} {e : TypeId} {size : Nat} {G : List Value → Prop} {v : Value}
theorem OneR.step (h : OneR w Z r P O e size G wr v n) (hb : Below wr.heap.size wr w2) : OneR w Z r P O e size G w2 v n := by
  obtain ⟨ρ, H, cap, g, e, hc, h⟩ := h
  exact ⟨ρ, H, cap, g, e, hc.step hb, h⟩
theorem OneR.below (h : OneR w Z r P O e size G wr v n) : Below Z w wr := by
  obtain ⟨ρ, H, cap, g, e, hc, h⟩ := h
  exact hc.below
theorem OneR.owns (hr3 : Three r) (h : OneR w Z r P O e size G wr v n) : ∃ xs, wr.ownsRow 0 e size v n xs ∧ ∀ w7 x gb cb, G x → w7.ownsRow 0 e size (.slice (some ⟨gb, 0, none⟩) (n + 1) cb) (n + 1) (xs ++ x) → wr.grownBy w7 v.ownBlock → v.ownBlock = some gb ∨ gb = wr.heap.size → OneR w Z r P O e size G w7 (.slice (some ⟨gb, 0, none⟩) (n + 1) cb) (n + 1) := by
  obtain ⟨ρ, H, cap, g, rfl, hc, h3, hr, hg⟩ := h
  refine ⟨_, hr.owns (hc.at' r hr3), fun w7 f gb cb hf hown hgrow hat => ?_⟩
  obtain ⟨o, hcr, hrow⟩ := cr_append hc r (.inr ⟨hr3, rfl⟩) hgrow hat hown
  refine ⟨mv ρ r gb, mv H r o, cb, mv g n f, by rw [mv_same], hcr.sub (fun r hr => .inl hr), fun s hs hne => by rw [mv_other _ _ hne, mv_other _ _ hne]; exact h3 s hs hne, ?_, fun j hj => ?_⟩
  · rw [mv_same, rows_mv]
    exact hrow
  · by_cases e : j = n
    · rw [e, mv_same]; exact hf
    · rw [mv_other _ _ e]; exact hg j (by omega)
end
def GN (x : List Value) : Prop := ∃ f, NOk f ∧ x = (ncs f).toList
def GE (x : List Value) : Prop := ∃ q : Int × Int × ByteArray × Int, EOk q.1 q.2.1 q.2.2.1 ∧ x = entCells q
def GS (x : List Value) : Prop := ∃ a b c : Nat, Fits a b c ∧ x = supCells ((a : Int), (b : Int), (c : Int))
theorem start_one (w : World) (o8 o9 : Obj) (cs : Array Value) (e : TypeId) (size : Nat) (hs : cs.size = size) (G : List Value → Prop) (hG : G cs.toList) :
    OneR w w.heap.size 2 (fun r => w.heap.size + (r - 2)) (fun r => if r = 2 then .cells cs e (0, 0) else if r = 3 then o8 else o9) e size G (((w.alloc (.cells cs e (0, 0))).alloc o8).alloc o9) (.slice (some ⟨w.heap.size, 0, none⟩) 1 1) 1 := by
  subst hs
  refine ⟨_, _, 1, fun _ => cs.toList, rfl, start_cr w (.cells cs e (0, 0)) o8 o9, fun s _ _ => ⟨rfl, rfl⟩, ?_, fun j _ => hG⟩
  have h := row_one (e := e) cs
  rw [show rows (fun _ => cs.toList) 1 = cs.toList from by simp [rows]]
  exact h
/-- the next row begins: one element, as it was laid -/
theorem next_one {w wr : World} {Z r r2 n : Nat} {P : Nat → Nat} {O : Nat → Obj} {e : TypeId} {size : Nat} {G : List Value → Prop} {v : Value} (hne : r2 ≠ r) (hr2 : Three r2) (h : OneR w Z r P O e size G wr v n) (cs : Array Value) (e2 : TypeId) (size2 : Nat) (hs : cs.size = size2) (hO : O r2 = .cells cs e2 (0, 0)) (G2 : List Value → Prop) (hG : G2 cs.toList) :
    ∃ ρ H cap g, v = .slice (some ⟨ρ r, 0, none⟩) n cap ∧ (∀ s, Three s → s ≠ r → ρ s = P s ∧ H s = O s) ∧ RowAt (H r) e size n cap (rows g n) ∧ (∀ j, j < n → G (g j)) ∧ OneR w Z r2 ρ H e2 size2 G2 wr (.slice (some ⟨P r2, 0, none⟩) 1 1) 1 := by
  obtain ⟨ρ, H, cap, g, rfl, hc, h3, hr, hg⟩ := h
  refine ⟨ρ, H, cap, g, rfl, h3, hr, hg, ρ, H, 1, fun _ => cs.toList, by rw [(h3 r2 hr2 hne).1], hc, fun s _ _ => ⟨rfl, rfl⟩, ?_, fun j _ => hG⟩
  subst hs
  rw [(h3 r2 hr2 hne).2, hO, show rows (fun _ => cs.toList) 1 = cs.toList from by simp [rows]]
  exact row_one cs
end Go.Proofs.Ytefmihbjboacdaa.OwnA
/- CodecOwn, plain part of loop 4: the lists that are kept, and their copies. -/
namespace Go.Proofs.Ytefmihbjboacdaa.OwnC
open Go.ChangeShapes Go.WideShapes Go.ChangeAt Go.RowKit
open Go.Proofs.Ytefmihbjboacdaa.Kit Go.Proofs.Ytefmihbjboacdaa.Crc Go.Proofs.Ytefmihbjboacdaa.Reads Go.Proofs.Ytefmihbjboacdaa.Copy Go.Proofs.Ytefmihbjboacdaa.Writer Go.Proofs.Ytefmihbjboacdaa.Plan Go.Proofs.Ytefmihbjboacdaa.PlansLaw Go.Proofs.Ytefmihbjboacdaa.NodeLay Go.Proofs.Ytefmihbjboacdaa.NodeCells Go.Proofs.Ytefmihbjboacdaa.EntryEnc Go.Proofs.Ytefmihbjboacdaa.SuperEnc Go.Proofs.Ytefmihbjboacdaa.BackLaw Go.Proofs.Ytefmihbjboacdaa.Encoded Go.Proofs.Ytefmihbjboacdaa.GrownA Go.Proofs.Ytefmihbjboacdaa.OwnA
set_option linter.unusedVariables false

/-- roles: 0 kept, 1 was, 2 to 4 the three rows, 5 + 2 j the list j, 6 + 2 j its copy -/
def AcR (x a b r : Nat) : Prop := Three r ∨ (r = 0 ∧ 0 < a) ∨ (r = 1 ∧ 0 < b) ∨ (5 ≤ r ∧ r < 5 + x)
/-- a list's value -/
def lv (p : Nat) (l : List UInt8) : Value := .slice (some ⟨p, 0, none⟩) l.length l.length
/-- the list of lists at role r, its members at q, q + 2, .. -/
def ListAt (ρ : Nat → Nat) (H : Nat → Obj) (r q k : Nat) (L : Nat → List UInt8) (v : Value) : Prop :=
  (k = 0 ∧ v = .slice none 0 0) ∨ (0 < k ∧ ∃ cap, v = .slice (some ⟨ρ r, 0, none⟩) k cap ∧ RowAt (H r) 34 1 k cap ((List.range k).map fun j => lv (ρ (q + 2 * j)) (L j)))
structure Fix where
  (p7 p8 p9 : Nat) (o7 o8 o9 : Obj)
def Rg (w : World) (Z : Nat) (F : Fix) (L : Nat → List UInt8) (x a b B : Nat) (wr : World) (v14 v15 : Value) : Prop :=
  ∃ (ρ : Nat → Nat) (H : Nat → Obj), Cr w Z (AcR x a b) ρ H wr ∧ (ρ 2 = F.p7 ∧ ρ 3 = F.p8 ∧ ρ 4 = F.p9 ∧ H 2 = F.o7 ∧ H 3 = F.o8 ∧ H 4 = F.o9) ∧
    (∀ r, 5 ≤ r → r < 5 + x → H r = .cells (bvs (L ((r - 5) / 2))) 5 (0, 0)) ∧ ListAt ρ H 0 5 a L v14 ∧ ListAt ρ H 1 6 b L v15 ∧ (0 < x → ρ (4 + x) = B) ∧ 2 * a ≤ x + 1 ∧ 2 * b ≤ x
section
variable {w wr w2 : World} {Z x a b B : Nat} {F : Fix} {L : Nat → List UInt8} {v14 v15 : Value}
theorem Rg.step (h : Rg w Z F L x a b B wr v14 v15) (hb : Below wr.heap.size wr w2) : Rg w Z F L x a b B w2 v14 v15 := by
  obtain ⟨ρ, H, hc, h⟩ := h
  exact ⟨ρ, H, hc.step hb, h⟩
theorem Rg.below (h : Rg w Z F L x a b B wr v14 v15) : Below Z w wr := by
  obtain ⟨ρ, H, hc, h⟩ := h
  exact hc.below
theorem ListAt.mv {ρ : Nat → Nat} {H : Nat → Obj} {r q k s g : Nat} {o : Obj} {v : Value} (h : ListAt ρ H r q k L v) (h1 : r ≠ s) (h2 : ∀ j, j < k → q + 2 * j ≠ s) : ListAt (mv ρ s g) (mv H s o) r q k L v := by
  rcases h with h | ⟨h0, cap, hv, hr⟩
  · exact .inl h
  · refine .inr ⟨h0, cap, by rw [mv_other _ _ h1]; exact hv, ?_⟩
    rw [mv_other _ _ h1]
    have e : ((List.range k).map fun j => lv (OwnA.mv ρ s g (q + 2 * j)) (L j)) = ((List.range k).map fun j => lv (ρ (q + 2 * j)) (L j)) := by
      apply List.map_congr_left
      intro j hj
      rw [mv_other _ _ (h2 j (List.mem_range.1 hj))]
    rw [e]
    exact hr
/-- a new list comes -/
theorem Rg.made (h : Rg w Z F L x a b B wr v14 v15) {C : Nat} {l : List UInt8} (hl : l = L (x / 2)) (hm : Made wr w2 C l) : Rg w Z F L (x + 1) a b C w2 v14 v15 := by
  obtain ⟨ρ, H, hc, ⟨f1, f2, f3, f4, f5, f6⟩, hL, ha, hb, hB, hxa, hxb⟩ := h
  refine ⟨mv ρ (5 + x) C, mv H (5 + x) (.cells (bvs l) 5 (0, 0)), (hc.made hm.2.1 (5 + x) C _ hm.1 hm.2.2).sub ?_, ⟨by rw [mv_other _ _ (by omega)]; exact f1, by rw [mv_other _ _ (by omega)]; exact f2, by rw [mv_other _ _ (by omega)]; exact f3, by rw [mv_other _ _ (by omega)]; exact f4, by rw [mv_other _ _ (by omega)]; exact f5, by rw [mv_other _ _ (by omega)]; exact f6⟩, ?_, ha.mv (by omega) (fun j hj => by omega), hb.mv (by omega) (fun j hj => by omega), fun _ => ?_, by omega, by omega⟩
  · rintro r (h | h | h | ⟨h1, h2⟩)
    · exact .inl (.inl h)
    · exact .inl (.inr (.inl h))
    · exact .inl (.inr (.inr (.inl h)))
    · by_cases e : r = 5 + x
      · exact .inr e
      · exact .inl (.inr (.inr (.inr ⟨h1, by omega⟩)))
  · intro r h1 h2
    by_cases e : r = 5 + x
    · subst e
      rw [mv_same, hl, Nat.add_sub_cancel_left]
    · rw [mv_other _ _ e]
      exact hL r h1 (by omega)
  · rw [show 4 + (x + 1) = 5 + x from by omega, mv_same]
theorem ListAt.owns {ρ : Nat → Nat} {H : Nat → Obj} {r q k : Nat} {v : Value} (h : ListAt ρ H r q k L v) (hat : 0 < k → wr.heap[ρ r]? = some (H r)) : wr.ownsRow 0 34 1 v k ((List.range k).map fun j => lv (ρ (q + 2 * j)) (L j)) := by
  rcases h with ⟨rfl, rfl⟩ | ⟨h0, cap, rfl, hr⟩
  · exact ⟨rfl, .inl ⟨rfl, rfl⟩⟩
  · exact hr.owns (hat h0)
theorem ListAt.block {ρ : Nat → Nat} {H : Nat → Obj} {r q k : Nat} {v : Value} (h : ListAt ρ H r q k L v) : (k = 0 ∧ v.ownBlock = none) ∨ (0 < k ∧ v.ownBlock = some (ρ r)) := by
  rcases h with ⟨rfl, rfl⟩ | ⟨h0, cap, rfl, hr⟩
  · exact .inl ⟨rfl, rfl⟩
  · exact .inr ⟨h0, rfl⟩
theorem range_lv (ρ : Nat → Nat) (q k r g : Nat) (hr : ∀ j, j < k + 1 → q + 2 * j ≠ r) : ((List.range (k + 1)).map fun j => lv (OwnA.mv ρ r g (q + 2 * j)) (L j)) = ((List.range k).map fun j => lv (ρ (q + 2 * j)) (L j)) ++ [lv (ρ (q + 2 * k)) (L k)] := by
  rw [List.range_succ, List.map_append]
  congr 1
  · apply List.map_congr_left
    intro j hj
    rw [mv_other _ _ (hr j (by have := List.mem_range.1 hj; omega))]
  · show [lv _ _] = _
    rw [mv_other _ _ (hr k (by omega))]
/-- the list is kept -/
theorem Rg.own14 (h : Rg w Z F L x a b B wr v14 v15) (hx : x = 2 * a + 1) : ∃ xs, wr.ownsRow 0 34 1 v14 a xs ∧ ∀ w7 g cap, w7.ownsRow 0 34 1 (.slice (some ⟨g, 0, none⟩) (a + 1) cap) (a + 1) (xs ++ [lv B (L a)]) → wr.grownBy w7 v14.ownBlock → v14.ownBlock = some g ∨ g = wr.heap.size →
    Rg w Z F L x (a + 1) b B w7 (.slice (some ⟨g, 0, none⟩) (a + 1) cap) v15 := by
  obtain ⟨ρ, H, hc, ⟨f1, f2, f3, f4, f5, f6⟩, hL, ha, hb, hB, hxa, hxb⟩ := h
  refine ⟨_, ha.owns (fun h0 => hc.at' 0 (.inr (.inl ⟨rfl, h0⟩))), fun w7 g cap hown hgrow hat => ?_⟩
  obtain ⟨o, hcr, hrow⟩ := cr_append hc 0 (by
    rcases ha.block with ⟨_, h⟩ | ⟨h0, h⟩
    · exact .inl h
    · exact .inr ⟨.inr (.inl ⟨rfl, h0⟩), h⟩) hgrow hat hown
  refine ⟨mv ρ 0 g, mv H 0 o, hcr.sub ?_, ⟨by rw [mv_other _ _ (by omega)]; exact f1, by rw [mv_other _ _ (by omega)]; exact f2, by rw [mv_other _ _ (by omega)]; exact f3, by rw [mv_other _ _ (by omega)]; exact f4, by rw [mv_other _ _ (by omega)]; exact f5, by rw [mv_other _ _ (by omega)]; exact f6⟩, ?_, ?_, hb.mv (by omega) (fun j hj => by omega), fun _ => ?_, by omega, by omega⟩
  · rintro r (h | ⟨h1, h2⟩ | h | h)
    · exact .inl (.inl h)
    · exact .inr h1
    · exact .inl (.inr (.inr (.inl h)))
    · exact .inl (.inr (.inr (.inr h)))
  · intro r h1 h2
    rw [mv_other _ _ (by omega)]
    exact hL r h1 h2
  · refine .inr ⟨Nat.succ_pos a, cap, by rw [mv_same], ?_⟩
    rw [mv_same, range_lv ρ 5 a 0 g (fun j hj => by omega), show 5 + 2 * a = 4 + x from by omega, hB (by omega)]
    exact hrow
  · rw [mv_other _ _ (by omega)]
    exact hB (by omega)
/-- the copy is kept -/
theorem Rg.own15 (h : Rg w Z F L x a b B wr v14 v15) (hx : x = 2 * b + 2) : ∃ xs, wr.ownsRow 0 34 1 v15 b xs ∧ ∀ w7 g cap, w7.ownsRow 0 34 1 (.slice (some ⟨g, 0, none⟩) (b + 1) cap) (b + 1) (xs ++ [lv B (L b)]) → wr.grownBy w7 v15.ownBlock → v15.ownBlock = some g ∨ g = wr.heap.size →
    Rg w Z F L x a (b + 1) B w7 v14 (.slice (some ⟨g, 0, none⟩) (b + 1) cap) := by
  obtain ⟨ρ, H, hc, ⟨f1, f2, f3, f4, f5, f6⟩, hL, ha, hb, hB, hxa, hxb⟩ := h
  refine ⟨_, hb.owns (fun h0 => hc.at' 1 (.inr (.inr (.inl ⟨rfl, h0⟩)))), fun w7 g cap hown hgrow hat => ?_⟩
  obtain ⟨o, hcr, hrow⟩ := cr_append hc 1 (by
    rcases hb.block with ⟨_, h⟩ | ⟨h0, h⟩
    · exact .inl h
    · exact .inr ⟨.inr (.inr (.inl ⟨rfl, h0⟩)), h⟩) hgrow hat hown
  refine ⟨mv ρ 1 g, mv H 1 o, hcr.sub ?_, ⟨by rw [mv_other _ _ (by omega)]; exact f1, by rw [mv_other _ _ (by omega)]; exact f2, by rw [mv_other _ _ (by omega)]; exact f3, by rw [mv_other _ _ (by omega)]; exact f4, by rw [mv_other _ _ (by omega)]; exact f5, by rw [mv_other _ _ (by omega)]; exact f6⟩, ?_, ha.mv (by omega) (fun j hj => by omega), ?_, fun _ => ?_, by omega, by omega⟩
  · rintro r (h | h | ⟨h1, h2⟩ | h)
    · exact .inl (.inl h)
    · exact .inl (.inr (.inl h))
    · exact .inr h1
    · exact .inl (.inr (.inr (.inr h)))
  · intro r h1 h2
    rw [mv_other _ _ (by omega)]
    exact hL r h1 h2
  · refine .inr ⟨Nat.succ_pos b, cap, by rw [mv_same], ?_⟩
    rw [mv_same, range_lv ρ 6 b 1 g (fun j hj => by omega), show 6 + 2 * b = 4 + x from by omega, hB (by omega)]
    exact hrow
  · rw [mv_other _ _ (by omega)]
    exact hB (by omega)
theorem lv_get (ρ : Nat → Nat) (q k j : Nat) (h : j < k) : ((List.range k).map fun j => lv (ρ (q + 2 * j)) (L j))[j]? = some (lv (ρ (q + 2 * j)) (L j)) := by
  rw [List.getElem?_map, List.getElem?_range h]
  rfl
/-- the copies, read -/
theorem Rg.was (h : Rg w Z F L x a b B wr v14 v15) {j : Nat} (hj : j < b) : ∃ p1 cap C, v15 = .slice (some ⟨p1, 0, none⟩) b cap ∧ wr.cell? ⟨p1, j, none⟩ = some (lv C (L j)) ∧ Hid (Bytes wr (some ⟨C, 0, none⟩) (L j)) := by
  obtain ⟨ρ, H, hc, _, hL, ha, hb, hB, hxa, hxb⟩ := h
  rcases hb with ⟨h0, _⟩ | ⟨h0, cap, hv, hr⟩
  · omega
  · refine ⟨ρ 1, cap, ρ (6 + 2 * j), hv, hr.cell (hc.at' 1 (.inr (.inr (.inl ⟨rfl, h0⟩)))) (lv_get ρ 6 b j hj), ?_⟩
    have hk : Blk wr (ρ (6 + 2 * j)) (bvs (L j)) 5 := by
      have h1 := hc.at' (6 + 2 * j) (.inr (.inr (.inr ⟨by omega, by omega⟩)))
      rw [hL (6 + 2 * j) (by omega) (by omega), show (6 + 2 * j - 5) / 2 = j from by omega] at h1
      exact h1
    exact Bytes.own' hk
theorem Rg.fix (h : Rg w Z F L x a b B wr v14 v15) : wr.heap[F.p7]? = some F.o7 ∧ wr.heap[F.p8]? = some F.o8 ∧ wr.heap[F.p9]? = some F.o9 := by
  obtain ⟨ρ, H, hc, ⟨f1, f2, f3, f4, f5, f6⟩, _⟩ := h
  refine ⟨?_, ?_, ?_⟩
  · rw [← f1, ← f4]; exact hc.at' 2 (.inl (.inl rfl))
  · rw [← f2, ← f5]; exact hc.at' 3 (.inl (.inr (.inl rfl)))
  · rw [← f3, ← f6]; exact hc.at' 4 (.inl (.inr (.inr rfl)))
end
theorem Rg.last {w wr : World} {Z x a b B : Nat} {F : Fix} {L : Nat → List UInt8} {v14 v15 : Value} (h : Rg w Z F L (x + 1) a b B wr v14 v15) : Blk wr B (bvs (L (x / 2))) 5 := by
  obtain ⟨ρ, H, hc, _, hL, ha, hb, hB, hxa, hxb⟩ := h
  have h1 := hc.at' (5 + x) (.inr (.inr (.inr ⟨by omega, by omega⟩)))
  rw [hL (5 + x) (by omega) (by omega), Nat.add_sub_cancel_left] at h1
  rw [← hB (by omega), show 4 + (x + 1) = 5 + x from by omega]
  exact h1
/-- what Grown leaves -/
structure Fin (w : World) (Z : Nat) (F : Fix) (L : Nat → List UInt8) (n : Nat) (wr : World) (p1 : Nat) : Prop where
  below : Below Z w wr
  size : Z ≤ wr.heap.size
  fix : wr.heap[F.p7]? = some F.o7 ∧ wr.heap[F.p8]? = some F.o8 ∧ wr.heap[F.p9]? = some F.o9
  was : ∀ j, j < n → ∃ C, wr.cell? ⟨p1, j, none⟩ = some (lv C (L j)) ∧ Bytes wr (some ⟨C, 0, none⟩) (L j)
theorem Fin.step {w wr w2 : World} {Z n p1 : Nat} {F : Fix} {L : Nat → List UInt8} (h : Fin w Z F L n wr p1) (hb : Below wr.heap.size wr w2) : Fin w Z F L n w2 p1 := by
  have hk : ∀ (p : Nat) (o : Obj), wr.heap[p]? = some o → w2.heap[p]? = some o := fun p o e => (hb.block p (Array.getElem?_eq_some_iff.1 e).1).trans e
  refine ⟨h.below.trans (hb.mono h.size), Nat.le_trans h.size hb.size, ⟨hk _ _ h.fix.1, hk _ _ h.fix.2.1, hk _ _ h.fix.2.2⟩, fun j hj => ?_⟩
  obtain ⟨C, h1, h2⟩ := h.was j hj
  exact ⟨C, (hb.cell (World.block_lt_of_cell? _ _ h1)).trans h1, h2.below hb⟩
theorem Rg.done {w wr : World} {Z n B : Nat} {F : Fix} {L : Nat → List UInt8} {v14 v15 : Value} (h : Rg w Z F L (2 * n) n n B wr v14 v15) (hn : 0 < n) (hm : n ≤ 8388608) (hL5 : ∀ j, j < n → (L j).length ≤ 512) :
    ∃ gK c p1 c1 Bf, v14 = .slice (some ⟨gK, 0, none⟩) n c ∧ v15 = .slice (some ⟨p1, 0, none⟩) n c1 ∧ Places gK n Bf L ∧ Kept wr gK n Bf L ∧ Full wr n Bf L 0 0 ∧ ∀ w2, Chg (fun b => ∃ j, j < n ∧ b = Bf j) wr w2 → Fin w Z F L n w2 p1 := by
  obtain ⟨ρ, H, hc, ⟨f1, f2, f3, f4, f5, f6⟩, hL, ha, hb, hB, hxa, hxb⟩ := h
  rcases ha with ⟨h0, _⟩ | ⟨_, c, rfl, hra⟩
  · omega
  rcases hb with ⟨h0, _⟩ | ⟨_, c1, rfl, hrb⟩
  · omega
  have hAB : ∀ j, j < n → AcR (2 * n) n n (5 + 2 * j) := fun j hj => .inr (.inr (.inr ⟨by omega, by omega⟩))
  have hAC : ∀ j, j < n → AcR (2 * n) n n (6 + 2 * j) := fun j hj => .inr (.inr (.inr ⟨by omega, by omega⟩))
  have hA0 : AcR (2 * n) n n 0 := .inr (.inl ⟨rfl, hn⟩)
  have hA1 : AcR (2 * n) n n 1 := .inr (.inr (.inl ⟨rfl, hn⟩))
  have hBat : ∀ j, j < n → Blk wr (ρ (5 + 2 * j)) (bvs (L j)) 5 := fun j hj => by
    have h1 := hc.at' (5 + 2 * j) (hAB j hj)
    rw [hL (5 + 2 * j) (by omega) (by omega), show (5 + 2 * j - 5) / 2 = j from by omega] at h1
    exact h1
  have hCat : ∀ j, j < n → Blk wr (ρ (6 + 2 * j)) (bvs (L j)) 5 := fun j hj => by
    have h1 := hc.at' (6 + 2 * j) (hAC j hj)
    rw [hL (6 + 2 * j) (by omega) (by omega), show (6 + 2 * j - 5) / 2 = j from by omega] at h1
    exact h1
  refine ⟨ρ 0, c, ρ 1, c1, fun j => ρ (5 + 2 * j), rfl, rfl, ⟨fun i j hi hj e => ?_, fun i hi e => ?_, hL5, hm⟩, fun i hi => hra.cell (hc.at' 0 hA0) (lv_get ρ 5 n i hi), fun j hj => ?_, fun w2 hch => ?_⟩
  · have := hc.inj _ _ (hAB i hi) (hAB j hj) e
    omega
  · have := hc.inj _ _ (hAB i hi) hA0 e
    omega
  · rw [if_neg (Nat.not_lt_zero j)]
    by_cases e : j = 0
    · rw [if_pos e, upTo_zero]
      exact hBat j hj
    · rw [if_neg e]
      exact hBat j hj
  · have keep : ∀ r, AcR (2 * n) n n r → (∀ j, j < n → r ≠ 5 + 2 * j) → w2.heap[ρ r]? = some (H r) := fun r hr hne => by
      refine (hch.block (ρ r) (hc.hi r hr) ?_).trans (hc.at' r hr)
      rintro ⟨j, hj, e⟩
      exact hne j hj (hc.inj _ _ hr (hAB j hj) e)
    have hA2 : AcR (2 * n) n n 2 := .inl (.inl rfl)
    have hA3 : AcR (2 * n) n n 3 := .inl (.inr (.inl rfl))
    have hA4 : AcR (2 * n) n n 4 := .inl (.inr (.inr rfl))
    refine ⟨hc.below.trans ⟨hch.os, hch.tape, hch.output, hch.size, fun k hk => hch.block k (Nat.lt_of_lt_of_le hk hc.size) ?_⟩, Nat.le_trans hc.size hch.size, ⟨?_, ?_, ?_⟩, fun j hj => ⟨ρ (6 + 2 * j), ?_, ?_⟩⟩
    · rintro ⟨j, hj, e⟩
      have := hc.lo _ (hAB j hj)
      have e : k = ρ (5 + 2 * j) := e
      omega
    · rw [← f1, ← f4]; exact keep 2 hA2 (fun j hj => by omega)
    · rw [← f2, ← f5]; exact keep 3 hA3 (fun j hj => by omega)
    · rw [← f3, ← f6]; exact keep 4 hA4 (fun j hj => by omega)
    · exact hrb.cell (keep 1 hA1 (fun j hj => by omega)) (lv_get ρ 6 n j hj)
    · have h1 := keep (6 + 2 * j) (hAC j hj) (fun i hi => by omega)
      rw [hL (6 + 2 * j) (by omega) (by omega), show (6 + 2 * j - 5) / 2 = j from by omega] at h1
      exact Bytes.own' (show Blk w2 (ρ (6 + 2 * j)) (bvs (L j)) 5 from h1)

theorem choose_rows {α : Type} (d : α) {F : Nat → List Value} {n : Nat} {P : α → Prop} {c : α → List Value} (h : ∀ j, j < n → ∃ x, P x ∧ F j = c x) : ∃ G : Nat → α, (∀ j, j < n → P (G j)) ∧ rows F n = rows (fun j => c (G j)) n := by
  have key : ∀ j, ∃ x, j < n → P x ∧ F j = c x := fun j => by
    by_cases hj : j < n
    · obtain ⟨x, hx⟩ := h j hj
      exact ⟨x, fun _ => hx⟩
    · exact ⟨d, fun h => absurd h hj⟩
  exact ⟨fun j => (key j).choose, fun j hj => ((key j).choose_spec hj).1, rows_congr (fun j hj => ((key j).choose_spec hj).2)⟩
/-- the three rows, read -/
theorem has_of {n0 n1 n2 cap7 cap8 cap9 p7 p8 p9 : Nat} {o7 o8 o9 : Obj} {F7 F8 F9 : Nat → List Value} (hs : n0 ≤ 1048577 ∧ n1 ≤ 1048577 ∧ n2 ≤ 1048577)
    (h7 : RowAt o7 51 17 n0 cap7 (rows F7 n0)) (g7 : ∀ j, j < n0 → GN (F7 j)) (h8 : RowAt o8 61 4 n1 cap8 (rows F8 n1)) (g8 : ∀ j, j < n1 → GE (F8 j)) (h9 : RowAt o9 30 3 n2 cap9 (rows F9 n2)) (g9 : ∀ j, j < n2 → GS (F9 j)) :
    ∃ G0 G1 G2, ∀ wr : World, wr.heap[p7]? = some o7 ∧ wr.heap[p8]? = some o8 ∧ wr.heap[p9]? = some o9 → Has wr (some ⟨p7, 0, none⟩) (some ⟨p8, 0, none⟩) (some ⟨p9, 0, none⟩) n0 n1 n2 G0 G1 G2 := by
  obtain ⟨G0, a0, e0⟩ := choose_rows (fun _ => (0 : Int)) (c := fun f => (ncs f).toList) g7
  obtain ⟨G1, a1, e1⟩ := choose_rows ((0, 0, ⟨#[]⟩, 0) : Int × Int × ByteArray × Int) (P := fun q => EOk q.1 q.2.1 q.2.2.1) (c := entCells) g8
  obtain ⟨G2, a2, e2⟩ := choose_rows ((0, 0, 0) : Int × Int × Int) (P := fun q => ∃ a b c : Nat, q = ((a : Int), (b : Int), (c : Int)) ∧ Fits a b c) (c := supCells) (F := F9) (n := n2) (fun j hj => by
    obtain ⟨a, b, c, hf, e⟩ := g9 j hj
    exact ⟨_, ⟨a, b, c, rfl, hf⟩, e⟩)
  rw [e0] at h7
  rw [e1] at h8
  rw [e2] at h9
  exact ⟨G0, G1, G2, fun wr hw => ⟨nodes_of hw.1 h7, ents_of hw.2.1 h8, supers_of hw.2.2 h9, a0, a1, a2, hs⟩⟩
theorem encL_length {w : World} {A0 A1 A2 : Option Addr} {n0 n1 n2 : Nat} {g0 : Nat → Nat → Int} {g1 : Nat → Int × Int × ByteArray × Int} {g2 : Nat → Int × Int × Int} (h : Has w A0 A1 A2 n0 n1 n2 g0 g1 g2) (i : Nat) (hi : i < n0 + n1 + n2) : 0 < (encL n0 n1 g0 g1 g2 i).length ∧ (encL n0 n1 g0 g1 g2 i).length ≤ 512 := by
  unfold encL
  by_cases h0 : i < n0
  · rw [if_pos h0, nodeOf_length]
    omega
  · rw [if_neg h0]
    by_cases h1 : i < n0 + n1
    · rw [if_pos h1, entryOf_length (h.eok _ (by omega))]
      omega
    · rw [if_neg h1, superBytes_length]
      omega
end Go.Proofs.Ytefmihbjboacdaa.OwnC
/- CodecOwn: what an encoder answers is new memory, where what is read is of small bulk. -/
namespace Go.Proofs.Ytefmihbjboacdaa.OwnB
open Go.ChangeShapes Go.WideShapes Go.ChangeAt Go.RowKit
open Go.Proofs.Ytefmihbjboacdaa.Kit Go.Proofs.Ytefmihbjboacdaa.Crc Go.Proofs.Ytefmihbjboacdaa.Reads Go.Proofs.Ytefmihbjboacdaa.Copy Go.Proofs.Ytefmihbjboacdaa.Writer Go.Proofs.Ytefmihbjboacdaa.Plan Go.Proofs.Ytefmihbjboacdaa.PlansLaw Go.Proofs.Ytefmihbjboacdaa.NodeLay Go.Proofs.Ytefmihbjboacdaa.NodeCells Go.Proofs.Ytefmihbjboacdaa.EntryEnc Go.Proofs.Ytefmihbjboacdaa.Tame Go.Proofs.Ytefmihbjboacdaa.TameNode Go.Proofs.Ytefmihbjboacdaa.TameEntry Go.Proofs.Ytefmihbjboacdaa.BackLaw Go.Proofs.Ytefmihbjboacdaa.Encoded Go.Proofs.Ytefmihbjboacdaa.GrownA Go.Proofs.Ytefmihbjboacdaa.GrownB Go.Proofs.Ytefmihbjboacdaa.OwnA Go.Proofs.Ytefmihbjboacdaa.OwnC
set_option linter.unusedVariables false

set_option maxRecDepth 100000 in
theorem info51 : (Try.prog.info? 51).map (fun i => (i.zero, i.size, i.bytes)) = some (some (.agg (ncs fun _ => 0)), 17, 136) := by kernel_rfl
theorem info61 : (Try.prog.info? 61).map (fun i => (i.zero, i.size, i.bytes)) = some (some (.agg #[.int .i64 0, .int .i64 0, .string ⟨#[]⟩, .int .i64 0]), 4, 40) := by kernel_rfl
theorem info30 : (Try.prog.info? 30).map (fun i => (i.zero, i.size, i.bytes)) = some (some (.agg #[.int .i64 0, .int .i64 0, .int .i64 0]), 3, 24) := by kernel_rfl
theorem wpList_build_one {P : Program} {ops : Array Oper} {rest : List Oper} {o : Oper} {a : Act} {w : World} {Q : Exit → Act → World → Prop} (hg : o.guard = none) (t e : TypeId) (x : Operand) (ho : o.op = .buildSlice t 1 #[(0, x)])
    (i : TypeInfo) (z : Value) (n : Nat) (hu : P.underlying t = some (.slice e)) (hi : P.info? e = some i) (hz : i.zero = some z) (hs : i.size = n) (h0 : 0 < n) (hn : n ≤ 1000)
    (cs : Array Value) (hx : a.eval x = .agg cs) (hcs : cs.size = n) (d : Option Tmp) (hd : o.dst = d)
    (h : wpList P ops Q rest (a.put d (.slice (some ⟨w.heap.size, 0, none⟩) 1 1)) (w.alloc (.cells cs e))) : wpList P ops Q (o :: rest) a w := by
  subst hs hd
  refine wpList_buildSlice hg t e 1 _ ho cs i z hu hi hz (by omega) (by omega) ?_ h
  have h2 := Great.fill_whole (s := i.size) h0 [.agg cs] ((Array.range (1 * i.size)).map (z.cells[· % z.cells.size]!)) (by simpa [Value.cells] using hcs) (by simp)
  simpa [Value.cells, hx] using h2

theorem tight_len (A : Option Addr) (c n : Nat) (l : List UInt8) (w : World) (hl : l.length = n) (hn : n ≤ 140737488351232) (H : Hid (Bytes w A l)) :
    Calls Try.prog 21 #[.slice A n c] w fun e w' => ∃ B, e = .returned (.slice (some ⟨B, 0, none⟩) n n) ∧ Made w w' B l := by
  subst hl
  exact tight_any A c l w hn H
theorem GrownOwn {w : World} {o : Obj} {base size n : Nat} {e : TypeId} {v : Value} {xs : List Value} (h : w.ownsRow base e size v n xs) : (w.alloc o).ownsRow base e size v n xs :=
  Tail.owns_chg h (Chg.of_below (S := fun _ => False) ((Below.refl _ _).alloc (Nat.le_refl _) _)) (fun _ _ h => h)
set_option maxRecDepth 100000 in
set_option maxHeartbeats 20000000 in
theorem law_any (A0 A1 A2 : Option Addr) (n0 c0 n1 c1 n2 c2 : Nat) (g0 : Nat → Nat → Int) (g1 : Nat → Int × Int × ByteArray × Int) (g2 : Nat → Int × Int × Int) (w : World) (hn : n0 + n1 + n2 ≤ 1048576)
    (H0 : Hid (Nodes w A0 n0 g0)) (H1 : Hid (Ents w A1 n1 g1)) (H2 : Hid (Supers w A2 n2 g2)) :
    Calls Try.prog 11 #[.slice A0 n0 c0, .slice A1 n1 c1, .slice A2 n2 c2] w fun e w' => e = .returned (.bool true) ∧ Below w.heap.size w w' := by
  obtain ⟨i51, a0, a1, a2, a3⟩ := info_parts info51
  obtain ⟨i61, b0, b1, b2, b3⟩ := info_parts info61
  obtain ⟨i30, d0, d1, d2, d3⟩ := info_parts info30
  obtain ⟨i34, e0, e1, e2, e3⟩ := info_parts info34
  have HA := Lib.hid (And.intro a0 (And.intro a1 (And.intro a2 a3)))
  have HB := Lib.hid (And.intro b0 (And.intro b1 (And.intro b2 b3)))
  have HD := Lib.hid (And.intro d0 (And.intro d1 (And.intro d2 d3)))
  have HE := Lib.hid (And.intro e0 (And.intro e1 (And.intro e2 e3)))
  clear a0 a1 a2 a3 b0 b1 b2 b3 d0 d1 d2 d3 e0 e1 e2 e3
  have HN := Lib.hid hn
  clear hn
  obtain ⟨Z, hZ⟩ : ∃ Z, w.heap.size = Z := ⟨_, rfl⟩
  have HZ := Lib.hid hZ
  rw [hZ]
  clear hZ
  go_enter Try.func11, Try.ntmps11
  go_upto_region 4 with (first | (refine wpList_build_one rfl 48 51 (.tmp 22) rfl i51 _ 17 Try.underlying48 HA.out.1 HA.out.2.1 HA.out.2.2.1 (by decide) (by decide) (ncs fun _ => 0) rfl rfl (some 23) rfl ?_) | (refine wpList_build_one rfl 59 61 (.tmp 24) rfl i61 _ 4 Try.underlying59 HB.out.1 HB.out.2.1 HB.out.2.2.1 (by decide) (by decide) #[.int .i64 0, .int .i64 0, .string ⟨#[]⟩, .int .i64 0] rfl rfl (some 25) rfl ?_) | (refine wpList_build_one rfl 23 30 (.tmp 26) rfl i30 _ 3 Try.underlying23 HD.out.1 HD.out.2.1 HD.out.2.2.1 (by decide) (by decide) #[.int .i64 25, .int .i64 18, .int .i64 4] rfl rfl (some 27) rfl ?_))
  refine gen_world (fun w' => Hid (OneR w Z 2 (fun r => Z + (r - 2)) (fun r => if r = 2 then .cells (ncs fun _ => 0) 51 (0, 0) else if r = 3 then .cells #[.int .i64 0, .int .i64 0, .string ⟨#[]⟩, .int .i64 0] 61 (0, 0) else .cells #[.int .i64 25, .int .i64 18, .int .i64 4] 30 (0, 0)) 51 17 GN w' (.slice (some ⟨Z, 0, none⟩) 1 1) 1)) ?_ ?_
  · have h := start_one w (.cells #[.int .i64 0, .int .i64 0, .string ⟨#[]⟩, .int .i64 0] 61 (0, 0)) (.cells #[.int .i64 25, .int .i64 18, .int .i64 4] 30 (0, 0)) (ncs fun _ => 0) 51 17 rfl GN ⟨fun _ => 0, .inl (fun _ _ => rfl), rfl⟩
    rw [HZ.out] at h
    exact h
  rw [HZ.out]
  rintro w1 h1
  go_wp2_with fail
  go_loopg [10, 7] n0 (fun gh i v wr => ∃ (k : Nat), gh = n0 - k ∧ k ≤ n0 ∧ i = .int .i64 k ∧ Hid (OneR w Z 2 (fun r => Z + (r - 2)) (fun r => if r = 2 then .cells (ncs fun _ => 0) 51 (0, 0) else if r = 3 then .cells #[.int .i64 0, .int .i64 0, .string ⟨#[]⟩, .int .i64 0] 61 (0, 0) else .cells #[.int .i64 25, .int .i64 18, .int .i64 4] 30 (0, 0)) 51 17 GN wr v (k + 1)))
  case atStart => exact ⟨0, rfl, Nat.zero_le _, rfl, h1⟩
  case round =>
    clear h1 w1
    obtain ⟨k, rfl, hk, rfl, h1⟩ := hrel
    have hk9 : (k : Int) ≤ 1048576 := by have := HN.out; omega
    have k0 : (0 : Int) ≤ (k : Int) := by omega
    by_cases hlt : k < n0
    · have hlti : (k : Int) < (n0 : Int) := by omega
      have HLT := Lib.hid hlt
      obtain ⟨ad, rfl, h0⟩ := H0.out k hlt
      have RD : ∀ j v, (ncs (g0 k)).toList[j]? = some v → wr.cell? ((ad.add (k * 17)).add j) = some v := fun j v hv => (h1.out.below.cell (by rw [← HZ.out]; exact World.block_lt_of_cell? w _ (h0 j v hv))).trans (h0 j v hv)
      have HRD := Lib.hid RD
      clear RD h0 hk hlt
      go_wp2_with (first | (refine wpList_load_node rfl _ rfl (ad.add (k * 17)) rfl (g0 k) HRD.out ?_))
      refine (tame_any (g0 k) _).mono ?_
      rintro e w5 ⟨f, hf, rfl, hb⟩
      have HF := Lib.hid hf
      have h2 := Lib.hid (h1.out.step hb.out)
      clear hb hf HRD h1
      have h3 := h2.out.step ((Below.refl _ _).alloc (Nat.le_refl _) (.cells (ncs f) 51))
      obtain ⟨xs, hxs, hnext⟩ := h3.owns (.inl rfl)
      have C6 : Hid ((w5.alloc (.cells (ncs f) 51)).ownsRow 0 51 17 u7 (k + 1) xs) := hxs
      have HNX := Lib.hid hnext
      have C1 : Hid (∀ j u, ((ncs f) : Array Value).toList[j]? = some u → (w5.alloc (.cells (ncs f) 51)).cell? ((⟨w5.heap.size, 0, none⟩ : Addr).add j) = some u) := World.news_of_block (Blk.new w5 _ _)
      have C2 : Hid (∀ u ∈ ((ncs f) : Array Value).toList, u.oneCell' = true) := fun u hu => by
        simp [ncs] at hu
        rcases hu with rfl | rfl | rfl | rfl | rfl | rfl | rfl | rfl | rfl | rfl | rfl | rfl | rfl | rfl | rfl | rfl | rfl <;> rfl
      have C3 : Hid (k + 1 + 1 ≤ maxLen) := by have := HLT.out; have := HN.out; show _ ≤ _; unfold maxLen; omega
      have C4 : Hid ((k + 1 + 1) * 136 ≤ 140737488355328) := by have := HLT.out; have := HN.out; show _ ≤ _; omega
      clear h2 h3 hxs hnext
      go_wp2_with (first | (refine wpList_build_one rfl 48 51 (.tmp 39) rfl i51 _ 17 Try.underlying48 HA.out.1 HA.out.2.1 HA.out.2.2.1 (by decide) (by decide) (ncs f) rfl rfl (some 40) rfl ?_) | (at_builtin; go_loud (refine wpList_append_lies _ rfl (.tmp 34) (.tmp 40) 48 rfl 0 51 i51 (.agg (ncs fun _ => 0)) 17 136 Try.underlying48 HA.out.1 HA.out.2.1 HA.out.2.2.1 HA.out.2.2.2 rfl (by decide) u7 (k + 1) xs rfl C6.out ⟨w5.heap.size, 0, none⟩ 1 1 ((ncs f) : Array Value).toList rfl rfl C1.out C2.out (by decide) C3.out C4.out (Nat.zero_le _) _ rfl ?_); intro gb cb w7 hown hgrow hat _; have HO := Lib.hid (And.intro hown (And.intro hgrow hat)); clear hown hgrow hat))
      go_roundg (n0 - (k + 1))
      case measure => have := HLT.out; omega
      case rel => exact ⟨k + 1, rfl, HLT.out, by go_num, HNX.out w7 _ _ _ ⟨f, .inr HF.out, rfl⟩ HO.out.1 HO.out.2.1 HO.out.2.2⟩
    · obtain rfl : n0 = k := by omega
      have hlti : ¬ ((n0 : Int) < (n0 : Int)) := by omega
      obtain ⟨ρ, H, cap7, F7, rfl, hP, hR7, hG7, h2⟩ := next_one (r2 := 3) (by decide) (.inr (.inl rfl)) h1.out #[.int .i64 0, .int .i64 0, .string ⟨#[]⟩, .int .i64 0] 61 4 rfl rfl GE ⟨(0, 0, ⟨#[]⟩, 0), .inl ⟨rfl, rfl, rfl⟩, rfl⟩
      have HP4 : Hid (ρ 4 = Z + 1 + 1 ∧ H 4 = .cells #[.int .i64 25, .int .i64 18, .int .i64 4] 30 (0, 0)) := hP 4 (.inr (.inr rfl)) (by decide)
      have H7 := Lib.hid (And.intro hR7 hG7)
      have h2 : Hid (OneR w Z 3 ρ H 61 4 GE wr (.slice (some ⟨Z + 1, 0, none⟩) 1 1) 1) := h2
      obtain ⟨p7, hp7⟩ : ∃ p, ρ 2 = p := ⟨_, rfl⟩
      rw [hp7]
      have HP7 := Lib.hid hp7
      clear hP hR7 hG7 hp7 h1 hk hlt
      go_wp2_with fail
      go_loopg [11, 8] n1 (fun gh i v wr => ∃ (k : Nat), gh = n1 - k ∧ k ≤ n1 ∧ i = .int .i64 k ∧ Hid (OneR w Z 3 ρ H 61 4 GE wr v (k + 1)))
      case atStart => exact ⟨0, rfl, Nat.zero_le _, rfl, h2⟩
      case round =>
        obtain ⟨k, rfl, hk, rfl, h1⟩ := hrel
        have hk9 : (k : Int) ≤ 1048576 := by have := HN.out; omega
        have k0 : (0 : Int) ≤ (k : Int) := by omega
        by_cases hlt : k < n1
        · have hlti : (k : Int) < (n1 : Int) := by omega
          have HLT := Lib.hid hlt
          obtain ⟨ad, rfl, q0, q1, q2, q3⟩ := H1.out k hlt
          rw [← h1.out.below.cell (by rw [← HZ.out]; exact World.block_lt_of_cell? w _ q0)] at q0
          rw [← h1.out.below.cell (by rw [← HZ.out]; exact World.block_lt_of_cell? w _ q1)] at q1
          rw [← h1.out.below.cell (by rw [← HZ.out]; exact World.block_lt_of_cell? w _ q2)] at q2
          rw [← h1.out.below.cell (by rw [← HZ.out]; exact World.block_lt_of_cell? w _ q3)] at q3
          clear hk hlt
          go_wp2_with fail
          refine (tameEntry_any (g1 k).1 (g1 k).2.1 (g1 k).2.2.1 (g1 k).2.2.2 _).mono ?_
          clear q0 q1 q2 q3
          generalize (g1 k).2.2.2 = sl
          rintro e w5 ⟨en, ek, es, hf, rfl, hb⟩
          have HF := Lib.hid hf
          have h2 := Lib.hid (h1.out.step hb.out)
          clear hb hf h1
          have h3 := h2.out.step ((Below.refl _ _).alloc (Nat.le_refl _) (.cells #[.int .i64 en, .int .i64 ek, .string es, .int .i64 sl] 61))
          obtain ⟨xs, hxs, hnext⟩ := h3.owns (.inr (.inl rfl))
          have C6 : Hid ((w5.alloc (.cells #[.int .i64 en, .int .i64 ek, .string es, .int .i64 sl] 61)).ownsRow 0 61 4 u8 (k + 1) xs) := hxs
          have HNX := Lib.hid hnext
          have C1 : Hid (∀ j u, (#[.int .i64 en, .int .i64 ek, .string es, .int .i64 sl] : Array Value).toList[j]? = some u → (w5.alloc (.cells #[.int .i64 en, .int .i64 ek, .string es, .int .i64 sl] 61)).cell? ((⟨w5.heap.size, 0, none⟩ : Addr).add j) = some u) := World.news_of_block (Blk.new w5 _ _)
          have C2 : Hid (∀ u ∈ (#[.int .i64 en, .int .i64 ek, .string es, .int .i64 sl] : Array Value).toList, u.oneCell' = true) := fun u hu => by
            simp at hu
            rcases hu with rfl | rfl | rfl | rfl <;> rfl
          have C3 : Hid (k + 1 + 1 ≤ maxLen) := by have := HLT.out; have := HN.out; show _ ≤ _; unfold maxLen; omega
          have C4 : Hid ((k + 1 + 1) * 40 ≤ 140737488355328) := by have := HLT.out; have := HN.out; show _ ≤ _; omega
          clear h2 h3 hxs hnext
          go_wp2_with (first | (refine wpList_build_one rfl 59 61 (.tmp 53) rfl i61 _ 4 Try.underlying59 HB.out.1 HB.out.2.1 HB.out.2.2.1 (by decide) (by decide) #[.int .i64 en, .int .i64 ek, .string es, .int .i64 sl] rfl rfl (some 54) rfl ?_) | (at_builtin; go_loud (refine wpList_append_lies _ rfl (.tmp 48) (.tmp 54) 59 rfl 0 61 i61 (.agg #[.int .i64 0, .int .i64 0, .string ⟨#[]⟩, .int .i64 0]) 4 40 Try.underlying59 HB.out.1 HB.out.2.1 HB.out.2.2.1 HB.out.2.2.2 rfl (by decide) u8 (k + 1) xs rfl C6.out ⟨w5.heap.size, 0, none⟩ 1 1 (#[.int .i64 en, .int .i64 ek, .string es, .int .i64 sl] : Array Value).toList rfl rfl C1.out C2.out (by decide) C3.out C4.out (Nat.zero_le _) _ rfl ?_); intro gb cb w7 hown hgrow hat _; have HO := Lib.hid (And.intro hown (And.intro hgrow hat)); clear hown hgrow hat))
          go_roundg (n1 - (k + 1))
          case measure => have := HLT.out; omega
          case rel => exact ⟨k + 1, rfl, HLT.out, by go_num, HNX.out w7 _ _ _ ⟨(en, ek, es, sl), .inr HF.out, rfl⟩ HO.out.1 HO.out.2.1 HO.out.2.2⟩
        · obtain rfl : n1 = k := by omega
          have hlti : ¬ ((n1 : Int) < (n1 : Int)) := by omega
          obtain ⟨ρ2, O2, cap8, F8, rfl, hP, hR8, hG8, h2⟩ := next_one (r2 := 4) (by decide) (.inr (.inr rfl)) h1.out #[.int .i64 25, .int .i64 18, .int .i64 4] 30 3 rfl HP4.out.2 GS ⟨25, 18, 4, by decide, rfl⟩
          rw [HP4.out.1] at h2
          have HQ7 : Hid (ρ2 2 = p7 ∧ O2 2 = H 2) := by have h := hP 2 (.inl rfl) (by decide); rw [HP7.out] at h; exact h
          have H8 := Lib.hid (And.intro hR8 hG8)
          have h2 : Hid (OneR w Z 4 ρ2 O2 30 3 GS wr (.slice (some ⟨Z + 1 + 1, 0, none⟩) 1 1) 1) := h2
          obtain ⟨p8, hp8⟩ : ∃ p, ρ2 3 = p := ⟨_, rfl⟩
          rw [hp8]
          have HP8 := Lib.hid hp8
          clear hP hR8 hG8 hp8 h1 hk hlt
          go_wp2_with fail
          go_loopg [12, 9] n2 (fun gh i v wr => ∃ (k : Nat), gh = n2 - k ∧ k ≤ n2 ∧ i = .int .i64 k ∧ Hid (OneR w Z 4 ρ2 O2 30 3 GS wr v (k + 1)))
          case atStart => exact ⟨0, rfl, Nat.zero_le _, rfl, h2⟩
          case round =>
            obtain ⟨k, rfl, hk, rfl, h1⟩ := hrel
            have hk9 : (k : Int) ≤ 1048576 := by have := HN.out; omega
            have k0 : (0 : Int) ≤ (k : Int) := by omega
            by_cases hlt : k < n2
            · have hlti : (k : Int) < (n2 : Int) := by omega
              have HLT := Lib.hid hlt
              obtain ⟨ad, rfl, q0, q1, q2⟩ := H2.out k hlt
              rw [← h1.out.below.cell (by rw [← HZ.out]; exact World.block_lt_of_cell? w _ q0)] at q0
              rw [← h1.out.below.cell (by rw [← HZ.out]; exact World.block_lt_of_cell? w _ q1)] at q1
              rw [← h1.out.below.cell (by rw [← HZ.out]; exact World.block_lt_of_cell? w _ q2)] at q2
              clear hk hlt
              go_wp2_with fail
              refine (tameSuper_any (g2 k).1 (g2 k).2.1 (g2 k).2.2 _).mono ?_
              clear q0 q1 q2
              rintro e w5 ⟨sa, sb, sc, hf, rfl, hb⟩
              have HF := Lib.hid hf
              have h2 := Lib.hid (h1.out.step hb.out)
              clear hb hf h1
              have h3 := h2.out.step ((Below.refl _ _).alloc (Nat.le_refl _) (.cells #[.int .i64 sa, .int .i64 sb, .int .i64 sc] 30))
              obtain ⟨xs, hxs, hnext⟩ := h3.owns (.inr (.inr rfl))
              have C6 : Hid ((w5.alloc (.cells #[.int .i64 sa, .int .i64 sb, .int .i64 sc] 30)).ownsRow 0 30 3 u9 (k + 1) xs) := hxs
              have HNX := Lib.hid hnext
              have C1 : Hid (∀ j u, (#[.int .i64 sa, .int .i64 sb, .int .i64 sc] : Array Value).toList[j]? = some u → (w5.alloc (.cells #[.int .i64 sa, .int .i64 sb, .int .i64 sc] 30)).cell? ((⟨w5.heap.size, 0, none⟩ : Addr).add j) = some u) := World.news_of_block (Blk.new w5 _ _)
              have C2 : Hid (∀ u ∈ (#[.int .i64 sa, .int .i64 sb, .int .i64 sc] : Array Value).toList, u.oneCell' = true) := fun u hu => by
                simp at hu
                rcases hu with rfl | rfl | rfl <;> rfl
              have C3 : Hid (k + 1 + 1 ≤ maxLen) := by have := HLT.out; have := HN.out; show _ ≤ _; unfold maxLen; omega
              have C4 : Hid ((k + 1 + 1) * 24 ≤ 140737488355328) := by have := HLT.out; have := HN.out; show _ ≤ _; omega
              clear h2 h3 hxs hnext
              go_wp2_with (first | (refine wpList_build_one rfl 23 30 (.tmp 67) rfl i30 _ 3 Try.underlying23 HD.out.1 HD.out.2.1 HD.out.2.2.1 (by decide) (by decide) #[.int .i64 sa, .int .i64 sb, .int .i64 sc] rfl rfl (some 68) rfl ?_) | (at_builtin; go_loud (refine wpList_append_lies _ rfl (.tmp 62) (.tmp 68) 23 rfl 0 30 i30 (.agg #[.int .i64 0, .int .i64 0, .int .i64 0]) 3 24 Try.underlying23 HD.out.1 HD.out.2.1 HD.out.2.2.1 HD.out.2.2.2 rfl (by decide) u9 (k + 1) xs rfl C6.out ⟨w5.heap.size, 0, none⟩ 1 1 (#[.int .i64 sa, .int .i64 sb, .int .i64 sc] : Array Value).toList rfl rfl C1.out C2.out (by decide) C3.out C4.out (Nat.zero_le _) _ rfl ?_); intro gb cb w7 hown hgrow hat _; have HO := Lib.hid (And.intro hown (And.intro hgrow hat)); clear hown hgrow hat))
              go_roundg (n2 - (k + 1))
              case measure => have := HLT.out; omega
              case rel => exact ⟨k + 1, rfl, HLT.out, by go_num, HNX.out w7 _ _ _ ⟨sa, sb, sc, HF.out, rfl⟩ HO.out.1 HO.out.2.1 HO.out.2.2⟩
            · obtain rfl : n2 = k := by omega
              have hlti : ¬ ((n2 : Int) < (n2 : Int)) := by omega
              obtain ⟨ρ3, O3, cap9, F9, rfl, hc, hP, hR9, hG9⟩ := h1.out
              obtain ⟨p9, hp9⟩ : ∃ p, ρ3 4 = p := ⟨_, rfl⟩
              rw [hp9]
              have z2 : ρ3 2 = p7 ∧ O3 2 = H 2 := ⟨(hP 2 (.inl rfl) (by decide)).1.trans HQ7.out.1, (hP 2 (.inl rfl) (by decide)).2.trans HQ7.out.2⟩
              have z3 : ρ3 3 = p8 ∧ O3 3 = O2 3 := ⟨(hP 3 (.inr (.inl rfl)) (by decide)).1.trans HP8.out, (hP 3 (.inr (.inl rfl)) (by decide)).2⟩
              obtain ⟨G0, G1, G2, hHas⟩ := has_of (p7 := p7) (p8 := p8) (p9 := p9) (by have := HN.out; omega) H7.out.1 H7.out.2 H8.out.1 H8.out.2 hR9 hG9
              have HHas := Lib.hid hHas
              obtain ⟨N, hN⟩ : ∃ N, n0 + 1 + (n1 + 1) + (n2 + 1) = N := ⟨_, rfl⟩
              have HRg : Hid (Rg w Z ⟨p7, p8, p9, H 2, O2 3, O3 4⟩ (fun i => encL (n0 + 1) (n1 + 1) G0 G1 G2 (i % N)) 0 0 0 0 wr (.slice none 0 0) (.slice none 0 0)) :=
                ⟨ρ3, O3, hc.sub (fun r hr => by
                  rcases hr with h | ⟨_, h⟩ | ⟨_, h⟩ | ⟨h1, h2⟩
                  · exact h
                  · omega
                  · omega
                  · omega), ⟨z2.1, z3.1, hp9, z2.2, z3.2, rfl⟩, fun r h1 h2 => by omega, .inl ⟨rfl, rfl⟩, .inl ⟨rfl, rfl⟩, fun h => by omega, by omega, by omega⟩
              have HLEN : Hid (∀ i, 0 < (encL (n0 + 1) (n1 + 1) G0 G1 G2 (i % N)).length ∧ (encL (n0 + 1) (n1 + 1) G0 G1 G2 (i % N)).length ≤ 512) := fun i => encL_length (hHas wr HRg.out.fix) (i % N) (by rw [hN]; exact Nat.mod_lt _ (by omega))
              have HENC : Hid (∀ (w' : World) (k : Nat) (z : Int), z = ((k % N : Nat) : Int) → (w'.heap[p7]? = some (H 2) ∧ w'.heap[p8]? = some (O2 3) ∧ w'.heap[p9]? = some (O3 4)) → Calls Try.prog 41 #[.slice (some ⟨p7, 0, none⟩) (n0 + 1) cap7, .slice (some ⟨p8, 0, none⟩) (n1 + 1) cap8, .slice (some ⟨p9, 0, none⟩) (n2 + 1) cap9, .int .i64 z] w' (OwnPost (encL (n0 + 1) (n1 + 1) G0 G1 G2 (k % N)) w')) := fun w' k z hz hw => by
                subst hz
                exact encoded_any _ _ _ _ _ _ _ _ _ _ _ _ _ _ (HHas.out w' hw) (by rw [hN]; exact Nat.mod_lt _ (by omega))
              have HNB : Hid (N ≤ 1048579 ∧ 0 < N ∧ n0 + 1 + (n1 + 1) + (n2 + 1) = N) := ⟨by have := HN.out; omega, by omega, hN⟩
              generalize H 2 = o7 at *
              generalize O2 3 = o8 at *
              generalize O3 4 = o9 at *
              obtain ⟨L, hL⟩ : ∃ L : Nat → List UInt8, L = fun i => encL (n0 + 1) (n1 + 1) G0 G1 G2 (i % N) := ⟨_, rfl⟩
              have HLL := Lib.hid hL
              clear hL hc hP hR9 hG9 hp9 z2 z3 hHas hN h1 HQ7 HP8 H7 H8 hk hlt HP7 HP4 HHas
              have nb : (n0 : Int) + 1 + ((n1 : Int) + 1) + ((n2 : Int) + 1) = (N : Int) := by have := HNB.out; omega
              have nb0 : (n0 : Int) ≤ 1048576 ∧ (n1 : Int) ≤ 1048576 ∧ (n2 : Int) ≤ 1048576 := by have := HN.out; omega
              obtain ⟨nb1, nb2, nb3⟩ := nb0
              have HNBB := Lib.hid nb
              clear nb
              go_upto_region 17 with (fail)
              rw [HNBB.out]
              have HRG : Hid (Rg w Z ⟨p7, p8, p9, o7, o8, o9⟩ L (2 * 0) 0 0 0 wr (.slice none 0 0) (.slice none 0 0)) := by rw [HLL.out]; exact HRg
              have HLN : Hid (∀ i, 0 < (L i).length ∧ (L i).length ≤ 512) := fun i => by rw [HLL.out]; exact HLEN.out i
              have HLM : Hid (∀ k, N ≤ k → L k = L (k - N)) := fun k hk => by
                rw [HLL.out]
                show encL _ _ _ _ _ _ = encL _ _ _ _ _ _
                rw [Nat.mod_eq_sub_mod hk]
              have HEC : Hid (∀ (w' : World) (k : Nat) (z : Int), z = ((k % N : Nat) : Int) → (w'.heap[p7]? = some o7 ∧ w'.heap[p8]? = some o8 ∧ w'.heap[p9]? = some o9) → Calls Try.prog 41 #[.slice (some ⟨p7, 0, none⟩) (n0 + 1) cap7, .slice (some ⟨p8, 0, none⟩) (n1 + 1) cap8, .slice (some ⟨p9, 0, none⟩) (n2 + 1) cap9, .int .i64 z] w' (OwnPost (L k) w')) := by
                rw [HLL.out]
                exact HENC.out
              clear HRg HLEN HENC HLL
              have nb4 : (N : Int) ≤ 1048579 := by have := HNB.out; omega
              have nb5 : (0 : Int) < (N : Int) := by have := HNB.out; omega
              go_wp2_with fail
              go_loopg [16, 14, 15] (2 * N) (fun gh i v v2 wr => ∃ (k : Nat) (B : Nat), gh = 2 * N - k ∧ k ≤ 2 * N ∧ i = .int .i64 k ∧ Hid (Rg w Z ⟨p7, p8, p9, o7, o8, o9⟩ L (2 * k) k k B wr v v2))
              case atStart => exact ⟨0, 0, rfl, Nat.zero_le _, rfl, HRG⟩
              case round =>
                clear HRG
                obtain ⟨k, B, rfl, hk, rfl, h1⟩ := hrel
                have hk9 : (k : Int) ≤ 2097158 := by have := HNB.out; omega
                have k0 : (0 : Int) ≤ (k : Int) := by omega
                by_cases hlt : k < 2 * N
                · have hlti : (k : Int) < 2 * (N : Int) := by omega
                  have HLT := Lib.hid hlt
                  have HZM : Hid ((k : Int) % (N : Int) = ((k % N : Nat) : Int)) := by first | exact (Int.natCast_emod k N).symm | exact (Int.natCast_mod k N).symm
                  clear hk hlt
                  by_cases hkn : k < N
                  · have hkni : ¬ ((N : Int) ≤ (k : Int)) := by omega
                    clear hkn
                    go_wp2_with fail
                    refine (HEC.out _ k _ HZM.out h1.out.fix).mono ?_
                    rintro e w2 ⟨B2, rfl, hm⟩
                    have h2 := Lib.hid (h1.out.made (l := L k) (by rw [show 2 * k / 2 = k from by omega]) hm.out)
                    clear hm h1
                    have t0 : (((L k).length : Int) == 0) = false := by have := (HLN.out k).1; rw [beq_eq_false_iff_ne]; omega
                    obtain ⟨len, hlen⟩ : ∃ n, (L k).length = n := ⟨_, rfl⟩
                    rw [hlen] at t0 ⊢
                    have HL1 := Lib.hid hlen
                    clear hlen
                    have h3 := Lib.hid (h2.out.step ((Below.refl _ _).alloc (Nat.le_refl _) (.cells #[.slice (some ⟨B2, 0, none⟩) len len] 34)))
                    obtain ⟨xs3, hxs3, hnext3⟩ := h3.out.own14 rfl
                    have HX3 := Lib.hid hxs3
                    have HN3 := Lib.hid hnext3
                    have C1 : Hid (∀ j u, [Value.slice (some ⟨B2, 0, none⟩) len len][j]? = some u → (w2.alloc (.cells #[.slice (some ⟨B2, 0, none⟩) len len] 34)).cell? ((⟨w2.heap.size, 0, none⟩ : Addr).add j) = some u) := World.news_of_block (Blk.new w2 _ _)
                    have C2 : Hid (∀ B2 : Nat, ∀ u ∈ [Value.slice (some ⟨B2, 0, none⟩) len len], u.oneCell' = true) := fun B2 u hu => by
                      simp at hu
                      subst hu
                      rfl
                    have C3 : Hid (k + 1 ≤ maxLen) := by have := HLT.out; have := HNB.out; show _ ≤ _; unfold maxLen; omega
                    have C4 : Hid ((k + 1) * 24 ≤ 140737488355328) := by have := HLT.out; have := HNB.out; show _ ≤ _; omega
                    clear hxs3 hnext3 h2 h3
                    go_upto_region 26 with (first | (at_builtin; go_loud (refine wpList_append_lies _ rfl (.tmp 117) (.tmp 119) 32 rfl 0 34 i34 (.slice none 0 0) 1 24 Try.underlying32 HE.out.1 HE.out.2.1 HE.out.2.2.1 HE.out.2.2.2 rfl (by decide) u14 k xs3 rfl HX3.out ⟨w2.heap.size, 0, none⟩ 1 1 [Value.slice (some ⟨B2, 0, none⟩) len len] rfl rfl C1.out (C2.out B2) (by decide) C3.out C4.out (Nat.zero_le _) _ rfl ?_); intro gb cb w7 hown hgrow hat _; have HO := Lib.hid (And.intro hown (And.intro hgrow hat)); clear hown hgrow hat))
                    have h5 := Lib.hid (HN3.out w7 gb cb (by show World.ownsRow _ _ _ _ _ _ (xs3 ++ [Value.slice (some ⟨B2, 0, none⟩) (L k).length (L k).length]); rw [HL1.out]; exact HO.out.1) HO.out.2.1 HO.out.2.2)
                    clear HO HN3 HX3 C1
                    have HBY : Hid (Bytes w7 (some ⟨B2, 0, none⟩) (L k)) := by
                      have h := h5.out.last
                      rw [show 2 * k / 2 = k from by omega] at h
                      exact Bytes.own' h
                    go_wp2_with fail
                    refine (tight_len (some ⟨B2, 0, none⟩) len len (L k) w7 HL1.out (by have := (HLN.out k).2; have := HL1.out; omega) HBY).mono ?_
                    rintro e w8 ⟨B3, rfl, hm⟩
                    have h6 := Lib.hid (h5.out.made (l := L k) (by rw [show (2 * k + 1) / 2 = k from by omega]) hm)
                    have h7 := Lib.hid (h6.out.step ((Below.refl _ _).alloc (Nat.le_refl _) (.cells #[.slice (some ⟨B3, 0, none⟩) len len] 34)))
                    obtain ⟨xs3, hxs3, hnext3⟩ := h7.out.own15 rfl
                    have HX3 := Lib.hid hxs3
                    have HN3 := Lib.hid hnext3
                    have C1 : Hid (∀ j u, [Value.slice (some ⟨B3, 0, none⟩) len len][j]? = some u → (w8.alloc (.cells #[.slice (some ⟨B3, 0, none⟩) len len] 34)).cell? ((⟨w8.heap.size, 0, none⟩ : Addr).add j) = some u) := World.news_of_block (Blk.new w8 _ _)
                    clear hxs3 hnext3 h5 h6 h7 hm HBY
                    go_wp2_with (first | (at_builtin; go_loud (refine wpList_append_lies _ rfl (.tmp 121) (.tmp 124) 32 rfl 0 34 i34 (.slice none 0 0) 1 24 Try.underlying32 HE.out.1 HE.out.2.1 HE.out.2.2.1 HE.out.2.2.2 rfl (by decide) u15 k xs3 rfl HX3.out ⟨w8.heap.size, 0, none⟩ 1 1 [Value.slice (some ⟨B3, 0, none⟩) len len] rfl rfl C1.out (C2.out B3) (by decide) C3.out C4.out (Nat.zero_le _) _ rfl ?_); intro gc cc w9 hown hgrow hat _; have HO := Lib.hid (And.intro hown (And.intro hgrow hat)); clear hown hgrow hat))
                    have h8 := Lib.hid (HN3.out w9 gc cc (by show World.ownsRow _ _ _ _ _ _ (xs3 ++ [Value.slice (some ⟨B3, 0, none⟩) (L k).length (L k).length]); rw [HL1.out]; exact HO.out.1) HO.out.2.1 HO.out.2.2)
                    go_roundg (2 * N - (k + 1))
                    case measure => have := HLT.out; omega
                    case rel => exact ⟨k + 1, B3, rfl, HLT.out, by go_num, h8⟩
                  · obtain ⟨q, hq⟩ : ∃ q, k = N + q := ⟨k - N, by omega⟩
                    have hkni : (N : Int) ≤ (k : Int) := by omega
                    have hkq : (k : Int) - (N : Int) = (q : Int) := by omega
                    have q0 : (0 : Int) ≤ (q : Int) := by omega
                    have q1 : (q : Int) < (k : Int) := by have := HNB.out; omega
                    have HLQ : Hid (L q = L k) := by
                      show _ = _
                      rw [HLM.out k (by omega), hq, Nat.add_sub_cancel_left]
                    obtain ⟨p1, cap1, CQ, rfl, hcw, hbw⟩ := h1.out.was (j := q) (by have := HNB.out; omega)
                    have HCW := Lib.hid hcw
                    clear hkn hq hcw
                    go_wp2_with fail
                    refine (HEC.out _ k _ HZM.out h1.out.fix).mono ?_
                    rintro e w2 ⟨B2, rfl, hm⟩
                    have h2 := Lib.hid (h1.out.made (l := L k) (by rw [show 2 * k / 2 = k from by omega]) hm.out)
                    have t0 : (((L k).length : Int) == 0) = false := by have := (HLN.out k).1; rw [beq_eq_false_iff_ne]; omega
                    have hc2 : w2.cell? ⟨p1, q, none⟩ = some (lv CQ (L q)) := (hm.out.2.1.cell (World.block_lt_of_cell? _ _ HCW.out)).trans HCW.out
                    have HBQ : Hid (Bytes w2 (some ⟨CQ, 0, none⟩) (L q)) := hbw.out.below hm.out.2.1
                    have HBB : Hid (Bytes w2 (some ⟨B2, 0, none⟩) (L k)) := Bytes.own' hm.out.2.2
                    unfold lv at hc2
                    rw [HLQ.out] at hc2
                    clear hm h1 hbw HCW
                    go_wp2_with fail
                    refine (Forms.same_li (some ⟨B2, 0, none⟩) (some ⟨CQ, 0, none⟩) _ _ (L k).length (L k).length (L k) (L q) _ rfl (by rw [HLQ.out]) (by have := (HLN.out k).2; omega) HLQ.out HBB HBQ).mono ?_
                    rintro e w3 ⟨rfl, hs⟩
                    have h2 := Lib.hid (h2.out.step (hs.below _))
                    clear hs HBQ HBB hc2
                    obtain ⟨len, hlen⟩ : ∃ n, (L k).length = n := ⟨_, rfl⟩
                    rw [hlen] at t0 ⊢
                    have HL1 := Lib.hid hlen
                    clear hlen
                    have h3 := Lib.hid (h2.out.step ((Below.refl _ _).alloc (Nat.le_refl _) (.cells #[.slice (some ⟨B2, 0, none⟩) len len] 34)))
                    obtain ⟨xs3, hxs3, hnext3⟩ := h3.out.own14 rfl
                    have HX3 := Lib.hid hxs3
                    have HN3 := Lib.hid hnext3
                    have C1 : Hid (∀ j u, [Value.slice (some ⟨B2, 0, none⟩) len len][j]? = some u → (w3.alloc (.cells #[.slice (some ⟨B2, 0, none⟩) len len] 34)).cell? ((⟨w3.heap.size, 0, none⟩ : Addr).add j) = some u) := World.news_of_block (Blk.new w3 _ _)
                    have C2 : Hid (∀ B2 : Nat, ∀ u ∈ [Value.slice (some ⟨B2, 0, none⟩) len len], u.oneCell' = true) := fun B2 u hu => by
                      simp at hu
                      subst hu
                      rfl
                    have C3 : Hid (k + 1 ≤ maxLen) := by have := HLT.out; have := HNB.out; show _ ≤ _; unfold maxLen; omega
                    have C4 : Hid ((k + 1) * 24 ≤ 140737488355328) := by have := HLT.out; have := HNB.out; show _ ≤ _; omega
                    clear hxs3 hnext3 h2 h3
                    go_upto_region 26 with (first | (at_builtin; go_loud (refine wpList_append_lies _ rfl (.tmp 117) (.tmp 119) 32 rfl 0 34 i34 (.slice none 0 0) 1 24 Try.underlying32 HE.out.1 HE.out.2.1 HE.out.2.2.1 HE.out.2.2.2 rfl (by decide) u14 k xs3 rfl HX3.out ⟨w3.heap.size, 0, none⟩ 1 1 [Value.slice (some ⟨B2, 0, none⟩) len len] rfl rfl C1.out (C2.out B2) (by decide) C3.out C4.out (Nat.zero_le _) _ rfl ?_); intro gb cb w7 hown hgrow hat _; have HO := Lib.hid (And.intro hown (And.intro hgrow hat)); clear hown hgrow hat))
                    have h5 := Lib.hid (HN3.out w7 gb cb (by show World.ownsRow _ _ _ _ _ _ (xs3 ++ [Value.slice (some ⟨B2, 0, none⟩) (L k).length (L k).length]); rw [HL1.out]; exact HO.out.1) HO.out.2.1 HO.out.2.2)
                    clear HO HN3 HX3 C1
                    have HBY : Hid (Bytes w7 (some ⟨B2, 0, none⟩) (L k)) := by
                      have h := h5.out.last
                      rw [show 2 * k / 2 = k from by omega] at h
                      exact Bytes.own' h
                    go_wp2_with fail
                    refine (tight_len (some ⟨B2, 0, none⟩) len len (L k) w7 HL1.out (by have := (HLN.out k).2; have := HL1.out; omega) HBY).mono ?_
                    rintro e w8 ⟨B3, rfl, hm⟩
                    have h6 := Lib.hid (h5.out.made (l := L k) (by rw [show (2 * k + 1) / 2 = k from by omega]) hm)
                    have h7 := Lib.hid (h6.out.step ((Below.refl _ _).alloc (Nat.le_refl _) (.cells #[.slice (some ⟨B3, 0, none⟩) len len] 34)))
                    obtain ⟨xs3, hxs3, hnext3⟩ := h7.out.own15 rfl
                    have HX3 := Lib.hid hxs3
                    have HN3 := Lib.hid hnext3
                    have C1 : Hid (∀ j u, [Value.slice (some ⟨B3, 0, none⟩) len len][j]? = some u → (w8.alloc (.cells #[.slice (some ⟨B3, 0, none⟩) len len] 34)).cell? ((⟨w8.heap.size, 0, none⟩ : Addr).add j) = some u) := World.news_of_block (Blk.new w8 _ _)
                    clear hxs3 hnext3 h5 h6 h7 hm HBY
                    go_wp2_with (first | (at_builtin; go_loud (refine wpList_append_lies _ rfl (.tmp 121) (.tmp 124) 32 rfl 0 34 i34 (.slice none 0 0) 1 24 Try.underlying32 HE.out.1 HE.out.2.1 HE.out.2.2.1 HE.out.2.2.2 rfl (by decide) (.slice (some ⟨p1, 0, none⟩) k cap1) k xs3 rfl HX3.out ⟨w8.heap.size, 0, none⟩ 1 1 [Value.slice (some ⟨B3, 0, none⟩) len len] rfl rfl C1.out (C2.out B3) (by decide) C3.out C4.out (Nat.zero_le _) _ rfl ?_); intro gc cc w9 hown hgrow hat _; have HO := Lib.hid (And.intro hown (And.intro hgrow hat)); clear hown hgrow hat))
                    have h8 := Lib.hid (HN3.out w9 gc cc (by show World.ownsRow _ _ _ _ _ _ (xs3 ++ [Value.slice (some ⟨B3, 0, none⟩) (L k).length (L k).length]); rw [HL1.out]; exact HO.out.1) HO.out.2.1 HO.out.2.2)
                    go_roundg (2 * N - (k + 1))
                    case measure => have := HLT.out; omega
                    case rel => exact ⟨k + 1, B3, rfl, HLT.out, by go_num, h8⟩
                · have hlti : ¬ ((k : Int) < 2 * (N : Int)) := by omega
                  obtain ⟨gK, c, p1, cp1, Bf, rfl, rfl, hp, hkp, hfl, hfin⟩ := h1.out.done (by have := HNB.out; omega) (by have := HNB.out; omega) (fun j _ => (HLN.out j).2)
                  have HG := Lib.hid (grown_any gK k c Bf L wr hp hkp hfl)
                  have HFIN := Lib.hid hfin
                  have HK2 : Hid (N ≤ k) := by show _ ≤ _; omega
                  clear hp hkp hfl hfin h1 hk hlt
                  go_wp2_with fail
                  refine HG.out.mono ?_
                  rintro e w2 ⟨rfl, hch⟩
                  have h2 := Lib.hid (HFIN.out w2 hch.out)
                  clear HG HFIN hch
                  go_wp2_with fail
                  go_loopg [19] N (fun gh i wr => ∃ (j : Nat), gh = N - j ∧ j ≤ N ∧ i = .int .i64 j ∧ Hid (Fin w Z ⟨p7, p8, p9, o7, o8, o9⟩ L k wr p1))
                  case atStart => exact ⟨0, rfl, Nat.zero_le _, rfl, h2⟩
                  case round =>
                    clear h2 w2
                    obtain ⟨j, rfl, hj, rfl, h1⟩ := hrel
                    have hj9 : (j : Int) ≤ 1048579 := by have := HNB.out; omega
                    have j0 : (0 : Int) ≤ (j : Int) := by omega
                    by_cases hlt : j < N
                    · have hltj : (j : Int) < (N : Int) := by omega
                      have hltk : (j : Int) < (k : Int) := by have := HK2.out; omega
                      have HLT := Lib.hid hlt
                      have HZJ : Hid ((j : Int) = ((j % N : Nat) : Int)) := by show _ = _; rw [Nat.mod_eq_of_lt hlt]
                      clear hj hlt
                      go_wp2_with fail
                      refine (HEC.out _ j _ HZJ.out h1.out.fix).mono ?_
                      rintro e w3 ⟨B2, rfl, hm⟩
                      have h3 := Lib.hid (h1.out.step hm.out.2.1)
                      obtain ⟨CQ, hc2, hbq⟩ := h3.out.was j (by have := HLT.out; have := HK2.out; omega)
                      have HBQ := Lib.hid hbq
                      have HBB : Hid (Bytes w3 (some ⟨B2, 0, none⟩) (L j)) := Bytes.own' hm.out.2.2
                      unfold lv at hc2
                      clear hm h1 hbq
                      go_wp2_with fail
                      refine (Forms.same_li (some ⟨B2, 0, none⟩) (some ⟨CQ, 0, none⟩) _ _ (L j).length (L j).length (L j) (L j) _ rfl rfl (by have := (HLN.out j).2; omega) rfl HBB HBQ).mono ?_
                      rintro e w4 ⟨rfl, hs⟩
                      have h4 := Lib.hid (h3.out.step (hs.below _))
                      clear hs HBQ HBB hc2 h3
                      go_wp2_with fail
                      go_roundg (N - (j + 1))
                      case measure => have := HLT.out; omega
                      case rel => exact ⟨j + 1, rfl, HLT.out, by go_num, h4⟩
                    · obtain rfl : N = j := by omega
                      have hltj : ¬ ((N : Int) < (N : Int)) := by omega
                      go_wp2_with fail
                      go_ret
                      exact ⟨rfl, h1.out.below⟩
end Go.Proofs.Ytefmihbjboacdaa.OwnB
/- The frame of a law's row over arguments of small bulk: where every call answers true and leaves all that was there as it was, the given statement holds. -/
namespace Go.Proofs.Ytefmihbjboacdaa.FrameUp
open Go.ChangeShapes Go.WideShapes Go.ChangeAt Go.RowKit
open Go.Proofs.Ytefmihbjboacdaa.Frame
set_option linter.unusedVariables false

set_option maxRecDepth 100000 in
theorem lifted {f : FuncId} {fn : Func} {s : ChangeSpec} {conds : List PathCond} (os : Os) (started : os.Started) (H : Type) (enc : TypeId × Value → H) (F0 : Stop.Interp)
    (noInit : Try.prog.inits.idxOf? f = none) (hfn : Try.prog.funcs[f]? = some fn)
    (witness : ∃ (w : World) (tape : Tape) (i : Input), w.os = os ∧ (w.forCall tape i).Shaped Try.prog ∧ i.vars = [] ∧ Input.okWide Try.prog (w.forCall tape i) .any w.heap.size f i ∧
      (Rows.OpenSpec.upto s).pre6 enc Try.prog fn conds false (w.forCall tape i).memory i.args ∧ Assume.holds {} Try.prog (lone (Frame.enter Try.prog f i.args .normal) [] (w.forCall tape i)))
    (hvars : s.vars = []) (hread : fn.params.toList.all (fun t => Try.prog.readableRec t && decide (t < Try.prog.types.size)) = true) (hres : fn.resultTypes = #[4])
    (hspec : ∀ ds : List (DataW H), ds.length = fn.params.toList.length → s.fn H (ds ++ []) = { results := [.lit (.bool true)], args := ds })
    (contract : ∀ (W : World) (base : Nat) (args : Array Value) (ds : List (DataW H)) (ps : List MemPlace),
      (∀ (j : Nat) t v, fn.params[j]? = some t → args[j]? = some v → Value.okWide Try.prog W .any base t v) →
      DataW.TrodAll enc Try.prog W 0 (fun _ => true) true fn.params.toList args.toList ds ps →
      Rows.uptoBulkAll ds ≤ 1048576 →
      W.noneFrozen ps →
      Calls Try.prog f args W fun e W' => e = .returned (.bool true) ∧ Below W.heap.size W W') :
    ReturnsInHanded {} Try.checked os f .any ((Rows.OpenSpec.upto s).pre6 enc Try.prog fn conds false) (((Rows.OpenSpec.upto s).at F0).post enc Try.prog fn false true false false) := by
  refine returnsInHanded_of_cond_sized (C := Try.checked) (s := Rows.OpenSpec.upto s) (k := Rows.uptoSmall) rfl own started noInit hfn witness ?_
  intro W base args ds gs before hval0 hW hcnd hk hsz0 _
  have hval : ∀ (j : Nat) t v, fn.params[j]? = some t → args[j]? = some v → Value.okWide Try.prog W .any base t v := hval0
  have hW' := hW
  obtain ⟨p, q, hA0, hV, rfl, hfz, hnd⟩ := hW
  have hV : DataW.TrodVars enc Try.prog W (fun _ => true) s.vars gs q := hV
  rw [hvars] at hV
  obtain ⟨rfl, rfl⟩ := trodVars_none hV
  have hA : DataW.TrodAll enc Try.prog W 0 (fun _ => true) true fn.params.toList args.toList ds p := hA0
  have hlen := (trodAll_length _ _ _ _ hA).1
  have hk2 : Rows.uptoBulkAll ds ≤ 1048576 := by
    have h := of_decide_eq_true hk
    rwa [List.append_nil] at h
  refine (contract W base args ds p hval hA hk2 (fun b off h => hfz b off (by simp [h]))).mono fun e W' ⟨he, bel⟩ => ?_
  subst he
  have hback := trodAll_below laidOut bel fn.params.toList (reads_of_all hread) _ _ _ hA
  have e1 := hspec ds hlen
  refine ⟨_, rfl, ds, [], _, [], p, [], hW', ?_, ?_, ?_, bel.frame _, fun h => by cases h⟩
  · rw [show ((Rows.OpenSpec.upto s).at F0).fn H (ds ++ []) = _ from e1, hres]
    exact trodAll_mk1 (shut_bool Try.underlying4 _)
  · rw [show ((Rows.OpenSpec.upto s).at F0).fn H (ds ++ []) = _ from e1]
    exact hback
  · rw [show ((Rows.OpenSpec.upto s).at F0).fn H (ds ++ []) = _ from e1, show ((Rows.OpenSpec.upto s).at F0).vars = [] from hvars]
    exact rfl
end Go.Proofs.Ytefmihbjboacdaa.FrameUp
/- CodecOwn, where what it reads is of bulk at most 1048576: what an encoder answers is new memory, spare room too. -/
namespace Go.Proofs.Ytefmihbjboacdaa.codecOwnUpto
open Go.ChangeShapes Go.WideShapes Go.ChangeAt Go.RowKit Go.Deep
open Go.Proofs.Ytefmihbjboacdaa.Structs Go.Proofs.Ytefmihbjboacdaa.NodeLay
set_option linter.unusedVariables false

theorem bulk_pos {H : Type} (d : DataW H) : 1 ≤ Rows.uptoBulk d := by
  cases d with
  | lit l => cases l <;> simp [Rows.uptoBulk]
  | _ => simp [Rows.uptoBulk]
theorem bulkAll_length {H : Type} (l : List (DataW H)) : l.length ≤ Rows.uptoBulkAll l := by
  induction l with
  | nil => simp
  | cons d r ih =>
    have := bulk_pos d
    simp only [List.length_cons, Rows.uptoBulkAll]
    omega
theorem len_le {H : Type} {enc : TypeId × Value → H} {W : World} {t e : TypeId} {A : Option Addr} {n c : Nat} {d : DataW H} {p : List MemPlace} (hu : Try.prog.underlying t = some (.slice e))
    (h : DataW.Trod enc Try.prog W 0 (fun _ => true) true t (.slice A n c) d p) : n ≤ Rows.uptoBulk d := by
  obtain ⟨fuel, hf⟩ := h
  rcases open_slice hu hf with ⟨hcs, _⟩ | ⟨a, len, cap, m, n', D, Pl, hcs, _, hl, hm, hmm, hx, hi⟩
  · simp [Value.cells] at hcs
    omega
  · simp [Value.cells] at hcs
    obtain ⟨rfl, rfl, rfl⟩ := hcs
    have hd : d = _ := congrArg Prod.fst hx
    rw [hd]
    simp only [Rows.uptoBulk]
    have := bulkAll_length ((List.range n).map D)
    rw [List.length_map, List.length_range] at this
    omega
section
variable {H : Type} {enc : TypeId × Value → H} {W : World}
theorem int_field {n o : Nat} {cs : List Value} {y : Option (DataW H × List MemPlace)} (h : DataW.trod enc Try.prog W 0 (fun _ => true) true n 3 ((cs.drop o).take (Try.prog.cellsOf 3)) = y) (hy : y.isSome = true) : ∃ z : Int, cs[o]? = some (.int .i64 z) := by
  obtain ⟨x, rfl⟩ := Option.isSome_iff_exists.1 hy
  rw [show Try.prog.cellsOf 3 = 1 from by kernel_rfl] at h
  obtain ⟨z, e, _, _⟩ := DataW.trod_int Try.underlying3 h
  refine ⟨z, ?_⟩
  have h0 := congrArg (fun l => l[0]?) e
  simpa using h0
set_option maxRecDepth 100000 in
theorem node_cells {n : Nat} {cs : List Value} {x : DataW H × List MemPlace} (h : DataW.trod enc Try.prog W 0 (fun _ => true) true n 51 cs = some x) : ∃ f : Nat → Int, ∀ (j : Nat) (v : Value), (ncs f).toList[j]? = some v → cs[j]? = some v := by
  obtain ⟨xs, m, _, _, hlen, hxl, hf⟩ := DataW.trod_struct Try.underlying51 h
  have hsz : xs.length = 8 := hxl
  have hs : ∀ i, i < 8 → (xs[i]?).isSome = true := fun i hi => by rw [List.getElem?_eq_getElem (by omega)]; rfl
  obtain ⟨z0, e0⟩ := int_field (o := 0) (hf 0 _ rfl) (hs 0 (by decide))
  obtain ⟨z1, e1⟩ := int_field (o := 1) (hf 1 _ rfl) (hs 1 (by decide))
  obtain ⟨z2, e2⟩ := int_field (o := 2) (hf 2 _ rfl) (hs 2 (by decide))
  obtain ⟨z3, e3⟩ := int_field (o := 3) (hf 3 _ rfl) (hs 3 (by decide))
  obtain ⟨z4, e4⟩ := int_field (o := 4) (hf 4 _ rfl) (hs 4 (by decide))
  obtain ⟨z15, e15⟩ := int_field (o := 15) (hf 6 _ rfl) (hs 6 (by decide))
  obtain ⟨z16, e16⟩ := int_field (o := 16) (hf 7 _ rfl) (hs 7 (by decide))
  have h5 := hf 5 _ rfl
  obtain ⟨y5, hy5⟩ := Option.isSome_iff_exists.1 (hs 5 (by decide))
  rw [hy5] at h5
  obtain ⟨ys, m2, _, _, _, hyl, hel⟩ := DataW.trod_array (n := 10) (e := 3) Try.underlying49 h5
  have hd : ∀ i, ∃ z : Int, i < 10 → cs[5 + i]? = some (.int .i64 z) := fun i => by
    by_cases hi : i < 10
    · obtain ⟨z, hz⟩ := int_field (o := i * Try.prog.cellsOf 3) (hel i hi) (by rw [List.getElem?_eq_getElem (by omega)]; rfl)
      rw [show Try.prog.cellsOf 3 = 1 from by kernel_rfl, Nat.mul_one] at hz
      refine ⟨z, fun _ => ?_⟩
      rw [List.getElem?_take] at hz
      split at hz
      · rw [List.getElem?_drop] at hz
        exact hz
      · cases hz
    · exact ⟨0, fun h => absurd h hi⟩
  refine ⟨fun k => if k = 0 then z0 else if k = 1 then z1 else if k = 2 then z2 else if k = 3 then z3 else if k = 4 then z4 else if k = 15 then z15 else if k = 16 then z16 else (hd (k - 5)).choose, fun j v hj => ?_⟩
  have hj17 : j < 17 := (List.getElem?_eq_some_iff.1 hj).1
  have hv := ncs_get (fun k => if k = 0 then z0 else if k = 1 then z1 else if k = 2 then z2 else if k = 3 then z3 else if k = 4 then z4 else if k = 15 then z15 else if k = 16 then z16 else (hd (k - 5)).choose) j hj17
  rw [Array.getElem?_toList] at hj
  rw [hj] at hv
  rw [Option.some.inj hv]
  clear hj hv
  match j, hj17 with
  | 0, _ => exact e0
  | 1, _ => exact e1
  | 2, _ => exact e2
  | 3, _ => exact e3
  | 4, _ => exact e4
  | k + 5, hk =>
    by_cases h15 : k = 10
    · subst h15; exact e15
    by_cases h16 : k = 11
    · subst h16; exact e16
    have hk10 : k < 10 := by omega
    have := (hd k).choose_spec hk10
    simp only [show ¬ k + 5 = 0 by omega, show ¬ k + 5 = 1 by omega, show ¬ k + 5 = 2 by omega, show ¬ k + 5 = 3 by omega, show ¬ k + 5 = 4 by omega, show ¬ k + 5 = 15 by omega, show ¬ k + 5 = 16 by omega, if_false, Nat.add_sub_cancel]
    exact (congrArg (fun i => cs[i]?) (Nat.add_comm k 5)).trans this
set_option maxRecDepth 100000 in
theorem nodes_of {base : Nat} {v : Value} {d : DataW H} {p : List MemPlace}
    (hv : Value.okWide Try.prog W .any base 48 v) (h : DataW.Trod enc Try.prog W 0 (fun _ => true) true 48 v d p) :
    ∃ A n c g, v = .slice A n c ∧ n ≤ 9223372036854775807 ∧ NodeCells.Nodes W A n g := by
  obtain ⟨A, n, c, rfl⟩ := okWide_slice Try.underlying48 hv
  obtain ⟨fuel, hf⟩ := h
  rcases open_slice Try.underlying48 hf with ⟨hcs, _⟩ | ⟨a, len, cap, m, n', D, Pl, hcs, _, hl, hm, hmm, hx, hi⟩
  · simp [Value.cells] at hcs
    obtain ⟨rfl, rfl, rfl⟩ := hcs
    exact ⟨none, 0, 0, fun _ _ => 0, rfl, by omega, fun i h => absurd h (Nat.not_lt_zero i)⟩
  · simp [Value.cells] at hcs
    obtain ⟨rfl, rfl, rfl⟩ := hcs
    simp at hmm
    subst hmm
    have hC : Try.prog.cellsOf 51 = 17 := by kernel_rfl
    have key : ∀ i, ∃ f : Nat → Int, i < n → ∀ (j : Nat) (v : Value), (ncs f).toList[j]? = some v → W.cell? ((a.add (i * 17)).add j) = some v := by
      intro i
      by_cases hlt : i < n
      · obtain ⟨cs', hcell, htr⟩ := hi i (by omega)
        rw [hC] at hcell
        obtain ⟨f, hfc⟩ := node_cells htr
        obtain ⟨_, hcl, hat⟩ := World.cells?_some hcell
        refine ⟨f, fun _ j v hj => ?_⟩
        have hj17 : j < 17 := (List.getElem?_eq_some_iff.1 hj).1
        rw [hat j hj17]
        exact hfc j v hj
      · exact ⟨fun _ => 0, fun h => absurd h hlt⟩
    exact ⟨some a, n, _, fun i => (key i).choose, rfl, by unfold maxLen at hm; omega, fun i h => ⟨a, rfl, (key i).choose_spec h⟩⟩
end

set_option maxRecDepth 100000 in
theorem entries_of {H : Type} {enc : TypeId × Value → H} {W : World} {base : Nat} {v : Value} {d : DataW H} {p : List MemPlace}
    (hv : Value.okWide Try.prog W .any base 59 v) (h : DataW.Trod enc Try.prog W 0 (fun _ => true) true 59 v d p) :
    ∃ A n c g, v = .slice A n c ∧ n ≤ 9223372036854775807 ∧ BackLaw.Ents W A n g := by
  obtain ⟨A, n, c, rfl⟩ := okWide_slice Try.underlying59 hv
  obtain ⟨fuel, hf⟩ := h
  rcases open_slice_fields Try.underlying59 Try.underlying61 (by kernel_rfl) (by kernel_rfl) hf with ⟨hcs, _⟩ | ⟨a, len, cap, m, D, Pl, hcs, _, hl, hm, hmm, hx, hi⟩
  · simp [Value.cells] at hcs
    obtain ⟨rfl, rfl, rfl⟩ := hcs
    exact ⟨none, 0, 0, fun _ => (0, 0, ⟨#[]⟩, 0), rfl, by omega, fun i h => by omega⟩
  · simp [Value.cells] at hcs
    obtain ⟨rfl, rfl, rfl⟩ := hcs
    simp at hmm
    subst hmm
    have key : ∀ i, ∃ q : Int × Int × ByteArray × Int, i < n → W.cell? (a.add (i * 4)) = some (.int .i64 q.1) ∧ W.cell? ⟨(a.add (i * 4)).block, (a.add (i * 4)).off + 1, none⟩ = some (.int .i64 q.2.1) ∧ W.cell? ⟨(a.add (i * 4)).block, (a.add (i * 4)).off + 2, none⟩ = some (.string q.2.2.1) ∧ W.cell? ⟨(a.add (i * 4)).block, (a.add (i * 4)).off + 3, none⟩ = some (.int .i64 q.2.2.2) := by
      intro i
      by_cases hlt : i < n
      · obtain ⟨ys, n', _, _, _, hfld⟩ := hi i (by omega)
        obtain ⟨v0, y0, hc0, _, ht0⟩ := hfld 0 _ rfl
        obtain ⟨v1, y1, hc1, _, ht1⟩ := hfld 1 _ rfl
        obtain ⟨v2, y2, hc2, _, ht2⟩ := hfld 2 _ rfl
        obtain ⟨v3, y3, hc3, _, ht3⟩ := hfld 3 _ rfl
        obtain ⟨z0, e0, _, _⟩ := DataW.trod_int Try.underlying3 ht0
        obtain ⟨z1, e1, _, _⟩ := DataW.trod_int Try.underlying3 ht1
        obtain ⟨z2, e2, _, _⟩ := DataW.trod_string Try.underlying9 ht2
        obtain ⟨z3, e3, _, _⟩ := DataW.trod_int Try.underlying3 ht3
        simp at e0 e1 e2 e3
        subst e0 e1 e2 e3
        exact ⟨(z0, z1, z2, z3), fun _ => ⟨hc0, (cell_add W a _ 1 (by omega)).symm.trans hc1, (cell_add W a _ 2 (by omega)).symm.trans hc2, (cell_add W a _ 3 (by omega)).symm.trans hc3⟩⟩
      · exact ⟨(0, 0, ⟨#[]⟩, 0), fun h => absurd h hlt⟩
    refine ⟨some a, n, _, fun i => (key i).choose, rfl, by unfold maxLen at hm; omega, fun i h => ⟨a, rfl, (key i).choose_spec h⟩⟩

set_option maxRecDepth 100000 in
theorem supers_of {H : Type} {enc : TypeId × Value → H} {W : World} {base : Nat} {v : Value} {d : DataW H} {p : List MemPlace}
    (hv : Value.okWide Try.prog W .any base 23 v) (h : DataW.Trod enc Try.prog W 0 (fun _ => true) true 23 v d p) :
    ∃ A n c g, v = .slice A n c ∧ n ≤ 9223372036854775807 ∧ PlansLaw.Supers W A n g := by
  obtain ⟨A, n, c, rfl⟩ := okWide_slice Try.underlying23 hv
  obtain ⟨fuel, hf⟩ := h
  rcases open_slice_fields Try.underlying23 Try.underlying30 (by kernel_rfl) (by kernel_rfl) hf with ⟨hcs, _⟩ | ⟨a, len, cap, m, D, Pl, hcs, _, hl, hm, hmm, hx, hi⟩
  · simp [Value.cells] at hcs
    obtain ⟨rfl, rfl, rfl⟩ := hcs
    exact ⟨none, 0, 0, fun _ => (0, 0, 0), rfl, by omega, fun i h => by omega⟩
  · simp [Value.cells] at hcs
    obtain ⟨rfl, rfl, rfl⟩ := hcs
    simp at hmm
    subst hmm
    have key : ∀ i, ∃ q : Int × Int × Int, i < n → W.cell? (a.add (i * 3)) = some (.int .i64 q.1) ∧ W.cell? ⟨(a.add (i * 3)).block, (a.add (i * 3)).off + 1, none⟩ = some (.int .i64 q.2.1) ∧ W.cell? ⟨(a.add (i * 3)).block, (a.add (i * 3)).off + 2, none⟩ = some (.int .i64 q.2.2) := by
      intro i
      by_cases hlt : i < n
      · obtain ⟨ys, n', _, _, _, hfld⟩ := hi i (by omega)
        obtain ⟨v0, y0, hc0, _, ht0⟩ := hfld 0 _ rfl
        obtain ⟨v1, y1, hc1, _, ht1⟩ := hfld 1 _ rfl
        obtain ⟨v2, y2, hc2, _, ht2⟩ := hfld 2 _ rfl
        obtain ⟨z0, e0, _, _⟩ := DataW.trod_int Try.underlying3 ht0
        obtain ⟨z1, e1, _, _⟩ := DataW.trod_int Try.underlying3 ht1
        obtain ⟨z2, e2, _, _⟩ := DataW.trod_int Try.underlying3 ht2
        simp at e0 e1 e2
        subst e0 e1 e2
        exact ⟨(z0, z1, z2), fun _ => ⟨hc0, (cell_add W a _ 1 (by omega)).symm.trans hc1, (cell_add W a _ 2 (by omega)).symm.trans hc2⟩⟩
      · exact ⟨(0, 0, 0), fun h => absurd h hlt⟩
    refine ⟨some a, n, _, fun i => (key i).choose, rfl, by unfold maxLen at hm; omega, fun i h => ⟨a, rfl, (key i).choose_spec h⟩⟩

set_option maxRecDepth 100000 in
theorem lifted (os : Os) (started : os.Started) (H : Type) (enc : TypeId × Value → H) (F0 : Stop.Interp) :
    ReturnsInHanded {} Try.checked os 11 .any ((Rows.OpenSpec.upto Rows.codecOwnSpec).pre6 enc Try.prog Try.f11 Rows.codecOwnUptoRow.domain false) (((Rows.OpenSpec.upto Rows.codecOwnSpec).at F0).post enc Try.prog Try.f11 false true false false) := by
  refine FrameUp.lifted os started H enc F0 (by kernel_rfl) Try.func11
    (OpenSpec.witness (enc := enc) (C := Try.checked) (s := Rows.OpenSpec.upto Rows.codecOwnSpec) (k := Rows.uptoSmall) rfl false ⟨#[], #[.slice none 0 0, .slice none 0 0, .slice none 0 0], []⟩ 8 (by kernel_rfl) (by kernel_rfl) (by kernel_rfl)
      (x := ([.nil, .nil, .nil], [], [])) (by kernel_rfl) (by kernel_rfl) (by kernel_rfl)) rfl (by kernel_rfl) (by kernel_rfl)
    (fun ds h => by rw [Try.params11] at h; match ds, h with | [d0, d1, d2], _ => rfl) ?_
  intro W base args ds p hval hA hsz hfz
  rw [Try.params11] at hA hval
  obtain ⟨v0, v1, v2, d0, d1, d2, p0, p1, p2, rfl, rfl, rfl, h0, h1, h2⟩ := trodAll_three hA
  obtain ⟨A0, n0, c0, g0, rfl, hn0, hs0⟩ := nodes_of (hval 0 48 v0 rfl rfl) h0
  obtain ⟨A1, n1, c1, g1, rfl, hn1, hs1⟩ := entries_of (hval 1 59 v1 rfl rfl) h1
  obtain ⟨A2, n2, c2, g2, rfl, hn2, hs2⟩ := supers_of (hval 2 23 v2 rfl rfl) h2
  have b0 := len_le Try.underlying48 h0
  have b1 := len_le Try.underlying59 h1
  have b2 := len_le Try.underlying23 h2
  simp only [Rows.uptoBulkAll] at hsz
  exact OwnB.law_any A0 A1 A2 n0 c0 n1 c1 n2 c2 g0 g1 g2 W (by omega) hs0 hs1 hs2
theorem over : Rows.codecOwnUptoRow.holds Try.pinned (Rows.OpenSpec.upto Rows.codecOwnSpec) :=
  OpenClaim.holds_of_cond 11 Try.f11 rfl rfl rfl rfl rfl rfl rfl ⟨rfl, rfl, rfl, rfl, rfl⟩ rfl rfl rfl rfl rfl (by kernel_rfl) Try.func11 (by kernel_rfl)
    (of_decide_eq_true (by kernel_rfl)) (by unfold Func.isWrapper; first | (rw [if_pos (by decide +kernel)]; kernel_rfl) | (rw [if_neg (by decide +kernel)]; exact ⟨rfl, rfl⟩))
    (fun os started H enc _ F0 => lifted os started H enc F0)
theorem proved : Rows.CodecOwnUptoSaid := over
end Go.Proofs.Ytefmihbjboacdaa.codecOwnUpto
namespace Go.Proofs.Ytefmihbjboacdaa
/-- The row, under a short name, for the claim. -/
theorem codecOwnUpto_holds : Rows.CodecOwnUptoSaid := codecOwnUpto.proved
end Go.Proofs.Ytefmihbjboacdaa
