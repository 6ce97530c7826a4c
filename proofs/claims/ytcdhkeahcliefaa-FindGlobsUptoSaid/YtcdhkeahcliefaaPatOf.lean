/- of: is a text of the compiler's pieces? -/
import Derived.Test.YtcdhkeahcliefaaPatCompile
import Derived.Laws.MakeOwn
import Derived.Deep.MidRow
namespace Go.Proofs.Ytcdhkeahcliefaa.PatOf
open Go.ChangeShapes Go.WideShapes Go.ChangeAt Go.RowKit
open Go.Proofs.Ytcdhkeahcliefaa.Kit Go.Proofs.Ytcdhkeahcliefaa.Pat Go.Proofs.Ytcdhkeahcliefaa.PatA Go.Proofs.Ytcdhkeahcliefaa.PatSet Go.Proofs.Ytcdhkeahcliefaa.PatPiece Go.Proofs.Ytcdhkeahcliefaa.PatCompile
set_option linter.unusedVariables false

def boolsA (n : Nat) (S : Nat → Bool) : Array Value := (bools n S).toArray
theorem boolsA_get (n : Nat) (S : Nat → Bool) (i : Nat) (h : i < n) : (boolsA n S)[i]? = some (.bool (S i)) := by
  unfold boolsA
  rw [List.getElem?_toArray, bools_get n S i h]
theorem boolsA_put (n : Nat) (S : Nat → Bool) (i : Nat) (v : Bool) : (boolsA n S).setIfInBounds i (.bool v) = boolsA n (upd S i v) := by
  unfold boolsA
  rw [List.setIfInBounds_toArray, bools_set]
theorem boolsA_congr {n : Nat} {S S' : Nat → Bool} (h : ∀ i, i < n → S i = S' i) : boolsA n S = boolsA n S' := by
  unfold boolsA
  rw [bools_congr h]
theorem info4 : (Try.prog.info? 4).map (fun i => (i.zero, i.size, i.bytes)) = some (some (.bool false), 1, 1) := by kernel_rfl
theorem make_bools (L : Int) (n : Nat) (hL : L = (n : Int)) (hn : n ≤ 281474976710656) (w : World) :
    (Instr.makeSlice 44 (.int .i64 L) (.int .i64 L)).run Try.prog w = .ok (.slice (some ⟨w.heap.size, 0, none⟩) n n) (w.alloc (.cells (boolsA n fun _ => false) 4)) := by
  obtain ⟨i, hi, hz, hs, hB⟩ := info_parts info4
  subst hL
  have hr := run_make (P := Try.prog) w 44 4 i (.bool false) Try.underlying44 hi hz .i64 .i64 n n (by omega) (Int.le_refl _) (by rw [hB]; omega) (by omega)
  simp only [Int.toNat_natCast] at hr
  rw [hr]
  congr 3
  unfold boolsA bools
  rw [hs, Nat.mul_one]
  apply Array.ext
  · simp [madeCells]
  · intro j h1 h2
    simp [madeCells, Value.cells, Nat.mod_one]
theorem only_row (w : World) (P : Nat) (cs : Array Value) : Only P w (w.setRow P cs) := ⟨rfl, rfl, rfl, by simp [World.setRow], fun k hk => setRow_other _ _ k _ hk⟩
theorem run_load_any {P : Program} (w : World) (a : Addr) (ty : TypeId) (cs : List Value) (d : TypeDesc) (hc : ∀ j v, cs[j]? = some v → w.cell? (a.add j) = some v)
    (hu : P.underlying ty = some d) (hd : d.isRow = true) (hi : (P.info? ty).map (·.size) = some cs.length) :
    (loadVar ty a).run P w = .ok (.agg cs.toArray) w := by
  have hl : (loadCells a cs.length).run P w = .ok cs.toArray w := run_loadCells_list (P := P) w a cs hc
  cases hq : P.info? ty with
  | none => simp [hq] at hi
  | some i =>
    have hs : i.size = cs.length := by simpa [hq] using hi
    have hagg : (isAgg ty).run P w = .ok true w := by
      unfold isAgg
      rw [Sem.run_bind, run_underlying hu w]
      cases d <;> simp_all
    simp [loadVar, Sem.run_bind, hagg, sizeOf, typeInfo, hq, hs, hl]
theorem wp_load_any {P : Program} {op : Oper} {a : Act} {w : World} {K : Act → World → Prop} {Q : Exit → Act → World → Prop} (ty : TypeId) (x : Operand) (ho : op.op = .load ty x)
    (ad : Addr) (hx : a.eval x = .pointer (some ad)) (cs : List Value) (d : TypeDesc) (hc : ∀ j v, cs[j]? = some v → w.cell? (ad.add j) = some v)
    (hu : P.underlying ty = some d) (hd : d.isRow = true) (hi : (P.info? ty).map (·.size) = some cs.length)
    (h : K (a.put op.dst (.agg cs.toArray)) w) : op.wp P a w K Q := by
  unfold Oper.wp execOp
  simp only [ho, hx, Instr.loadAt, Instr.sureAddr, Sem.run_bind, Sem.run_pure, Result.andThen_ok, run_load_any w ad ty cs d hc hu hd hi]
  exact h
/-- a struct read out of a slice -/
theorem wpList_load_any {P : Program} {ops : Array Oper} {rest : List Oper} {op : Oper} {a : Act} {w : World} {Q : Exit → Act → World → Prop} (hgd : op.guard = none) (ty : TypeId) (x : Operand) (ho : op.op = .load ty x)
    (ad : Addr) (hx : a.eval x = .pointer (some ad)) (cs : List Value) (d : TypeDesc) (hc : ∀ j v, cs[j]? = some v → w.cell? (ad.add j) = some v)
    (hu : P.underlying ty = some d) (hd : d.isRow = true) (hi : (P.info? ty).map (·.size) = some cs.length)
    (h : wpList P ops Q rest (a.put op.dst (.agg cs.toArray)) w) : wpList P ops Q (op :: rest) a w :=
  wpList_plain hgd fun _ hK => wp_load_any ty x ho ad hx cs d hc hu hd hi (hK _ _ h)
/-- a piece's cells in the row -/
theorem cells_at {l : List Pc} {k : Nat} (hk : k < l.length) : ∀ (cells : List Value), cellsA l <+: cells → ∀ j v, (rowOf l[k]).toList[j]? = some v → cells[k * 257 + j]? = some v := by
  intro cells hp j v hv
  have hj : j < 257 := by
    have := (List.getElem?_eq_some_iff.1 hv).1
    rw [Array.length_toList, show (rowOf l[k]).size = 257 from rowA_size _ _] at this
    exact this
  have h : (cellsA l)[k * 257 + j]? = some v := by
    clear hp
    induction l generalizing k with
    | nil => exact absurd hk (Nat.not_lt_zero k)
    | cons p l ih =>
      have hpl : (rowOf p).toList.length = 257 := by rw [Array.length_toList]; exact rowA_size _ _
      show ((rowOf p).toList ++ cellsA l)[k * 257 + j]? = some v
      cases k with
      | zero => rw [Nat.zero_mul, Nat.zero_add, List.getElem?_append_left (by omega)]; exact hv
      | succ k =>
        rw [List.getElem?_append_right (by omega), hpl, show (k + 1) * 257 + j - 257 = k * 257 + j from by omega]
        exact ih (by simpa using hk) hv
  obtain ⟨r, rfl⟩ := hp
  rw [List.getElem?_append_left (List.getElem?_eq_some_iff.1 h).1]
  exact h

def cutLe (i : Nat) (f : Nat → Bool) : Nat → Bool := fun j => decide (j ≤ i) && f j
def cutLt (i : Nat) (f : Nat → Bool) : Nat → Bool := fun j => decide (j < i) && f j
theorem cutLe_start {f : Nat → Bool} (h : f 0 = false) : (fun _ => false) = cutLe 0 f := by
  funext j
  unfold cutLe
  by_cases hj : j = 0
  · subst hj; simp [h]
  · simp; omega
theorem cutLe_set {i : Nat} {f : Nat → Bool} (h : f (i + 1) = true) : upd (cutLe i f) (i + 1) true = cutLe (i + 1) f := by
  funext j
  unfold upd cutLe
  by_cases hj : j = i + 1
  · subst hj; simp [h]
  · rw [if_neg hj]
    congr 1
    apply decide_eq_decide.2
    omega
theorem cutLe_pass {i : Nat} {f : Nat → Bool} (h : f (i + 1) = false) : cutLe i f = cutLe (i + 1) f := by
  funext j
  unfold cutLe
  by_cases hj : j = i + 1
  · subst hj; simp [h]
  · congr 1
    apply decide_eq_decide.2
    omega
theorem cutLt_start {f : Nat → Bool} : (fun _ => false) = cutLt 0 f := by
  funext j
  simp [cutLt]
theorem cutLt_set {i : Nat} {f : Nat → Bool} (h : f i = true) : upd (cutLt i f) i true = cutLt (i + 1) f := by
  funext j
  unfold upd cutLt
  by_cases hj : j = i
  · subst hj; simp [h]
  · rw [if_neg hj]
    congr 1
    apply decide_eq_decide.2
    omega
theorem cutLt_pass {i : Nat} {f : Nat → Bool} (h : f i = false) : cutLt i f = cutLt (i + 1) f := by
  funext j
  unfold cutLt
  by_cases hj : j = i
  · subst hj; simp [h]
  · congr 1
    apply decide_eq_decide.2
    omega
theorem mem_takes (p : Pc) (h : many p = false) (c : Nat) : memA p c = takes p c := by
  cases p <;> first | rfl | (simp [many] at h)
def OfPost (l : List Pc) (t : ByteArray) (w : World) (e : Ending) (w' : World) : Prop := e = .returned (.bool (isOf l t)) ∧ Hid (Below w.heap.size w w')

/-- what is known in the middle of a round -/
def St (n : Nat) (w wr : World) (B H P N : Nat) (cs : Array Value) (S F : Nat → Bool) : Prop := Below B w wr ∧ Blk wr H (boolsA n S) 4 ∧ Blk wr P cs 66 ∧ Blk wr N (boolsA n F) 4
theorem St.put {n : Nat} {w wr : World} {B H P N : Nat} {cs : Array Value} {S F : Nat → Bool} (h : St n w wr B H P N cs S F) (hr : B ≤ N ∧ H ≠ N ∧ P ≠ N) (i : Nat) (v : Bool) : St n w (wr.setCell ⟨N, i, none⟩ (.bool v)) B H P N cs S (upd F i v) := by
  refine ⟨h.1.setCell hr.1 _, h.2.1.far hr.2.1 _, h.2.2.1.far hr.2.2 _, ?_⟩
  have := h.2.2.2.put i (.bool v)
  rw [boolsA_put] at this
  exact this

theorem St.congr {n : Nat} {w wr : World} {B H P N : Nat} {cs : Array Value} {S F F' : Nat → Bool} (h : St n w wr B H P N cs S F) (e : ∀ i, i < n → F i = F' i) : St n w wr B H P N cs S F' :=
  ⟨h.1, h.2.1, h.2.2.1, by rw [← boolsA_congr e]; exact h.2.2.2⟩

set_option maxRecDepth 100000 in
set_option maxHeartbeats 3200000 in
theorem of_some (g cap : Nat) (cur : Array Value) (l : List Pc) (t : ByteArray) (w : World) (ht : t.size ≤ 1023) (hl : l.length ≤ 255) (hcap : l.length ≤ cap) (hK : Hid (Blk w g cur 66)) (hcells : cellsA l <+: cur.toList) :
    Calls Try.prog 24 #[.slice (some ⟨g, 0, none⟩) l.length cap, .string t] w (OfPost l t w) := by
  have hz : ∀ w, (zeroValue 66).run Try.prog w = .ok (.agg zrow) w := fun w => by kernel_rfl
  have hmk : ∀ w, (Instr.makeSlice 44 (.int .i64 ((t.size : Int) + 1)) (.int .i64 ((t.size : Int) + 1))).run Try.prog w = .ok (.slice (some ⟨w.heap.size, 0, none⟩) (t.size + 1) (t.size + 1)) (w.alloc (.cells (boolsA (t.size + 1) fun _ => false) 4)) := fun w => make_bools _ _ (by omega) (by omega) w
  have HC := Lib.hid hcells
  clear hcells
  have ht9 : (t.size : Int) ≤ 1023 := by omega
  obtain ⟨B, hB⟩ : ∃ B, w.heap.size = B := ⟨_, rfl⟩
  have HB := Lib.hid hB
  clear hB
  go_enter Try.func24, Try.ntmps24
  go_upto_region 2 with (fail)
  rw [HB.out]
  refine gen_world (fun w' => Hid (Below B w w' ∧ Blk w' B (boolsA (t.size + 1) fun _ => false) 4)) ?_ ?_
  · have h := HB.out
    subst h
    exact ⟨(Below.refl _ _).alloc (Nat.le_refl _) _, Blk.new _ _ _⟩
  rintro w1 h1
  have c0 : w1.cell? ⟨B, 0, none⟩ = some (.bool false) := (h1.out.2.cell 0).trans (boolsA_get _ _ 0 (by omega))
  have f0 := h1.out.2.frozen 0
  go_upto_region 3 with (fail)
  refine gen_world (fun w' => Hid (Below B w w' ∧ Blk w' B (boolsA (t.size + 1) atZero) 4)) ?_ ?_
  · refine ⟨h1.out.1.setCell (Nat.le_refl _) _, ?_⟩
    have := h1.out.2.put 0 (.bool true)
    rw [boolsA_put] at this
    rw [boolsA_congr (S' := upd (fun _ => false) 0 true) fun i _ => ?_]
    · exact this
    · unfold atZero upd
      by_cases h : i = 0
      · subst h; rfl
      · simp [h]
  clear c0 f0 h1 w1
  rintro w1 h1
  have HL9 := Lib.hid hl
  have HCAP := Lib.hid hcap
  have HT9 := Lib.hid ht
  clear hl hcap ht
  have HK2 : Hid (g < B) := by have := hK.out.lt; have := HB.out; show _ < _; omega
  go_wp2_with fail
  go_loopg [18, 5] l.length (fun gk i here wr => ∃ (k H : Nat), gk = l.length - k ∧ k ≤ l.length ∧ i = .int .i64 k ∧ here = .slice (some ⟨H, 0, none⟩) (t.size + 1) (t.size + 1) ∧ Hid (B ≤ H ∧ Below B w wr ∧ Blk wr H (boolsA (t.size + 1) (reach t atZero (l.take k))) 4))
  case atStart => exact ⟨0, B, rfl, Nat.zero_le _, rfl, rfl, Nat.le_refl _, h1.out⟩
  case round =>
    clear h1 w1
    obtain ⟨k, H, rfl, hk, rfl, rfl, h1⟩ := hrel
    have hk9 : (k : Int) ≤ 1000 := by have := HL9.out; omega
    by_cases hlt : k < l.length
    · have hKg : Blk wr g cur 66 := hK.out.below h1.out.2.1 HK2.out
      have HCE : Hid (∀ j v, (rowOf l[k]).toList[j]? = some v → wr.cell? ((⟨g, k * 257, none⟩ : Addr).add j) = some v) := fun j v hv => by
        have h := cells_at hlt cur.toList HC.out j v hv
        have e : (⟨g, k * 257, none⟩ : Addr).add j = ⟨g, k * 257 + j, none⟩ := by
          unfold Addr.add
          by_cases h : j = 0
          · subst h; simp
          · simp [h]
        rw [e, hKg.cell, ← Array.getElem?_toList]
        exact h
      clear hKg
      have HTK : Hid (reach t atZero (l.take (k + 1)) = Pat.step l[k] t (reach t atZero (l.take k))) := by
        show _ = _
        rw [List.take_succ_eq_append_getElem hlt, reach_snoc]
      generalize l[k] = p at *
      generalize reach t atZero (l.take k) = S at *
      obtain ⟨cs, hcs⟩ : ∃ cs, rowOf p = cs := ⟨_, rfl⟩
      rw [hcs] at HCE
      have hsz : cs.size = 257 := by rw [← hcs]; exact rowA_size _ _
      have HCS := Lib.hid hcs
      clear hcs
      have hone : cs.all (·.oneCell') = true := by rw [← HCS.out]; exact rowA_one _ _
      have hold : zrow.size = cs.size := by rw [hsz]; exact rowA_size _ _
      have hi66 : (Try.prog.info? 66).map (·.size) = some cs.size := by rw [hsz]; kernel_rfl
      have hi66l : (Try.prog.info? 66).map (·.size) = some cs.toList.length := by rw [Array.length_toList]; exact hi66
      clear hsz
      have hlti : (k : Int) < (l.length : Int) := by omega
      go_upto_region 6 with (first | (refine wpList_load_any rfl 66 _ rfl ⟨g, k * 257, none⟩ rfl cs.toList _ HCE.out Try.underlying66 rfl hi66l ?_) | (refine wpList_store_row rfl 66 _ _ rfl wr.heap.size cs rfl rfl 66 zrow (Blk.new _ _ _) hi66 hold hone ?_))
      obtain ⟨P, hP⟩ : ∃ P, wr.heap.size = P := ⟨_, rfl⟩
      rw [hP]
      refine gen_world (fun w' => Hid (Below B w w' ∧ Blk w' H (boolsA (t.size + 1) S) 4 ∧ Blk w' P cs 66 ∧ H ≠ P)) ?_ ?_
      · have hlt := h1.out.2.2.lt
        have hBw : B ≤ wr.heap.size := by have := h1.out.1; omega
        have hon := only_row (wr.alloc (.cells zrow 66)) P cs
        have hsr := setRow_heap (wr.alloc (.cells zrow 66)) wr.heap.size zrow cs 66 (0, 0) (Blk.new wr zrow 66)
        rw [hP] at hsr hBw hlt
        exact ⟨(h1.out.2.1.alloc (by rw [hP]; exact hBw) _).trans (hon.below hBw), hon.blk (h1.out.2.2.alloc _) (by omega), hsr, by omega⟩
      have HB1 := Lib.hid h1.out.1
      clear hP HCE hone hold hi66 hi66l h1 wr
      rintro wr h1
      go_upto_region 7 with (fail)
      obtain ⟨N, hN⟩ : ∃ N, wr.heap.size = N := ⟨_, rfl⟩
      rw [hN]
      refine gen_world (fun w' => Hid (St (t.size + 1) w w' B H P N cs S (fun _ => false))) ?_ ?_
      · have hB1 := HB1.out
        have hlt := h1.out.2.1.lt
        subst hN
        exact ⟨h1.out.1.alloc (by omega) _, h1.out.2.1.alloc _, h1.out.2.2.1.alloc _, Blk.new _ _ _⟩
      have HRK : Hid (B ≤ N ∧ H ≠ N ∧ P ≠ N) := by
        have hB1 := HB1.out
        have h2 := h1.out.2.1.lt
        have h3 := h1.out.2.2.1.lt
        exact ⟨by omega, by omega, by omega⟩
      clear hN h1 wr
      rintro wr h1
      have HPK : Hid (cs[0]? = some (.int .i64 (kindA p)) ∧ ∀ c, c < 256 → cs[1 + c]? = some (.bool (memA p c))) := by
        rw [← HCS.out]
        exact ⟨rowA_kind _ _, fun c hc => rowA_get _ _ c hc⟩
      clear HCS hlti
      go_upto_region 8 with (fail)
      by_cases hm : many p = false
      · have hk0 : kindA p = 0 := by cases p <;> first | rfl | (simp [many] at hm)
        have HM := Lib.hid hm
        clear hm
        have HF : Hid (∃ f, Pat.step p t S = f ∧ f 0 = false ∧ ∀ j, f (j + 1) = (S j && memA p (gb t j))) := by
          refine ⟨_, rfl, ?_, fun j => ?_⟩
          · unfold Pat.step; rw [HM.out]; rfl
          · unfold Pat.step; rw [HM.out, mem_takes p HM.out]; rfl
        obtain ⟨f, hf, hf0, hf1⟩ := HF.out
        rw [hf] at HTK
        clear hf HF
        have HF1 := Lib.hid hf1
        clear hf1
        go_loopg [28] (t.size + 1) (fun gi i wq => ∃ (j : Nat), gi = t.size + 1 - j ∧ j ≤ t.size + 1 ∧ i = .int .i64 j ∧ Hid (St (t.size + 1) w wq B H P N cs S (cutLe j f)))
        case atStart => exact ⟨0, rfl, Nat.zero_le _, rfl, by rw [← cutLe_start hf0]; exact h1⟩
        case round =>
          clear h1 hf0
          obtain ⟨j, rfl, hj, rfl, h1⟩ := hrel
          have cP : wr.cell? ⟨P, 0, none⟩ = some (.int .i64 0) := (h1.out.2.2.1.cell 0).trans (by rw [HPK.out.1, hk0])
          by_cases hjn : j < t.size + 1
          · have hjni : (j : Int) < (t.size : Int) + 1 := by omega
            have HJN := Lib.hid hjn
            by_cases hjt : j < t.size
            · have hjti : (j : Int) < (t.size : Int) := by omega
              have HJT := Lib.hid hjt
              have cH : wr.cell? ⟨H, j, none⟩ = some (.bool (S j)) := (h1.out.2.1.cell j).trans (boolsA_get _ _ j hjn)
              have hx := index_gb t j hjt
              have hy9 := gb_lt t j
              have cM : wr.cell? ⟨P, 1 + gb t j, none⟩ = some (.bool (memA p (gb t j))) := (h1.out.2.2.1.cell _).trans (HPK.out.2 _ hy9)
              have cN : wr.cell? ⟨N, j + 1, none⟩ = some (.bool (cutLe j f (j + 1))) := (h1.out.2.2.2.cell _).trans (boolsA_get _ _ _ (by omega))
              have fN := h1.out.2.2.2.frozen (j + 1)
              have HFJ := Lib.hid (HF1.out j)
              generalize cutLe j f (j + 1) = z at cN
              generalize memA p (gb t j) = mb at cM HFJ
              generalize S j = sb at cH HFJ
              generalize gb t j = y at hx cM hy9
              have hy9i : (y : Int) < 256 := by omega
              clear hjn hjt hy9
              cases sb
              · have HP := Lib.hid (cutLe_pass HFJ.out)
                clear cN fN cM
                go_wp2_with fail
                go_roundg (t.size + 1 - (j + 1))
                case measure => have := HJN.out; omega
                case rel => exact ⟨j + 1, rfl, by have := HJN.out; omega, by go_num, by rw [← HP.out]; exact h1⟩
              · cases mb
                · have HP := Lib.hid (cutLe_pass HFJ.out)
                  clear cN fN
                  go_wp2_with fail
                  go_roundg (t.size + 1 - (j + 1))
                  case measure => have := HJN.out; omega
                  case rel => exact ⟨j + 1, rfl, by have := HJN.out; omega, by go_num, by rw [← HP.out]; exact h1⟩
                · have HP := Lib.hid (cutLe_set HFJ.out)
                  go_wp2_with fail
                  go_roundg (t.size + 1 - (j + 1))
                  case measure => have := HJN.out; omega
                  case rel => exact ⟨j + 1, rfl, by have := HJN.out; omega, by go_num, by rw [← HP.out]; exact h1.out.put HRK.out (j + 1) true⟩
            · have hjti : ¬ ((j : Int) < (t.size : Int)) := by omega
              have HJT := Lib.hid hjt
              clear hjn hjt
              go_wp2_with fail
              go_roundg (t.size + 1 - (j + 1))
              case measure => have := HJN.out; omega
              case rel =>
                refine ⟨j + 1, rfl, by have := HJN.out; omega, by go_num, h1.out.congr fun i hi => ?_⟩
                have := HJN.out
                have := HJT.out
                unfold cutLe
                congr 1
                apply decide_eq_decide.2
                omega
          · have hjni : ¬ ((j : Int) < (t.size : Int) + 1) := by omega
            have HJ : Hid (j = t.size + 1) := by show _ = _; omega
            clear hjn hj
            go_wp2_with fail
            go_roundg (l.length - (k + 1))
            case measure => omega
            case rel =>
              refine ⟨k + 1, N, rfl, by omega, by go_num, rfl, HRK.out.1, h1.out.1, ?_⟩
              rw [HTK.out]
              refine (h1.out.congr (F' := f) fun i hi => ?_).2.2.2
              rw [HJ.out]
              unfold cutLe
              simp
              omega
      · have HF : Hid (∃ f, Pat.step p t S = f ∧ f 0 = S 0 ∧ ∀ j, f (j + 1) = (S (j + 1) || (f j && takes p (gb t j)))) := by
          refine ⟨_, rfl, ?_, fun j => ?_⟩
          · unfold Pat.step; rw [if_pos (by simpa using hm)]; rfl
          · unfold Pat.step; rw [if_pos (by simpa using hm)]; rfl
        obtain ⟨f, hf, hf0, hf1⟩ := HF.out
        rw [hf] at HTK
        clear hf HF
        have HF0 := Lib.hid hf0
        have HF1 := Lib.hid hf1
        clear hf1 hf0
        obtain ⟨kd, hkd⟩ : ∃ kd, kindA p = kd := ⟨_, rfl⟩
        rw [hkd] at HPK
        have HKD : Hid ((kd = 1 ∧ ∀ c, takes p c = (c != 47)) ∨ (kd = 2 ∧ ∀ c, takes p c = true)) := by
          rw [← hkd]
          cases p with
          | star => exact .inl ⟨rfl, fun _ => rfl⟩
          | stars => exact .inr ⟨rfl, fun _ => rfl⟩
          | _ => exact absurd rfl hm
        have k0 : (kd == 0) = false := by
          rcases HKD.out with h | h <;> rw [h.1] <;> rfl
        clear hkd hm
        go_loopg [28] (t.size + 1) (fun gi i wq => ∃ (j : Nat), gi = t.size + 1 - j ∧ j ≤ t.size + 1 ∧ i = .int .i64 j ∧ Hid (St (t.size + 1) w wq B H P N cs S (cutLt j f)))
        case atStart => exact ⟨0, rfl, Nat.zero_le _, rfl, by rw [← cutLt_start]; exact h1⟩
        case round =>
          clear h1
          obtain ⟨j, rfl, hj, rfl, h1⟩ := hrel
          have cP : wr.cell? ⟨P, 0, none⟩ = some (.int .i64 kd) := (h1.out.2.2.1.cell 0).trans HPK.out.1
          by_cases hjn : j < t.size + 1
          · have hjni : (j : Int) < (t.size : Int) + 1 := by omega
            have HJN := Lib.hid hjn
            have cH : wr.cell? ⟨H, j, none⟩ = some (.bool (S j)) := (h1.out.2.1.cell j).trans (boolsA_get _ _ j hjn)
            have cN : wr.cell? ⟨N, j, none⟩ = some (.bool (cutLt j f j)) := (h1.out.2.2.2.cell _).trans (boolsA_get _ _ _ hjn)
            have fN := h1.out.2.2.2.frozen j
            generalize cutLt j f j = z at cN
            cases hS : S j
            · rw [hS] at cH
              cases j with
              | zero =>
                have HP := Lib.hid (cutLt_pass (HF0.out.trans hS))
                clear hS hjn hj cN fN
                go_wp2_with fail
                go_roundg (t.size + 1 - (0 + 1))
                case measure => have := HJN.out; omega
                case rel => exact ⟨0 + 1, rfl, by have := HJN.out; omega, by go_num, by rw [← HP.out]; exact h1⟩
              | succ i =>
                have hFJ := HF1.out i
                rw [hS, Bool.false_or] at hFJ
                have hit : i < t.size := by omega
                have hiti : (i : Int) < (t.size : Int) := by omega
                have hx := index_gb t i hit
                have cQ : wr.cell? ⟨N, i, none⟩ = some (.bool (f i)) := (h1.out.2.2.2.cell _).trans ((boolsA_get _ _ _ (by omega)).trans (by unfold cutLt; simp))
                have ip : (0 : Int) < (i : Int) + 1 := by omega
                clear hS hj hjn hit
                cases hfi : f i
                · rw [hfi] at cQ hFJ
                  have HP := Lib.hid (cutLt_pass (hFJ.trans rfl))
                  clear hFJ hfi cN fN
                  go_wp2_with fail
                  go_roundg (t.size + 1 - (i + 1 + 1))
                  case measure => have := HJN.out; omega
                  case rel => exact ⟨i + 1 + 1, rfl, by have := HJN.out; omega, by go_num, by rw [← HP.out]; exact h1⟩
                · rw [hfi, Bool.true_and] at hFJ
                  rw [hfi] at cQ
                  clear hfi
                  rcases HKD.out with ⟨hk1, htk⟩ | ⟨hk2, htk⟩
                  · rw [htk] at hFJ
                    have k2 : (kd == 2) = false := by rw [hk1]; rfl
                    cases hq : gb t i != 47
                    · have hqi : ((gb t i : Int) != 47) = false := by
                        have : gb t i = 47 := by simpa using hq
                        rw [this]; rfl
                      rw [hq] at hFJ
                      have HP := Lib.hid (cutLt_pass hFJ)
                      clear hFJ htk hq hk1 cN fN
                      generalize gb t i = y at hx hqi
                      go_wp2_with fail
                      go_roundg (t.size + 1 - (i + 1 + 1))
                      case measure => have := HJN.out; omega
                      case rel => exact ⟨i + 1 + 1, rfl, by have := HJN.out; omega, by go_num, by rw [← HP.out]; exact h1⟩
                    · have hqi : ((gb t i : Int) != 47) = true := by
                        have : gb t i ≠ 47 := by simpa using hq
                        exact bne_iff_ne.2 (by omega)
                      rw [hq] at hFJ
                      have HP := Lib.hid (cutLt_set hFJ)
                      clear hFJ htk hq hk1
                      generalize gb t i = y at hx hqi
                      go_wp2_with fail
                      go_roundg (t.size + 1 - (i + 1 + 1))
                      case measure => have := HJN.out; omega
                      case rel => exact ⟨i + 1 + 1, rfl, by have := HJN.out; omega, by go_num, by rw [← HP.out]; exact h1.out.put HRK.out (i + 1) true⟩
                  · rw [htk] at hFJ
                    have k2 : (kd == 2) = true := by rw [hk2]; rfl
                    have HP := Lib.hid (cutLt_set hFJ)
                    clear hFJ htk hk2 hx
                    go_wp2_with fail
                    go_roundg (t.size + 1 - (i + 1 + 1))
                    case measure => have := HJN.out; omega
                    case rel => exact ⟨i + 1 + 1, rfl, by have := HJN.out; omega, by go_num, by rw [← HP.out]; exact h1.out.put HRK.out (i + 1) true⟩
            · have hFJ : f j = true := by
                cases j with
                | zero => exact HF0.out.trans hS
                | succ i => rw [HF1.out i, hS]; rfl
              rw [hS] at cH
              have HP := Lib.hid (cutLt_set hFJ)
              clear hFJ hS hjn hj
              go_wp2_with fail
              go_roundg (t.size + 1 - (j + 1))
              case measure => have := HJN.out; omega
              case rel => exact ⟨j + 1, rfl, by have := HJN.out; omega, by go_num, by rw [← HP.out]; exact h1.out.put HRK.out j true⟩
          · have hjni : ¬ ((j : Int) < (t.size : Int) + 1) := by omega
            have HJ : Hid (j = t.size + 1) := by show _ = _; omega
            clear hjn hj
            go_wp2_with fail
            go_roundg (l.length - (k + 1))
            case measure => omega
            case rel =>
              refine ⟨k + 1, N, rfl, by omega, by go_num, rfl, HRK.out.1, h1.out.1, ?_⟩
              rw [HTK.out]
              refine (h1.out.congr (F' := f) fun i hi => ?_).2.2.2
              rw [HJ.out]
              unfold cutLt
              simp
              omega
    · obtain rfl : k = l.length := by omega
      have ce : wr.cell? ⟨H, t.size, none⟩ = some (.bool (isOf l t)) := by
        have h := (h1.out.2.2.cell t.size).trans (boolsA_get _ _ _ (by omega))
        rw [List.take_length] at h
        exact h
      obtain ⟨b, hb⟩ : ∃ b, isOf l t = b := ⟨_, rfl⟩
      rw [hb] at ce
      have HBB := Lib.hid hb
      clear hb
      go_wp2_with fail
      go_ret
      refine ⟨by rw [HBB.out]; rfl, ?_⟩
      rw [HB.out]
      exact h1.out.2.1
set_option maxRecDepth 100000 in
set_option maxHeartbeats 3200000 in
theorem of_none (t : ByteArray) (w : World) (ht : t.size ≤ 1023) : Calls Try.prog 24 #[.slice none 0 0, .string t] w (OfPost [] t w) := by
  have hmk : ∀ w, (Instr.makeSlice 44 (.int .i64 ((t.size : Int) + 1)) (.int .i64 ((t.size : Int) + 1))).run Try.prog w = .ok (.slice (some ⟨w.heap.size, 0, none⟩) (t.size + 1) (t.size + 1)) (w.alloc (.cells (boolsA (t.size + 1) fun _ => false) 4)) := fun w => make_bools _ _ (by omega) (by omega) w
  have ht9 : (t.size : Int) ≤ 1023 := by omega
  obtain ⟨B, hB⟩ : ∃ B, w.heap.size = B := ⟨_, rfl⟩
  have HB := Lib.hid hB
  clear hB
  go_enter Try.func24, Try.ntmps24
  go_upto_region 2 with (fail)
  rw [HB.out]
  refine gen_world (fun w' => Hid (Below B w w' ∧ Blk w' B (boolsA (t.size + 1) fun _ => false) 4)) ?_ ?_
  · have h := HB.out
    subst h
    exact ⟨(Below.refl _ _).alloc (Nat.le_refl _) _, Blk.new _ _ _⟩
  rintro w1 h1
  have c0 : w1.cell? ⟨B, 0, none⟩ = some (.bool false) := (h1.out.2.cell 0).trans (boolsA_get _ _ 0 (by omega))
  have f0 := h1.out.2.frozen 0
  go_upto_region 3 with (fail)
  refine gen_world (fun w' => Hid (Below B w w' ∧ Blk w' B (boolsA (t.size + 1) atZero) 4)) ?_ ?_
  · refine ⟨h1.out.1.setCell (Nat.le_refl _) _, ?_⟩
    have := h1.out.2.put 0 (.bool true)
    rw [boolsA_put] at this
    rw [boolsA_congr (S' := upd (fun _ => false) 0 true) fun i _ => ?_]
    · exact this
    · unfold atZero upd
      by_cases h : i = 0
      · subst h; rfl
      · simp [h]
  clear c0 f0 h1 w1
  rintro w1 h1
  go_wp2_with fail
  go_loopg [18, 5] 0 (fun gk i here wr => i = .int .i64 0 ∧ here = .slice (some ⟨B, 0, none⟩) (t.size + 1) (t.size + 1) ∧ w1 = wr)
  case atStart => exact ⟨rfl, rfl, rfl⟩
  case round =>
    obtain ⟨rfl, rfl, rfl⟩ := hrel
    have ce : w1.cell? ⟨B, t.size, none⟩ = some (.bool (atZero t.size)) := (h1.out.2.cell t.size).trans (boolsA_get _ _ _ (by omega))
    obtain ⟨b, hb⟩ : ∃ b, atZero t.size = b := ⟨_, rfl⟩
    rw [hb] at ce
    have HBB : Hid (isOf [] t = b) := hb
    clear hb
    go_wp2_with fail
    go_ret
    refine ⟨by rw [HBB.out]; rfl, ?_⟩
    rw [HB.out]
    exact h1.out.1
theorem of_any (v : Value) (base : Nat) (l : List Pc) (t : ByteArray) (w : World) (ht : t.size ≤ 1023) (hl : l.length ≤ 255) (H : Hid (w.ownsRow base 66 257 v l.length (cellsA l))) :
    Calls Try.prog 24 #[v, .string t] w (OfPost l t w) := by
  rcases H.out.2 with ⟨rfl, h0⟩ | ⟨g, cap, cur, rfl, hb, hg, h1, h2, h3, h4⟩
  · obtain rfl := List.eq_nil_of_length_eq_zero h0
    exact of_none t w ht
  · refine of_some g cap cur l t w ht hl h1 hg ?_
    rw [← h4]
    exact List.take_prefix _ _
end Go.Proofs.Ytcdhkeahcliefaa.PatOf
