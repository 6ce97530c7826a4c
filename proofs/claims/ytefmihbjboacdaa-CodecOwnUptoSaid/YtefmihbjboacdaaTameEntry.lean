/- tameEntry: an entry that fits. -/
import Derived.Test.YtefmihbjboacdaaTame
import Derived.Lib.ConvBytes
import Derived.Deep.DeepCutAuto
namespace Go.Proofs.Ytefmihbjboacdaa.TameEntry
open Go.ChangeShapes Go.WideShapes Go.ChangeAt Go.RowKit
open Go.Proofs.Ytefmihbjboacdaa.Kit Go.Proofs.Ytefmihbjboacdaa.Crc Go.Proofs.Ytefmihbjboacdaa.Reads Go.Proofs.Ytefmihbjboacdaa.Copy Go.Proofs.Ytefmihbjboacdaa.Equal Go.Proofs.Ytefmihbjboacdaa.Bars Go.Proofs.Ytefmihbjboacdaa.Name Go.Proofs.Ytefmihbjboacdaa.EntryEnc Go.Proofs.Ytefmihbjboacdaa.Tame
open Go.Proofs.Ytefmihbjboacdaa.NodeDecAll (gen_body)
set_option linter.unusedVariables false

/-- these bytes stand at the head of block g; they may be written -/
def BF (w : World) (g : Nat) (l : List UInt8) : Prop := ∃ (tl : Array Value) (n0 : Nat), w.heap[g]? = some (.cells (bvs l ++ tl) 5 (n0, n0 + 1)) ∧ l.length ≤ n0
theorem BF.lt {w : World} {g : Nat} {l : List UInt8} (h : BF w g l) : g < w.heap.size := by
  obtain ⟨tl, n0, hh, _⟩ := h
  exact (Array.getElem?_eq_some_iff.1 hh).1
theorem BF.cell {w : World} {g : Nat} {l : List UInt8} (h : BF w g l) (i : Nat) (hi : i < l.length) : w.cell? ⟨g, i, none⟩ = some (.int .u8 (v8 l[i])) := by
  obtain ⟨tl, n0, hh, _⟩ := h
  have h1 := bvs_get l i hi
  have h2 : i < (bvs l).size := by rw [bvs_size]; exact hi
  simp [World.cell?, hh, Array.getElem?_append_left h2, h1]
theorem BF.frozen {w : World} {g : Nat} {l : List UInt8} (h : BF w g l) (i : Nat) (hi : i < l.length) : w.frozen? ⟨g, i, none⟩ = false := by
  obtain ⟨tl, n0, hh, hn⟩ := h
  simp [World.frozen?, hh]
  omega
theorem BF.put {w : World} {g : Nat} {l : List UInt8} (h : BF w g l) (i : Nat) (hi : i < l.length) (y : UInt8) : BF (w.setCell ⟨g, i, none⟩ (.int .u8 (v8 y))) g (l.set i y) := by
  obtain ⟨tl, n0, hh, hn⟩ := h
  refine ⟨tl, n0, ?_, by rw [List.length_set]; exact hn⟩
  have h2 : i < (bvs l).size := by rw [bvs_size]; exact hi
  have e : (bvs l ++ tl).setIfInBounds i (.int .u8 (v8 y)) = bvs (l.set i y) ++ tl := by
    rw [← bvs_set]
    apply Array.ext'
    simp only [Array.toList_append, Array.toList_setIfInBounds]
    rw [List.set_append_left _ _ (by simpa using h2)]
  rw [← e]
  simp [World.setCell, Array.getElem?_modify, hh]
theorem BF.far {w : World} {g : Nat} {l : List UInt8} (h : BF w g l) (a : Addr) (hne : g ≠ a.block) (v : Value) : BF (w.setCell a v) g l := by
  obtain ⟨tl, n0, hh, hn⟩ := h
  exact ⟨tl, n0, (Below.heap_setCell w a v g hne).trans hh, hn⟩
theorem BF.bytes {w : World} {g : Nat} {l : List UInt8} (h : BF w g l) : Bytes w (some ⟨g, 0, none⟩) l := fun i hi => ⟨_, rfl, by rw [add_block]; exact h.cell i hi⟩
theorem BF.take {w : World} {g : Nat} {l : List UInt8} (h : BF w g l) (m : Nat) : BF w g (l.take m) := by
  obtain ⟨tl, n0, hh, hn⟩ := h
  refine ⟨bvs (l.drop m) ++ tl, n0, ?_, by rw [List.length_take]; omega⟩
  have e : bvs (l.take m) ++ (bvs (l.drop m) ++ tl) = bvs l ++ tl := by
    rw [← Array.append_assoc]
    congr 1
    unfold bvs
    apply Array.ext'
    simp only [Array.toList_append]
    rw [← List.map_append, List.take_append_drop]
  rw [e]
  exact hh
theorem below_bytes (w : World) (s : ByteArray) : Below w.heap.size w (Lib.bytesWorld w 5 s) :=
  ⟨rfl, rfl, rfl, by rw [Lib.bytesWorld_size]; omega, fun k hk => Lib.bytesWorld_at_old w 5 s k hk⟩
theorem bf_new (w : World) (s : ByteArray) : BF (Lib.bytesWorld w 5 s) w.heap.size s.data.toList := by
  refine ⟨Array.replicate (grownCap w s.size 0 5 - s.size) (.int .u8 0), (Lib.bytesCells w 5 s).size, ?_, ?_⟩
  · rw [Lib.bytesWorld_at_new]
    congr 2
    unfold Lib.bytesCells bvs
    congr 1
    apply Array.ext'
    simp
    intro a _
    rfl
  · unfold Lib.bytesCells
    simp
/-- a name of at most 54 bytes without bars, or else "x" -/
theorem name_ok {l : List UInt8} (hl : l.length ≤ 54) (hb : ∀ i (h : i < l.length), isBar l[i] = false) (h0 : ¬ text l = ⟨#[]⟩) (h1 : ¬ text l = ⟨#[46]⟩) (h2 : ¬ text l = ⟨#[46, 46]⟩) : nameErr (text l) = 0 := by
  refine err_no ?_ ?_
  · show ¬ 54 < (text l).data.size
    unfold text
    simp
    omega
  · rintro (h | h | h | h)
    · exact h0 h
    · exact h1 h
    · exact h2 h
    · unfold hasBar at h
      rw [List.any_eq_true] at h
      obtain ⟨b, hm, hbb⟩ := h
      have hm2 : b ∈ l := by simpa [text] using hm
      obtain ⟨i, hi, rfl⟩ := List.getElem_of_mem hm2
      rw [hb i hi] at hbb
      cases hbb
def EntPost (sl : Int) (w : World) (e : Ending) (w' : World) : Prop := ∃ (n k : Int) (s : ByteArray), EFits n k s ∧ e = .returned (.agg #[.int .i64 n, .int .i64 k, .string s, .int .i64 sl]) ∧ Hid (Below w.heap.size w w')
set_option maxRecDepth 100000 in
set_option maxHeartbeats 20000000 in
theorem tameEntry_any (x y : Int) (s : ByteArray) (sl : Int) (w : World) : Calls Try.prog 39 #[.agg #[.int .i64 x, .int .i64 y, .string s, .int .i64 sl]] w (EntPost sl w) := by
  go_enter Try.func39, Try.ntmps39
  go_upto_region 1 with (fail)
  obtain ⟨P, hP⟩ : ∃ P, w.heap.size = P := ⟨_, rfl⟩
  rw [hP]
  refine gen_world (fun w' => Hid (Below w.heap.size w w' ∧ Blk w' P #[.int .i64 x, .int .i64 y, .string s, .int .i64 sl] 61 ∧ Blk w' (P + 1) #[.int .i64 0, .int .i64 0, .string ⟨#[]⟩, .int .i64 0] 61 ∧ w'.heap.size = P + 2)) ?_ ?_
  · subst hP
    refine ⟨((Below.refl _ _).alloc (Nat.le_refl _) _).alloc (by simp) _, (Blk.new w _ _).alloc _, ?_, by simp⟩
    have h := Blk.new (w.alloc (.cells #[.int .i64 x, .int .i64 y, .string s, .int .i64 sl] 61)) #[.int .i64 0, .int .i64 0, .string ⟨#[]⟩, .int .i64 0] 61
    simpa using h
  have HGE : Hid (w.heap.size ≤ P) := by show _ ≤ _; omega
  clear hP
  obtain ⟨P1, hP1⟩ : ∃ P1, P + 1 = P1 := ⟨_, rfl⟩
  rw [hP1]
  have HNE : Hid (P ≠ P1 ∧ P1 ≠ P ∧ w.heap.size ≤ P1) := ⟨by omega, by omega, by have := HGE.out; omega⟩
  clear hP1
  rintro w1 h1'
  have h1 : Hid (Below w.heap.size w w1 ∧ Blk w1 P #[.int .i64 x, .int .i64 y, .string s, .int .i64 sl] 61 ∧ Blk w1 P1 #[.int .i64 0, .int .i64 0, .string ⟨#[]⟩, .int .i64 0] 61) := ⟨h1'.out.1, h1'.out.2.1, h1'.out.2.2.1⟩
  clear h1'
  have c1 : w1.cell? ⟨P, 0, none⟩ = some (.int .i64 x) := (h1.out.2.1.cell 0).trans rfl
  go_wp2_with fail
  refine (within_any x 1 1024 _ (by decide) (by decide) (by decide)).mono ?_
  rintro e w2 ⟨rfl, a, rfl, ha1, ha2⟩
  have f1 := h1.out.2.1.frozen 0
  go_upto_region 2 with (fail)
  refine gen_world (fun w' => Hid (Below w.heap.size w w' ∧ Blk w' P #[.int .i64 a, .int .i64 y, .string s, .int .i64 sl] 61 ∧ Blk w' P1 #[.int .i64 0, .int .i64 0, .string ⟨#[]⟩, .int .i64 0] 61)) ?_ ?_
  · exact ⟨h1.out.1.setCell HGE.out _, h1.out.2.1.put 0 _, h1.out.2.2.far HNE.out.2.1 _⟩
  clear c1 f1 h1 w1
  rintro w1 h1
  have c1 : w1.cell? ⟨P, 1, none⟩ = some (.int .i64 y) := (h1.out.2.1.cell 1).trans rfl
  go_wp2_with fail
  refine (within_any y 1 3 _ (by decide) (by decide) (by decide)).mono ?_
  rintro e w2 ⟨rfl, b, rfl, hb1, hb2⟩
  have f1 := h1.out.2.1.frozen 1
  go_upto_region 3 with (fail)
  refine gen_world (fun w' => Hid (Below w.heap.size w w' ∧ Blk w' P #[.int .i64 a, .int .i64 b, .string s, .int .i64 sl] 61 ∧ Blk w' P1 #[.int .i64 0, .int .i64 0, .string ⟨#[]⟩, .int .i64 0] 61)) ?_ ?_
  · exact ⟨h1.out.1.setCell HGE.out _, h1.out.2.1.put 1 _, h1.out.2.2.far HNE.out.2.1 _⟩
  clear c1 f1 h1 w1
  rintro w1 h1
  have HAB : Hid (1 ≤ a ∧ a ≤ 1024 ∧ 1 ≤ b ∧ b ≤ 3) := ⟨ha1, ha2, hb1, hb2⟩
  clear ha1 ha2 hb1 hb2
  have c1 : w1.cell? ⟨P, 2, none⟩ = some (.string s) := (h1.out.2.1.cell 2).trans rfl
  have hcv := Lib.run_convert_string_bytes (P := Try.prog) w1 9 34 5 s Try.underlying9 Try.underlying34 Try.underlying5
  have hge := grownCap_ge w1 s.size 0 5
  generalize grownCap w1 s.size 0 5 = cap at hcv hge
  obtain ⟨g, hg⟩ : ∃ g, w1.heap.size = g := ⟨_, rfl⟩
  rw [hg] at hcv
  have hlen : s.data.toList.length = s.size := Array.length_toList
  have HB : Hid (∃ l : List UInt8, l.length = s.size ∧ ∀ m, Hid (Below w.heap.size w (Lib.bytesWorld w1 5 s) ∧ Blk (Lib.bytesWorld w1 5 s) P #[.int .i64 a, .int .i64 b, .string s, .int .i64 sl] 61 ∧ Blk (Lib.bytesWorld w1 5 s) P1 #[.int .i64 0, .int .i64 0, .string ⟨#[]⟩, .int .i64 0] 61 ∧ BF (Lib.bytesWorld w1 5 s) g (l.take m))) := by
    refine ⟨s.data.toList, hlen, fun m => ⟨h1.out.1.trans ((below_bytes w1 s).mono h1.out.1.size), h1.out.2.1.below (below_bytes w1 s) h1.out.2.1.lt, h1.out.2.2.below (below_bytes w1 s) h1.out.2.2.lt, ?_⟩⟩
    rw [← hg]
    exact (bf_new w1 s).take m
  have HG : Hid (g ≠ P ∧ g ≠ P1 ∧ w.heap.size ≤ g) := ⟨by have := h1.out.2.1.lt; omega, by have := h1.out.2.2.lt; omega, by rw [← hg]; exact h1.out.1.size⟩
  clear hlen hg
  go_upto_region 4 with (fail)
  generalize Lib.bytesWorld w1 5 s = w2 at *
  clear c1 hcv h1 w1
  obtain ⟨l0, hl0, hB⟩ := HB.out
  have HBB := Lib.hid hB
  clear hB HB
  go_upto_if 18 with (fail)
  go_cut [3] (fun v wc => ∃ (m c : Nat) (l : List UInt8), v = .slice (some ⟨g, 0, none⟩) m c ∧ m ≤ 54 ∧ Hid (l.length = m ∧ Below w.heap.size w wc ∧ Blk wc P #[.int .i64 a, .int .i64 b, .string s, .int .i64 sl] 61 ∧ Blk wc P1 #[.int .i64 0, .int .i64 0, .string ⟨#[]⟩, .int .i64 0] 61 ∧ BF wc g l))
  case first =>
    by_cases h54 : 54 < s.size
    · go_wp2_with fail
      go_meet
      case rel => exact ⟨54, _, l0.take 54, rfl, by omega, by rw [List.length_take]; omega, HBB.out 54⟩
    · go_wp2_with fail
      go_meet
      case rel => exact ⟨s.size, _, l0.take s.size, rfl, by omega, by rw [List.length_take]; omega, HBB.out s.size⟩
  case rest =>
    obtain ⟨m, c, l, rfl, hm, h2⟩ := hcut
    clear HBB hge
    go_wp2_with fail
    go_loopw [4] (fun i wr => ∃ (k : Nat) (l : List UInt8), i = .int .i64 k ∧ k ≤ m ∧ Hid (l.length = m ∧ (∀ j (h : j < l.length), j < k → isBar l[j] = false) ∧ Below w.heap.size w wr ∧ Blk wr P #[.int .i64 a, .int .i64 b, .string s, .int .i64 sl] 61 ∧ Blk wr P1 #[.int .i64 0, .int .i64 0, .string ⟨#[]⟩, .int .i64 0] 61 ∧ BF wr g l)) (fun i _ => m - (intOf i).toNat)
    case atStart => exact ⟨0, l, rfl, Nat.zero_le _, h2.out.1, fun j h hj => absurd hj (Nat.not_lt_zero j), h2.out.2⟩
    case round =>
      clear h2 l
      obtain ⟨k, l, rfl, hk, hR⟩ := hrel
      by_cases hlt : k < m
      · obtain ⟨b0, hb0⟩ : ∃ b0, l[k]'(by rw [hR.out.1]; exact hlt) = b0 := ⟨_, rfl⟩
        have hcell := hR.out.2.2.2.2.2.cell k (by rw [hR.out.1]; exact hlt)
        rw [hb0] at hcell
        have HC := Lib.hid hcell
        have HN2 := Lib.hid hb0
        clear hcell hb0
        by_cases e1 : b0 = 47
        · have hbv : v8 b0 = 47 := by rw [e1]; rfl
          clear e1
          have HN : Hid (∀ j (h : j < (l.set k 95).length), j < k + 1 → isBar (l.set k 95)[j] = false) := fun j h hj => by
            by_cases e : k = j
            · subst e
              rw [List.getElem_set_self]
              rfl
            · rw [List.getElem_set_ne e]
              exact hR.out.2.1 j (by rw [List.length_set] at h; exact h) (by omega)
          have ff := hR.out.2.2.2.2.2.frozen k (by rw [hR.out.1]; exact hlt)
          rw [hbv] at HC
          have hc : wr.cell? ⟨g, k, none⟩ = some (.int .u8 47) := HC.out
          clear HN2 hbv
          go_wp2_with fail
          exact ⟨⟨k + 1, l.set k 95, by go_num, by omega, by rw [List.length_set]; exact hR.out.1, HN.out, hR.out.2.2.1.setCell HG.out.2.2 _, hR.out.2.2.2.1.far (fun e => HG.out.1 e.symm) _, hR.out.2.2.2.2.1.far (fun e => HG.out.2.1 e.symm) _, hR.out.2.2.2.2.2.put k (by rw [hR.out.1]; exact hlt) 95⟩, by simp [intOf]; omega⟩
        by_cases e2 : b0 = 0
        · have hbv : v8 b0 = 0 := by rw [e2]; rfl
          clear e1 e2
          have HN : Hid (∀ j (h : j < (l.set k 95).length), j < k + 1 → isBar (l.set k 95)[j] = false) := fun j h hj => by
            by_cases e : k = j
            · subst e
              rw [List.getElem_set_self]
              rfl
            · rw [List.getElem_set_ne e]
              exact hR.out.2.1 j (by rw [List.length_set] at h; exact h) (by omega)
          have ff := hR.out.2.2.2.2.2.frozen k (by rw [hR.out.1]; exact hlt)
          rw [hbv] at HC
          have hc : wr.cell? ⟨g, k, none⟩ = some (.int .u8 0) := HC.out
          clear HN2 hbv
          go_wp2_with fail
          exact ⟨⟨k + 1, l.set k 95, by go_num, by omega, by rw [List.length_set]; exact hR.out.1, HN.out, hR.out.2.2.1.setCell HG.out.2.2 _, hR.out.2.2.2.1.far (fun e => HG.out.1 e.symm) _, hR.out.2.2.2.2.1.far (fun e => HG.out.2.1 e.symm) _, hR.out.2.2.2.2.2.put k (by rw [hR.out.1]; exact hlt) 95⟩, by simp [intOf]; omega⟩
        have HN : Hid (∀ j (h : j < l.length), j < k + 1 → isBar l[j] = false) := fun j h hj => by
          by_cases e : j = k
          · subst e
            rw [HN2.out]
            unfold isBar
            simp [e1, e2]
          · exact hR.out.2.1 j h (by omega)
        have t1 : (v8 b0 == 47) = false := beq_eq_false_iff_ne.2 (fun e => e1 (v8_inj (e.trans (show (47 : Int) = v8 47 from rfl))))
        have t2 : (v8 b0 == 0) = false := beq_eq_false_iff_ne.2 (fun e => e2 (v8_inj (e.trans (show (0 : Int) = v8 0 from rfl))))
        have hc : wr.cell? ⟨g, k, none⟩ = some (.int .u8 (v8 b0)) := HC.out
        clear e1 e2 HN2
        generalize v8 b0 = vb at *
        go_wp2_with fail
        exact ⟨⟨k + 1, l, by go_num, by omega, hR.out.1, HN.out, hR.out.2.2⟩, by simp [intOf]; omega⟩
      · obtain rfl : k = m := by omega
        have hcv : (convert 34 9 (.slice (some ⟨g, 0, none⟩) k c)).run Try.prog wr = .ok (.string (text l)) wr := by
          have h := string_bytes (P := Try.prog) (src := 34) (dst := 9) (c := c) Try.underlying34 Try.underlying5 Try.underlying9 hR.out.2.2.2.2.2.bytes
          rw [hR.out.1] at h
          exact h
        have HL : Hid (l.length ≤ 54 ∧ ∀ i (h : i < l.length), isBar l[i] = false) := ⟨by rw [hR.out.1]; exact hm, fun i h => hR.out.2.1 i h (by have := hR.out.1; omega)⟩
        have c2 : wr.cell? ⟨P, 2, none⟩ = some (.string s) := (hR.out.2.2.2.1.cell 2).trans rfl
        have f1 := hR.out.2.2.2.1.frozen 2
        go_upto_region 12 with (fail)
        refine gen_world (fun w' => Hid (Below w.heap.size w w' ∧ Blk w' P #[.int .i64 a, .int .i64 b, .string (text l), .int .i64 sl] 61 ∧ Blk w' P1 #[.int .i64 0, .int .i64 0, .string ⟨#[]⟩, .int .i64 0] 61)) ?_ ?_
        · exact ⟨hR.out.2.2.1.setCell HGE.out _, hR.out.2.2.2.1.put 2 _, hR.out.2.2.2.2.1.far HNE.out.2.1 _⟩
        have HNM := Lib.hid (fun h0 h1 h2 => name_ok HL.out.1 HL.out.2 h0 h1 h2)
        clear c2 f1 hR hcv HL
        generalize text l = tx at *
        rintro w3 h3
        have c2 : w3.cell? ⟨P, 2, none⟩ = some (.string tx) := (h3.out.2.1.cell 2).trans rfl
        by_cases q0 : tx = ⟨#[]⟩
        · subst q0
          as_aux_lemma =>
            have f1 := h3.out.2.1.frozen 2
            go_upto_region 14 with (fail)
            refine gen_world (fun w' => Hid (Below w.heap.size w w' ∧ Blk w' P #[.int .i64 a, .int .i64 b, .string ⟨#[120]⟩, .int .i64 sl] 61 ∧ Blk w' P1 #[.int .i64 0, .int .i64 0, .string ⟨#[]⟩, .int .i64 0] 61)) ?_ ?_
            · exact ⟨h3.out.1.setCell HGE.out _, h3.out.2.1.put 2 _, h3.out.2.2.far HNE.out.2.1 _⟩
            clear c2 f1 h3 w3
            rintro w3 h3
            have hk := h3.out.2.1
            have hk1 := h3.out.2.2
            go_wp2_with (first | (refine wpList_load_row rfl 61 _ rfl P rfl 61 #[.int .i64 a, .int .i64 b, .string ⟨#[120]⟩, .int .i64 sl] (0, 0) _ hk Try.underlying61 rfl (by kernel_rfl) ?_) | (refine wpList_store_row rfl 61 _ _ rfl P1 #[.int .i64 a, .int .i64 b, .string ⟨#[120]⟩, .int .i64 sl] rfl rfl 61 _ hk1 (by kernel_rfl) rfl (by kernel_rfl) ?_))
            refine gen_body (fun w9 => Hid (Blk w9 P1 #[.int .i64 a, .int .i64 b, .string ⟨#[120]⟩, .int .i64 sl] 61 ∧ Below w.heap.size w w9)) ?_ ?_
            · exact ⟨setRow_heap _ _ _ _ _ _ hk1, h3.out.1.trans ((NodeCells.only_row _ _ _).below HNE.out.2.2)⟩
            rintro w9 h9
            have hlv := run_loadVar_row (P := Try.prog) w9 P1 61 61 #[.int .i64 a, .int .i64 b, .string ⟨#[120]⟩, .int .i64 sl] (0, 0) _ h9.out.1 Try.underlying61 rfl (by kernel_rfl)
            exact bodyPost_ret (v := .agg #[.int .i64 a, .int .i64 b, .string ⟨#[120]⟩, .int .i64 sl]) (by simp [results, Try.results39, asAddr, hlv]) rfl ⟨a, b, _, ⟨HAB.out.1, HAB.out.2.1, HAB.out.2.2.1, HAB.out.2.2.2, by decide⟩, rfl, h9.out.2⟩
        by_cases q1 : tx = ⟨#[46]⟩
        · subst q1
          as_aux_lemma =>
            have f1 := h3.out.2.1.frozen 2
            go_upto_region 14 with (fail)
            refine gen_world (fun w' => Hid (Below w.heap.size w w' ∧ Blk w' P #[.int .i64 a, .int .i64 b, .string ⟨#[120]⟩, .int .i64 sl] 61 ∧ Blk w' P1 #[.int .i64 0, .int .i64 0, .string ⟨#[]⟩, .int .i64 0] 61)) ?_ ?_
            · exact ⟨h3.out.1.setCell HGE.out _, h3.out.2.1.put 2 _, h3.out.2.2.far HNE.out.2.1 _⟩
            clear c2 f1 h3 w3
            rintro w3 h3
            have hk := h3.out.2.1
            have hk1 := h3.out.2.2
            go_wp2_with (first | (refine wpList_load_row rfl 61 _ rfl P rfl 61 #[.int .i64 a, .int .i64 b, .string ⟨#[120]⟩, .int .i64 sl] (0, 0) _ hk Try.underlying61 rfl (by kernel_rfl) ?_) | (refine wpList_store_row rfl 61 _ _ rfl P1 #[.int .i64 a, .int .i64 b, .string ⟨#[120]⟩, .int .i64 sl] rfl rfl 61 _ hk1 (by kernel_rfl) rfl (by kernel_rfl) ?_))
            refine gen_body (fun w9 => Hid (Blk w9 P1 #[.int .i64 a, .int .i64 b, .string ⟨#[120]⟩, .int .i64 sl] 61 ∧ Below w.heap.size w w9)) ?_ ?_
            · exact ⟨setRow_heap _ _ _ _ _ _ hk1, h3.out.1.trans ((NodeCells.only_row _ _ _).below HNE.out.2.2)⟩
            rintro w9 h9
            have hlv := run_loadVar_row (P := Try.prog) w9 P1 61 61 #[.int .i64 a, .int .i64 b, .string ⟨#[120]⟩, .int .i64 sl] (0, 0) _ h9.out.1 Try.underlying61 rfl (by kernel_rfl)
            exact bodyPost_ret (v := .agg #[.int .i64 a, .int .i64 b, .string ⟨#[120]⟩, .int .i64 sl]) (by simp [results, Try.results39, asAddr, hlv]) rfl ⟨a, b, _, ⟨HAB.out.1, HAB.out.2.1, HAB.out.2.2.1, HAB.out.2.2.2, by decide⟩, rfl, h9.out.2⟩
        by_cases q2 : tx = ⟨#[46, 46]⟩
        · subst q2
          as_aux_lemma =>
            have f1 := h3.out.2.1.frozen 2
            go_upto_region 14 with (fail)
            refine gen_world (fun w' => Hid (Below w.heap.size w w' ∧ Blk w' P #[.int .i64 a, .int .i64 b, .string ⟨#[120]⟩, .int .i64 sl] 61 ∧ Blk w' P1 #[.int .i64 0, .int .i64 0, .string ⟨#[]⟩, .int .i64 0] 61)) ?_ ?_
            · exact ⟨h3.out.1.setCell HGE.out _, h3.out.2.1.put 2 _, h3.out.2.2.far HNE.out.2.1 _⟩
            clear c2 f1 h3 w3
            rintro w3 h3
            have hk := h3.out.2.1
            have hk1 := h3.out.2.2
            go_wp2_with (first | (refine wpList_load_row rfl 61 _ rfl P rfl 61 #[.int .i64 a, .int .i64 b, .string ⟨#[120]⟩, .int .i64 sl] (0, 0) _ hk Try.underlying61 rfl (by kernel_rfl) ?_) | (refine wpList_store_row rfl 61 _ _ rfl P1 #[.int .i64 a, .int .i64 b, .string ⟨#[120]⟩, .int .i64 sl] rfl rfl 61 _ hk1 (by kernel_rfl) rfl (by kernel_rfl) ?_))
            refine gen_body (fun w9 => Hid (Blk w9 P1 #[.int .i64 a, .int .i64 b, .string ⟨#[120]⟩, .int .i64 sl] 61 ∧ Below w.heap.size w w9)) ?_ ?_
            · exact ⟨setRow_heap _ _ _ _ _ _ hk1, h3.out.1.trans ((NodeCells.only_row _ _ _).below HNE.out.2.2)⟩
            rintro w9 h9
            have hlv := run_loadVar_row (P := Try.prog) w9 P1 61 61 #[.int .i64 a, .int .i64 b, .string ⟨#[120]⟩, .int .i64 sl] (0, 0) _ h9.out.1 Try.underlying61 rfl (by kernel_rfl)
            exact bodyPost_ret (v := .agg #[.int .i64 a, .int .i64 b, .string ⟨#[120]⟩, .int .i64 sl]) (by simp [results, Try.results39, asAddr, hlv]) rfl ⟨a, b, _, ⟨HAB.out.1, HAB.out.2.1, HAB.out.2.2.1, HAB.out.2.2.2, by decide⟩, rfl, h9.out.2⟩
        obtain ⟨e0, e1, e2⟩ := facts q0 q1 q2
        have HNE2 := Lib.hid (HNM.out q0 q1 q2)
        clear q0 q1 q2 HNM
        as_aux_lemma =>
          go_upto_region 14 with (fail)
          clear c2 e0 e1 e2
          have hk := h3.out.2.1
          have hk1 := h3.out.2.2
          go_wp2_with (first | (refine wpList_load_row rfl 61 _ rfl P rfl 61 #[.int .i64 a, .int .i64 b, .string tx, .int .i64 sl] (0, 0) _ hk Try.underlying61 rfl (by kernel_rfl) ?_) | (refine wpList_store_row rfl 61 _ _ rfl P1 #[.int .i64 a, .int .i64 b, .string tx, .int .i64 sl] rfl rfl 61 _ hk1 (by kernel_rfl) rfl (by kernel_rfl) ?_))
          refine gen_body (fun w9 => Hid (Blk w9 P1 #[.int .i64 a, .int .i64 b, .string tx, .int .i64 sl] 61 ∧ Below w.heap.size w w9)) ?_ ?_
          · exact ⟨setRow_heap _ _ _ _ _ _ hk1, h3.out.1.trans ((NodeCells.only_row _ _ _).below HNE.out.2.2)⟩
          rintro w9 h9
          have hlv := run_loadVar_row (P := Try.prog) w9 P1 61 61 #[.int .i64 a, .int .i64 b, .string tx, .int .i64 sl] (0, 0) _ h9.out.1 Try.underlying61 rfl (by kernel_rfl)
          exact bodyPost_ret (v := .agg #[.int .i64 a, .int .i64 b, .string tx, .int .i64 sl]) (by simp [results, Try.results39, asAddr, hlv, Act.put]) rfl ⟨a, b, _, ⟨HAB.out.1, HAB.out.2.1, HAB.out.2.2.1, HAB.out.2.2.2, HNE2.out⟩, rfl, h9.out.2⟩
end Go.Proofs.Ytefmihbjboacdaa.TameEntry
