/- The law's own helpers on bytes: same, tight, twin, whole, bent. -/
import Derived.Test.YtefmihbjboacdaaReads
import Derived.Laws.MakeOwn
import Derived.Laws.CopyOwn
import Derived.OwnWalk
import Derived.Deep.CutBlock
namespace Go.Proofs.Ytefmihbjboacdaa.Copy
open Go.ChangeShapes Go.WideShapes Go.ChangeAt Go.RowKit
open Go.Proofs.Ytefmihbjboacdaa.Kit Go.Proofs.Ytefmihbjboacdaa.Crc Go.Proofs.Ytefmihbjboacdaa.Reads
set_option linter.unusedVariables false

set_option maxHeartbeats 800000 in
theorem same_any (A A' : Option Addr) (c c' : Nat) (l l' : List UInt8) (w : World) (hn : l.length ≤ 9223372036854775807) (H : Hid (Bytes w A l)) (H' : Hid (Bytes w A' l')) :
    Calls Try.prog 26 #[.slice A l.length c, .slice A' l'.length c'] w fun e w' => e = .returned (.bool (decide (l = l'))) ∧ Still w w' := by
  by_cases hlen : l.length = l'.length
  · have t0 : ((l.length : Int) != (l'.length : Int)) = false := by simp [hlen]
    have hle : l.length ≤ l'.length := by omega
    have HL := Lib.hid hlen
    clear hlen
    go_enter Try.func26, Try.ntmps26
    go_wp2_with fail
    go_loopw [5] (fun i wr => ∃ (k : Nat), i = .int .i64 k ∧ k ≤ l.length ∧ Hid (∀ j (h : j < l.length) (h' : j < l'.length), j < k → l[j] = l'[j]) ∧ Hid (Still w wr)) (fun i _ => l.length - (intOf i).toNat)
    case atStart => exact ⟨0, rfl, Nat.zero_le _, fun j h h' hj => absurd hj (Nat.not_lt_zero j), Still.refl _⟩
    case round =>
      obtain ⟨k, rfl, hk, hall, HS⟩ := hrel
      by_cases hlt : k < l.length
      · obtain ⟨ad, rfl, h0⟩ := H.out k hlt
        obtain ⟨ad', rfl, h1⟩ := H'.out k (by omega)
        rw [← (HS.out.below w.heap.size).cell (World.block_lt_of_cell? w _ h0)] at h0
        rw [← (HS.out.below w.heap.size).cell (World.block_lt_of_cell? w _ h1)] at h1
        have hlt' : k < l'.length := by omega
        have hs : ∀ j (h : j < l.length) (h' : j < l'.length), j < k + 1 → l[k] = l'[k] → l[j] = l'[j] := fun j h h' hj e => by
          by_cases hjk : j = k
          · subst hjk; exact e
          · exact hall.out j h h' (by omega)
        have HSS := Lib.hid hs
        have hb : ¬ l[k] = l'[k] → ¬ l = l' := fun hne e => by subst e; exact hne rfl
        have HBB := Lib.hid hb
        clear hs hb
        by_cases hv : l[k] = l'[k]
        · have HV := Lib.hid hv
          rw [← hv] at h1
          clear hv
          generalize l[k] = y at h0 h1
          go_wp2_with (go_quiet (fail))
          exact ⟨⟨k + 1, by go_num, by omega, fun j h h' hj => HSS.out j h h' hj HV.out, HS.out.drewN _⟩, by simp [intOf]; omega⟩
        · have hne : (v8 l[k] != v8 l'[k]) = true := by simp; intro e; exact hv (v8_inj e)
          have HE := Lib.hid (HBB.out hv)
          clear hv
          generalize v8 l[k] = y at h0 hne
          generalize v8 l'[k] = y' at h1 hne
          go_wp2_with (go_quiet (fail))
          go_ret
          refine ⟨?_, HS.out.drewN _⟩
          show Ending.returned (.bool false) = _
          have := HE.out
          simp [this]
      · go_wp2_with fail
        go_ret
        refine ⟨?_, HS.out⟩
        have e : l = l' := List.ext_getElem HL.out fun j h h' => hall.out j h h' (by omega)
        show Ending.returned (.bool true) = _
        simp [e]
  · have t0 : ((l.length : Int) != (l'.length : Int)) = true := by simp; omega
    have e : decide (l = l') = false := by simp; intro h; exact hlen (congrArg _ h)
    have HE := Lib.hid e
    clear hlen e
    go_enter Try.func26, Try.ntmps26
    go_wp2_with fail
    go_ret
    exact ⟨by rw [HE.out]; rfl, Still.refl _⟩

/-- 'make([]byte, n)', as the walk asks for it -/
theorem make_bytes {P : Program} {T E : TypeId} {i : TypeInfo} (ht : P.underlying T = some (.slice E)) (hi : P.info? E = some i) (hz : i.zero = some (.int .u8 0)) (hs : i.size = 1) (hB : i.bytes = 1)
    (L : Int) (n : Nat) (hL : L = (n : Int)) (hn : n ≤ 281474976710656) (w : World) :
    (Instr.makeSlice T (.int .i64 L) (.int .i64 L)).run P w = .ok (.slice (some ⟨w.heap.size, 0, none⟩) n n) (w.alloc (.cells (bvs (List.replicate n 0)) E)) := by
  subst hL
  have hr := run_make (P := P) w T E i (.int .u8 0) ht hi hz .i64 .i64 n n (by omega) (Int.le_refl _) (by rw [hB]; omega) (by omega)
  simp only [Int.toNat_natCast] at hr
  rw [hr]
  congr 3
  unfold bvs
  rw [hs, Nat.mul_one]
  apply Array.ext
  · simp [madeCells]
  · intro j h1 h2
    simp [madeCells, bv, Value.cells, Nat.mod_one]
    rfl

theorem info5 : (Try.prog.info? 5).map (fun i => (i.zero, i.size, i.bytes)) = some (some (.int .u8 0), 1, 1) := by kernel_rfl

/-- new memory: block B is one of the call's own, and holds these bytes -/
def Made (w w' : World) (B : Nat) (l : List UInt8) : Prop := w.heap.size ≤ B ∧ Below w.heap.size w w' ∧ Blk w' B (bvs l) 5

theorem bvs_list (l : List UInt8) : bvs l = (l.map bv).toArray := rfl
theorem bv_one (l : List UInt8) : ∀ v ∈ l.map bv, v.oneCell' = true := by
  intro v hv
  obtain ⟨y, _, rfl⟩ := List.mem_map.1 hv
  rfl
theorem bytes_src {w : World} {A : Option Addr} {l : List UInt8} (h : Bytes w A l) (hp : 0 < (l.map bv).length) : ∃ ad, A = some ad ∧ ∀ j v, (l.map bv)[j]? = some v → w.cell? (ad.add j) = some v := by
  rw [List.length_map] at hp
  obtain ⟨ad, rfl, _⟩ := h 0 hp
  refine ⟨ad, rfl, fun j v hv => ?_⟩
  obtain ⟨hj, hv2⟩ := List.getElem?_eq_some_iff.1 hv
  rw [List.length_map] at hj
  obtain ⟨ad', e, hc⟩ := h j hj
  obtain rfl := Option.some.inj e
  rw [hc, ← hv2]
  simp [bv]

theorem bvs_splice (cur l : List UInt8) (off : Nat) : ((bvs cur).toList.take off ++ l.map bv ++ (bvs cur).toList.drop (off + (l.map bv).length)).toArray = bvs (cur.take off ++ l ++ cur.drop (off + l.length)) := by
  unfold bvs
  simp
/-- 'copy' of bytes into a block that is known whole -/
theorem copy_bytes {P : Program} {dT sT ty E : TypeId} (hu : P.underlying dT = some (.slice E)) (hs : (P.info? E).map (·.size) = some 1) (w : World) (B off dLen dCap : Nat) (A : Option Addr) (sCap : Nat) (cur l : List UInt8) (t : TypeId)
    (hk : Blk w B (bvs cur) t) (hA : Bytes w A l) (hd : l.length ≤ dLen) (hf : off + l.length ≤ cur.length) :
    ∃ w', (Builtin.copy_ #[dT, sT] ty #[.slice (some ⟨B, off, none⟩) dLen dCap, .slice A l.length sCap]).run P w = .ok (.int .i64 (l.length : Int)) w' ∧ Blk w' B (bvs (cur.take off ++ l ++ cur.drop (off + l.length))) t ∧ Only B w w' := by
  by_cases h0 : l.length = 0
  · obtain rfl := List.eq_nil_of_length_eq_zero h0
    exact ⟨w, run_copy_none w dT sT ty E _ A dLen dCap 0 sCap hu hs (by simp), by simpa using hk, Only.refl _ _⟩
  · obtain ⟨ad, rfl, hsrc⟩ := bytes_src hA (by rw [List.length_map]; omega)
    have hrun := run_copy_row P w dT sT ty E B off dLen dCap ad l.length sCap (bvs cur) t (l.map bv) hu hs hk (by rw [List.length_map]; exact (Nat.min_eq_left hd).symm) hsrc (by unfold bvs; simpa using hf) (bv_one l)
    refine ⟨w.setRow B (bvs (cur.take off ++ l ++ cur.drop (off + l.length))), hrun.trans ?_, ?_, ?_⟩
    · rw [bvs_splice, List.length_map]
      rfl
    · exact setRow_heap w B _ _ t _ hk
    · exact ⟨rfl, rfl, rfl, by simp [World.setRow], fun k hk => setRow_other w B k _ (by omega)⟩

set_option maxHeartbeats 800000 in
theorem tight_any (A : Option Addr) (c : Nat) (l : List UInt8) (w : World) (hn : l.length ≤ 140737488351232) (H : Hid (Bytes w A l)) :
    Calls Try.prog 21 #[.slice A l.length c] w fun e w' => ∃ B, e = .returned (.slice (some ⟨B, 0, none⟩) l.length l.length) ∧ Made w w' B l := by
  obtain ⟨i5, hi, hz0, hz1, hz2⟩ := info_parts info5
  have hmk := make_bytes Try.underlying34 hi hz0 hz1 hz2 (l.length : Int) l.length rfl (by omega)
  obtain ⟨w2, hrun, hk2, ho2⟩ := copy_bytes (P := Try.prog) (dT := 34) (sT := 34) (ty := 3) Try.underlying34 (by kernel_rfl) (w.alloc (.cells (bvs (List.replicate l.length 0)) 5)) w.heap.size 0 l.length l.length A c (List.replicate l.length 0) l 5
    (Blk.new _ _ _) (H.out.below ((Below.refl _ _).alloc (Nat.le_refl _) _)) (Nat.le_refl _) (by simp)
  have HK2 := Lib.hid hk2
  have HO2 := Lib.hid ho2
  clear hi hz0 hz1 hz2 hk2 ho2
  have HN := Lib.hid hn
  clear hn
  go_enter Try.func21, Try.ntmps21
  go_wp2_with fail
  go_ret
  refine ⟨w.heap.size, rfl, Nat.le_refl _, ((Below.refl _ _).alloc (Nat.le_refl _) _).trans (HO2.out.below (Nat.le_refl _)), ?_⟩
  have := HK2.out
  simpa using this

theorem bvs_set (l : List UInt8) (i : Nat) (y : UInt8) : (bvs l).setIfInBounds i (.int .u8 (v8 y)) = bvs (l.set i y) := by
  unfold bvs
  simp [List.map_set, bv]
theorem bvs_size (l : List UInt8) : (bvs l).size = l.length := by simp [bvs]
/-- the spare room, filled so far -/
def filled (l : List UInt8) (n j : Nat) : List UInt8 := l ++ List.replicate (j - l.length) 0xA5 ++ List.replicate (l.length + n - j) 0
theorem filled_length (l : List UInt8) (n j : Nat) (h : l.length ≤ j) (h' : j ≤ l.length + n) : (filled l n j).length = l.length + n := by
  unfold filled
  simp
  omega
theorem filled_set (l : List UInt8) (n j : Nat) (h : l.length ≤ j) (h' : j < l.length + n) : (filled l n j).set j 0xA5 = filled l n (j + 1) := by
  unfold filled
  rw [List.set_append_right _ _ (by simp; omega), List.length_append, List.length_replicate]
  have e1 : j - (l.length + (j - l.length)) = 0 := by omega
  have e2 : l.length + n - j = (l.length + n - (j + 1)) + 1 := by omega
  have e3 : j + 1 - l.length = (j - l.length) + 1 := by omega
  rw [e1, e2, e3, List.replicate_succ, List.set_cons_zero, List.replicate_succ' (n := j - l.length)]
  simp
theorem filled_end (l : List UInt8) (n : Nat) : filled l n (l.length + n) = l ++ List.replicate n 0xA5 := by
  unfold filled
  simp
theorem filled_start (l : List UInt8) (n : Nat) : filled l n l.length = l ++ List.replicate n 0 := by
  unfold filled
  simp

set_option maxHeartbeats 1600000 in
theorem twin_any (A : Option Addr) (c : Nat) (l : List UInt8) (n : Nat) (w : World) (hn : l.length ≤ 140737488351232) (hn5 : n ≤ 1000) (H : Hid (Bytes w A l)) :
    Calls Try.prog 18 #[.slice A l.length c, .int .i64 n] w fun e w' => ∃ B, e = .returned (.slice (some ⟨B, 0, none⟩) l.length (l.length + n)) ∧ Made w w' B (l ++ List.replicate n 0xA5) := by
  obtain ⟨i5, hi, hz0, hz1, hz2⟩ := info_parts info5
  have hmk := make_bytes Try.underlying34 hi hz0 hz1 hz2 ((l.length : Int) + (n : Int)) (l.length + n) (by omega) (by omega)
  obtain ⟨w2, hrun, hk2, ho2⟩ := copy_bytes (P := Try.prog) (dT := 34) (sT := 34) (ty := 3) Try.underlying34 (by kernel_rfl) (w.alloc (.cells (bvs (List.replicate (l.length + n) 0)) 5)) w.heap.size 0 (l.length + n) (l.length + n) A c (List.replicate (l.length + n) 0) l 5
    (Blk.new _ _ _) (H.out.below ((Below.refl _ _).alloc (Nat.le_refl _) _)) (by omega) (by simp)
  have hk3 : Blk w2 w.heap.size (bvs (filled l n l.length)) 5 := by
    rw [filled_start]
    simpa using hk2
  have hb3 : Below w.heap.size w w2 := ((Below.refl _ _).alloc (Nat.le_refl _) _).trans (ho2.below (Nat.le_refl _))
  have HK3 := Lib.hid hk3
  have HB3 := Lib.hid hb3
  clear hi hz0 hz1 hz2 hk2 ho2 hk3 hb3
  have h1 : l.length + n ≤ 9223372036854775807 := by omega
  have HN := Lib.hid hn
  clear hn
  go_enter Try.func18, Try.ntmps18
  go_wp2_with fail
  generalize hB : w.heap.size = B at *
  have HBB := Lib.hid hB
  clear hB hmk hrun
  go_loopw [7] (fun i wr => ∃ (j : Nat), i = .int .i64 j ∧ l.length ≤ j ∧ j ≤ l.length + n ∧ Hid (Blk wr B (bvs (filled l n j)) 5) ∧ Hid (Below B w wr)) (fun i _ => l.length + n - (intOf i).toNat)
  case atStart => exact ⟨l.length, rfl, Nat.le_refl _, by omega, HK3, HB3⟩
  case round =>
    obtain ⟨j, rfl, hj1, hj2, HK, HB⟩ := hrel
    by_cases hlt : j < l.length + n
    · have hsz := filled_length l n j hj1 hj2
      obtain ⟨y, hc⟩ : ∃ y, wr.cell? ⟨B, j, none⟩ = some (.int .u8 y) := ⟨_, (HK.out.cell j).trans (bvs_get _ _ (by omega))⟩
      have hf := HK.out.frozen j
      clear hsz
      go_wp2_with fail
      refine ⟨⟨j + 1, by go_num, by omega, by omega, ?_, HB.out.setCell (Nat.le_refl _) _⟩, by simp [intOf]; omega⟩
      have := HK.out.put j (.int .u8 (v8 0xA5))
      rw [bvs_set, filled_set l n j hj1 hlt] at this
      exact this
    · go_wp2_with fail
      go_ret
      have e : j = l.length + n := by omega
      have hk := HK.out
      rw [e, filled_end] at hk
      have hB2 := HBB.out
      subst hB2
      exact ⟨w.heap.size, rfl, Nat.le_refl _, HB.out, hk⟩

set_option maxHeartbeats 1600000 in
/-- 'whole': the twin of the list that came in is whole -/
theorem whole_any (A : Option Addr) (c B : Nat) (l : List UInt8) (n : Nat) (w : World) (hn : l.length ≤ 140737488351232) (hn5 : n ≤ 1000) (H : Hid (Bytes w A l)) (HK : Hid (Blk w B (bvs (l ++ List.replicate n 0xA5)) 5)) :
    Calls Try.prog 20 #[.slice (some ⟨B, 0, none⟩) l.length (l.length + n), .slice A l.length c, .int .i64 n] w fun e w' => e = .returned (.bool true) ∧ Still w w' := by
  have h1 : l.length + n ≤ 9223372036854775807 := by omega
  have HN := Lib.hid hn
  clear hn
  go_enter Try.func20, Try.ntmps20
  go_wp2_with fail
  refine (same_any _ _ _ _ l l _ (by omega) (Bytes.own HK.out) H).mono ?_
  rw [decide_eq_true (rfl : l = l)]
  rintro e w2 ⟨rfl, hs⟩
  have HS := Lib.hid hs
  clear hs
  go_wp2_with fail
  go_loop [8] (fun i => ∃ (j : Nat), i = .int .i64 j ∧ l.length ≤ j ∧ j ≤ l.length + n) (fun i => l.length + n - (intOf i).toNat)
  case atStart => exact ⟨l.length, rfl, Nat.le_refl _, by omega⟩
  case round =>
    obtain ⟨j, rfl, hj1, hj2⟩ := hrel
    by_cases hlt : j < l.length + n
    · have hc : w2.cell? ⟨B, j, none⟩ = some (.int .u8 165) := by
        rw [(HS.out.blk HK.out).cell, bvs_get _ _ (by simp; omega), List.getElem_append_right hj1]
        simp
        decide
      go_wp2_with fail
      exact ⟨⟨j + 1, by go_num, by omega, by omega⟩, by simp [intOf]; omega⟩
    · go_wp2_with fail
      go_ret
      exact ⟨rfl, HS.out⟩

set_option maxHeartbeats 1600000 in
/-- 'bent' where there is no byte -/
theorem bent_none (B c : Nat) (k : Int) (w : World) : Calls Try.prog 22 #[.slice (some ⟨B, 0, none⟩) 0 c, .int .i64 k] w fun e w' => e = .returned (.bool false) ∧ Still w w' := by
  go_enter Try.func22, Try.ntmps22
  go_wp2_with fail
  go_ret
  exact ⟨rfl, Still.refl _⟩

set_option maxHeartbeats 1600000 in
/-- 'bent': one byte of a list in memory of one's own is turned -/
theorem bent_some (B c : Nat) (l : List UInt8) (k : Nat) (w : World) (h0 : 0 < l.length) (hn : l.length ≤ 9223372036854775807) (hk : k ≤ 9223372036854775807) (HK : Hid (Blk w B (bvs l) 5)) :
    Calls Try.prog 22 #[.slice (some ⟨B, 0, none⟩) l.length c, .int .i64 k] w fun e w' => e = .returned (.bool true) ∧ Hid (Only B w w' ∧ ∃ l2 : List UInt8, l2.length = l.length ∧ Blk w' B (bvs l2) 5) := by
  have t0 : ((l.length : Int) == 0) = false := beq_eq_false_iff_ne.2 (by omega)
  have hm : k % l.length < l.length := Nat.mod_lt _ h0
  obtain ⟨y, hc⟩ : ∃ y : UInt8, w.cell? ⟨B, k % l.length, none⟩ = some (.int .u8 (v8 y)) := ⟨_, (HK.out.cell _).trans (bvs_get _ _ hm)⟩
  have hf := HK.out.frozen (k % l.length)
  have hm2 : (k : Int) % (l.length : Int) < (l.length : Int) := Int.emod_lt_of_pos _ (by omega)
  have hm3 : 0 ≤ (k : Int) % (l.length : Int) := Int.emod_nonneg _ (by omega)
  have hm4 : ((k : Int) % (l.length : Int)).toNat = k % l.length := by
    rw [← Int.natCast_emod, Int.toNat_natCast]
  go_enter Try.func22, Try.ntmps22
  go_wp2_with fail
  go_region
  go_wp2_with fail
  go_ret
  refine ⟨rfl, ((Only.refl B w).setCell ⟨B, k % l.length, none⟩ rfl _).drew, l.set (k % l.length) (y ^^^ 90), by simp, ?_⟩
  have e : bits BinOp.xor IntKind.u8 (v8 y) 90 = v8 (y ^^^ 90) := v8_xor y 90
  rw [e]
  have := (HK.out.put (k % l.length) (.int .u8 (v8 (y ^^^ 90)))).drew
  rw [bvs_set] at this
  exact this
/-- 'bent' of a list of whatever length, in memory of one's own, at a place that is not below 0 -/
theorem bent_any (B c n : Nat) (l : List UInt8) (q : Int) (w : World) (hl : l.length = n) (h0 : 0 ≤ q ∨ n = 0) (h1 : q ≤ 9223372036854775807 ∨ n = 0) (hn : n ≤ 9223372036854775807) (HK : Hid (Blk w B (bvs l) 5)) :
    Calls Try.prog 22 #[.slice (some ⟨B, 0, none⟩) n c, .int .i64 q] w fun e w' => ∃ b, e = .returned (.bool b) ∧ Hid (Only B w w' ∧ ∃ l2 : List UInt8, l2.length = n ∧ Blk w' B (bvs l2) 5) := by
  subst hl
  by_cases hz : l.length = 0
  · rw [hz]
    refine (bent_none B c q w).mono ?_
    rintro e w' ⟨rfl, hs⟩
    exact ⟨_, rfl, ⟨hs.os, hs.tape, hs.output, by rw [hs.heap], fun k _ => by rw [hs.heap]⟩, l, hz, hs.blk HK.out⟩
  · have hq : 0 ≤ q := by omega
    obtain ⟨k, rfl⟩ := Int.eq_ofNat_of_zero_le hq
    refine (bent_some B c l k w (by omega) hn (by omega) HK).mono ?_
    rintro e w' ⟨rfl, h⟩
    exact ⟨_, rfl, h⟩
end Go.Proofs.Ytefmihbjboacdaa.Copy
