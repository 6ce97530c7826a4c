/- escaped, clear1, matches: what they answer. -/
import Derived.Test.YtcdhkeahcliefaaGlobRun
import Derived.Test.YtcdhkeahcliefaaPatMatch
import Derived.Laws.BytesArg
import Derived.Laws.Strings
namespace Go.Proofs.Ytcdhkeahcliefaa.GlobWalk
open Go.ChangeShapes Go.WideShapes Go.ChangeAt Go.RowKit
open Go.Proofs.Ytcdhkeahcliefaa.Kit Go.Proofs.Ytcdhkeahcliefaa.Pat Go.Proofs.Ytcdhkeahcliefaa.PatA Go.Proofs.Ytcdhkeahcliefaa.PatSet Go.Proofs.Ytcdhkeahcliefaa.PatCompile Go.Proofs.Ytcdhkeahcliefaa.Glob Go.Proofs.Ytcdhkeahcliefaa.GlobRun
set_option linter.unusedVariables false

def v8 (y : UInt8) : Int := (y.toNat : Int)
def bv (y : UInt8) : Value := .int .u8 (v8 y)
/-- bytes as a text -/
def text (l : List UInt8) : ByteArray := ⟨l.toArray⟩
theorem bs_text (l : List UInt8) : bs (text l) = l.map UInt8.toNat := by
  unfold bs text
  simp
theorem nums_text (l : List UInt8) : strOfNums (l.map v8) = text l := by
  unfold strOfNums text
  rw [List.map_map]
  congr 2
  conv => rhs; rw [← List.map_id l]
  congr 1
  funext y
  simp [v8]
/-- bytes of one's own as a text -/
theorem string_own {w : World} {base n : Nat} {v : Value} {l : List UInt8} (h : w.ownsRow base 5 1 v n (l.map bv)) : (convert 39 9 v).run Try.prog w = .ok (.string (text l)) w := by
  have hl : l.length = n := by have := h.1; rw [List.length_map, Nat.mul_one] at this; exact this
  rcases h.2 with ⟨rfl, h0⟩ | ⟨g, cap, cur, rfl, hb, hg, h1, h2, h3, h4⟩
  · obtain rfl := List.eq_nil_of_length_eq_zero (hl.trans h0)
    rw [run_convert_bytes_string w 39 9 5 _ _ 0 Try.underlying39 Try.underlying5 Try.underlying9]
    simp [Conv.bytesToString]
    rfl
  · have hk : Blk w g cur 5 := hg
    have hc : (loadCells ⟨g, 0, none⟩ l.length).run Try.prog w = .ok ((l.map v8).map (Value.int .u8)).toArray w := by
      have := run_loadCells_list (P := Try.prog) w ⟨g, 0, none⟩ ((l.map v8).map (Value.int .u8)) (fun j u hu => by
        rw [add_block, hk.cell, ← Array.getElem?_toList]
        rw [List.map_map] at hu
        have e : (l.map bv)[j]? = some u := hu
        rw [← h4, List.getElem?_take] at e
        split at e
        · exact e
        · cases e)
      simpa using this
    subst hl
    rw [run_convert_bytes_string w 39 9 5 _ _ cap Try.underlying39 Try.underlying5 Try.underlying9, run_bytesToString w _ _ cap (l.map v8) hc, foldl_push_bytes]
    rw [← nums_text]
    simp [strOfNums, ByteArray.empty, ByteArray.emptyWithCapacity]
    rfl
def escB (l : List UInt8) : List UInt8 := l.flatMap fun c => [92, c]
theorem escB_length (l : List UInt8) : (escB l).length = 2 * l.length := by
  induction l with
  | nil => rfl
  | cons c l ih =>
    show ([92, c] ++ escB l).length = _
    rw [List.length_append, ih, List.length_cons]
    simp
    omega
theorem escB_snoc (l : List UInt8) (c : UInt8) : escB (l ++ [c]) = escB l ++ [92, c] := by
  unfold escB
  rw [List.flatMap_append]
  simp
/-- the pattern that has just this text -/
def escText (s : ByteArray) : ByteArray := text (escB s.data.toList)
theorem bs_esc (s : ByteArray) : bs (escText s) = esc (bs s) := by
  unfold escText
  rw [bs_text]
  unfold escB esc bs
  induction s.data.toList with
  | nil => rfl
  | cons c l ih =>
    show List.map UInt8.toNat ([92, c] ++ l.flatMap fun c => [92, c]) = [92, c.toNat] ++ _
    rw [List.map_append, ih]
    rfl
theorem info5 : (Try.prog.info? 5).map (fun i => (i.zero, i.size, i.bytes)) = some (some (.int .u8 0), 1, 1) := by kernel_rfl
theorem gb_get (s : ByteArray) (k : Nat) (h : k < s.size) : ∃ y : UInt8, gb s k = y.toNat ∧ s.data.toList.take (k + 1) = s.data.toList.take k ++ [y] := by
  have h2 : k < s.data.toList.length := by rw [Array.length_toList]; exact h
  refine ⟨s.data.toList[k], ?_, List.take_succ_eq_append_getElem h2⟩
  unfold gb
  rw [Array.getD_eq_getD_getElem?, ← Array.getElem?_toList, List.getElem?_eq_getElem h2]
  rfl

set_option maxRecDepth 100000 in
set_option maxHeartbeats 3200000 in
theorem escaped_any (s : ByteArray) (w : World) (hs : s.size ≤ 1048576) : Calls Try.prog 12 #[.string s] w fun e w' => e = .returned (.string (escText s)) ∧ Hid (Below w.heap.size w w') := by
  obtain ⟨i5, hi, hz0, hz1, hz2⟩ := info_parts info5
  have HI := Lib.hid (And.intro hi (And.intro hz0 (And.intro hz1 hz2)))
  have HS := Lib.hid hs
  clear hi hz0 hz1 hz2 hs
  go_enter Try.func12, Try.ntmps12
  go_wp2_with fail
  go_loopg [4, 3] s.size (fun g i v wr => ∃ (k : Nat), g = s.size - k ∧ k ≤ s.size ∧ i = .int .i64 k ∧ Hid (Below w.heap.size w wr ∧ wr.ownsRow w.heap.size 5 1 v (2 * k) ((escB (s.data.toList.take k)).map bv)))
  case atStart => exact ⟨0, rfl, Nat.zero_le _, rfl, Below.refl _ _, rfl, .inl ⟨rfl, rfl⟩⟩
  case round =>
    obtain ⟨k, rfl, hk, rfl, h1⟩ := hrel
    have hk9 : (k : Int) ≤ 1048576 := by have := HS.out; omega
    by_cases hlt : k < s.size
    · have hlti : (k : Int) < (s.size : Int) := by omega
      have hx := index_gb s k hlt
      obtain ⟨y, hy, hty⟩ := gb_get s k hlt
      rw [hy] at hx
      have HSN : Hid ((escB (s.data.toList.take k)).map bv ++ [Value.int .u8 92, Value.int .u8 (y.toNat : Int)] = (escB (s.data.toList.take (k + 1))).map bv) := by
        show _ = _
        rw [hty, escB_snoc, List.map_append]
        rfl
      clear hy hty
      have HLT := Lib.hid hlt
      clear hlt hk
      generalize (escB (s.data.toList.take k)).map bv = xs at *
      have C1 : Hid (∀ j u, [Value.int .u8 92, Value.int .u8 (y.toNat : Int)][j]? = some u → (wr.alloc (.cells #[Value.int .u8 92, Value.int .u8 (y.toNat : Int)] 5)).cell? ((⟨wr.heap.size, 0, none⟩ : Addr).add j) = some u) := fun j u hu => by
        rw [add_block, (Blk.new wr #[Value.int .u8 92, Value.int .u8 (y.toNat : Int)] 5).cell j]
        simpa using hu
      have C2 : Hid (∀ u ∈ [Value.int .u8 92, Value.int .u8 (y.toNat : Int)], u.oneCell' = true) := fun u hu => by
        simp at hu
        rcases hu with rfl | rfl <;> rfl
      have C3 : Hid (2 * k + 2 ≤ maxLen) := by have := HLT.out; have := HS.out; show _ ≤ _; unfold maxLen; omega
      have C4 : Hid ((2 * k + 2) * 1 ≤ 140737488355328) := by have := HLT.out; have := HS.out; show _ ≤ _; omega
      have C5 : Hid (w.heap.size ≤ (wr.alloc (.cells #[Value.int .u8 92, Value.int .u8 (y.toNat : Int)] 5)).heap.size) := by have := h1.out.1.size; show _ ≤ _; simp; omega
      have C6 : Hid ((wr.alloc (.cells #[Value.int .u8 92, Value.int .u8 (y.toNat : Int)] 5)).ownsRow w.heap.size 5 1 u3 (2 * k) xs) := owns_chg h1.out.2 (Chg.ofBelow (S := fun _ => False) ((Below.refl _ _).alloc (Nat.le_refl _) _)) (fun _ _ h => h)
      go_wp2_with (first | (at_builtin; go_loud (refine wpList_append_own _ rfl (.tmp 11) (.tmp 15) 39 rfl w.heap.size 5 i5 (.int .u8 0) 1 1 Try.underlying39 HI.out.1 HI.out.2.1 HI.out.2.2.1 HI.out.2.2.2 rfl (by decide) u3 (2 * k) xs rfl C6.out ⟨wr.heap.size, 0, none⟩ 2 2 [Value.int .u8 92, Value.int .u8 (y.toNat : Int)] rfl rfl C1.out C2.out C3.out C4.out C5.out ?_); intro v' w7 hown7 hgrow7 _; have HOWN7 := Lib.hid hown7; have HGROW7 := Lib.hid hgrow7; clear hown7 hgrow7))
      have hg : Below w.heap.size (wr.alloc (.cells #[Value.int .u8 92, Value.int .u8 (y.toNat : Int)] 5)) w7 := ⟨HGROW7.out.os, HGROW7.out.tape, HGROW7.out.output, HGROW7.out.size, fun k hk => HGROW7.out.block k (Nat.lt_of_lt_of_le hk C5.out) (owns_apart C6.out k hk)⟩
      have hb7 : Below w.heap.size w w7 := h1.out.1.trans (((Below.refl _ _).alloc h1.out.1.size _).trans hg)
      go_roundg (s.size - (k + 1))
      case measure => have := HLT.out; omega
      case rel =>
        refine ⟨k + 1, rfl, HLT.out, by go_num, hb7, ?_⟩
        have h := HOWN7.out
        rw [HSN.out] at h
        exact h
    · obtain rfl : k = s.size := by omega
      have hlti : ¬ ((s.size : Int) < (s.size : Int)) := by omega
      have e : s.data.toList.take s.size = s.data.toList := by
        rw [List.take_of_length_le]
        rw [Array.length_toList]
        exact Nat.le_refl _
      have hcv := string_own (l := escB s.data.toList) (by have h := h1.out.2; rw [e] at h; exact h)
      clear e
      go_wp2_with fail
      go_ret
      exact ⟨rfl, h1.out.1⟩
set_option maxRecDepth 100000 in
set_option maxHeartbeats 1600000 in
theorem clear_any (m : ByteArray) (w : World) (hs : m.size ≤ 1048576) : Calls Try.prog 13 #[.string m] w fun e w' => e = .returned (.bool (clear1 m)) ∧ Hid (Below w.heap.size w w') := by
  have HS := Lib.hid hs
  clear hs
  go_enter Try.func13, Try.ntmps13
  go_wp2_with fail
  go_loopg [3] m.size (fun g i wr => ∃ (k : Nat), g = m.size - k ∧ k ≤ m.size ∧ i = .int .i64 k ∧ w = wr ∧ Hid (∀ q, q < k → (gb m q != 47) = true))
  case atStart => exact ⟨0, rfl, Nat.zero_le _, rfl, rfl, fun q h => absurd h (Nat.not_lt_zero q)⟩
  case round =>
    obtain ⟨k, rfl, hk, rfl, rfl, HQ⟩ := hrel
    have hk9 : (k : Int) ≤ 1048576 := by have := HS.out; omega
    by_cases hlt : k < m.size
    · have hlti : (k : Int) < (m.size : Int) := by omega
      have hx := index_gb m k hlt
      have HLT := Lib.hid hlt
      clear hlt hk
      by_cases hy : gb m k = 47
      · have HF : Hid (clear1 m = false) := by
          show _ = _
          cases hc : clear1 m with
          | false => rfl
          | true =>
            have := (clear1_iff m).1 hc k HLT.out
            rw [hy] at this
            exact absurd this (by decide)
        rw [hy] at hx
        clear hy
        go_wp2_with fail
        go_ret
        exact ⟨by rw [HF.out]; rfl, Below.refl _ _⟩
      · have HQ2 : Hid (∀ q, q < k + 1 → (gb m q != 47) = true) := fun q hq => by
          by_cases h : q = k
          · subst h; exact bne_iff_ne.2 hy
          · exact HQ.out q (by omega)
        have e1 : ((gb m k : Int) == 47) = false := beq_eq_false_iff_ne.2 (by omega)
        clear hy
        generalize gb m k = y at hx e1
        go_wp2_with fail
        go_roundg (m.size - (k + 1))
        case measure => have := HLT.out; omega
        case rel => exact ⟨k + 1, rfl, HLT.out, by go_num, rfl, HQ2⟩
    · obtain rfl : k = m.size := by omega
      have hlti : ¬ ((m.size : Int) < (m.size : Int)) := by omega
      have HF : Hid (clear1 m = true) := (clear1_iff m).2 HQ.out
      go_wp2_with fail
      go_ret
      exact ⟨by rw [HF.out]; rfl, Below.refl _ _⟩
set_option maxRecDepth 100000 in
set_option maxHeartbeats 1600000 in
theorem matches_any (p t : ByteArray) (want : Bool) (w : World) (hok : Ok p t want) : Calls Try.prog 11 #[.string p, .string t, .bool want] w fun e w' => e = .returned (.bool true) ∧ Hid (Below w.heap.size w w') := by
  have HOK := Lib.hid hok
  clear hok
  go_enter Try.func11, Try.ntmps11
  go_wp2_with fail
  refine (PatMatch.match_any p t _).mono ?_
  rintro e w1 ⟨b, x, ha, rfl, hb⟩
  have hq := HOK.out b x ha
  clear ha
  by_cases h1 : 255 < p.size
  · have h1i : (255 : Int) < (p.size : Int) := by omega
    rw [if_pos (.inl h1)] at hq
    obtain ⟨rfl, rfl⟩ := hq
    clear h1
    go_wp2_with fail
    go_ret
    exact ⟨rfl, hb⟩
  have h1i : ¬ ((255 : Int) < (p.size : Int)) := by omega
  by_cases h2 : 1023 < t.size
  · have h2i : (1023 : Int) < (t.size : Int) := by omega
    rw [if_pos (.inr h2)] at hq
    obtain ⟨rfl, rfl⟩ := hq
    clear h1 h2
    go_wp2_with fail
    go_ret
    exact ⟨rfl, hb⟩
  · have h2i : ¬ ((1023 : Int) < (t.size : Int)) := by omega
    rw [if_neg (by omega)] at hq
    obtain ⟨rfl, rfl⟩ := hq
    clear h1 h2
    go_wp2_with fail
    go_ret
    exact ⟨by simp, hb⟩
end Go.Proofs.Ytcdhkeahcliefaa.GlobWalk
