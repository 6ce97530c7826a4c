/- The document's EncodeEntry: the same 64 bytes. -/
import Derived.Test.YtefmihbjboacdaaEntryEnc
import Derived.Test.YtefmihbjboacdaaRefSuper
namespace Go.Proofs.Ytefmihbjboacdaa.EntryRef
open Go.ChangeShapes Go.WideShapes Go.ChangeAt Go.RowKit
open Go.Proofs.Ytefmihbjboacdaa.Kit Go.Proofs.Ytefmihbjboacdaa.Crc Go.Proofs.Ytefmihbjboacdaa.Reads Go.Proofs.Ytefmihbjboacdaa.Copy Go.Proofs.Ytefmihbjboacdaa.Lay Go.Proofs.Ytefmihbjboacdaa.Writer Go.Proofs.Ytefmihbjboacdaa.SuperEnc Go.Proofs.Ytefmihbjboacdaa.RefSuper Go.Proofs.Ytefmihbjboacdaa.Lists Go.Proofs.Ytefmihbjboacdaa.Name Go.Proofs.Ytefmihbjboacdaa.EntryEnc
set_option linter.unusedVariables false

theorem rname_at (s : ByteArray) (q : Int) (w : World) (h : nameErr s = q) : Calls Try.prog 33 #[.string s] w fun e w' => e = .returned (.int .i64 q) ∧ Below w.heap.size w w' := by
  refine (Name.ref_any s w).mono ?_
  rintro e w' ⟨rfl, hb⟩
  exact ⟨by rw [h], hb.out⟩
theorem lay_st (B c p n N : Nat) (q0 q1 v : Int) (z xs : List UInt8) (w : World) (hz : z.length = N) (hp : p = xs.length) (h0 : q0 = (p : Int)) (h1 : q1 = (n : Int)) (hn : n ≤ 8) (hv0 : 0 ≤ v) (hv : v < 9223372036854775808) (hfit : p + n ≤ N) (hl : N ≤ 140737488351232) (HK : Hid (Blk w B (bvs (put z 0 xs)) 5)) :
    Calls Try.prog 54 #[.slice (some ⟨B, 0, none⟩) N c, .int .i64 q0, .int .i64 q1, .int .i64 v] w fun e w' => e = .returned (.tuple #[]) ∧ Hid (Only B w w' ∧ Blk w' B (bvs (put z 0 (xs ++ leN n v.toNat))) 5) := by
  have hlen : (put z 0 xs).length = z.length := put_length _ _ _ (by omega)
  refine (lay_at B c p n N q0 q1 v (put z 0 xs) w (by rw [hlen, hz]) h0 h1 hn hv0 hv hfit hl HK).mono ?_
  rintro e w' ⟨rfl, h⟩
  refine ⟨rfl, h.out.1, ?_⟩
  have h2 := h.out.2
  rw [put_put (by omega) (by rw [leN_length]; omega)] at h2
  exact h2
def Begun2 (n k : Int) (s : ByteArray) (sl : Int) (l : List UInt8) (w w' : World) : Prop := Below w.heap.size w w' ∧ Blk w' w.heap.size #[.int .i64 n, .int .i64 k, .string s, .int .i64 sl] 61 ∧ Blk w' (w.heap.size + 1) (bvs (put (zs 64) 0 l)) 5
theorem begun2 (n k : Int) (s : ByteArray) (sl : Int) (w : World) : Begun2 n k s sl [] w ((w.alloc (.cells #[.int .i64 n, .int .i64 k, .string s, .int .i64 sl] 61)).alloc (.cells (bvs (zs 64)) 5)) := by
  refine ⟨((Below.refl _ _).alloc (Nat.le_refl _) _).alloc (by simp) _, (Blk.new w _ _).alloc _, ?_⟩
  rw [put_nil]
  have h := Blk.new (w.alloc (.cells #[.int .i64 n, .int .i64 k, .string s, .int .i64 sl] 61)) (bvs (zs 64)) 5
  simpa using h
theorem Begun2.only {n k sl : Int} {s : ByteArray} {l l2 : List UInt8} {w wa wb : World} (h : Begun2 n k s sl l w wa) (ho : Only (w.heap.size + 1) wa wb ∧ Blk wb (w.heap.size + 1) (bvs (put (zs 64) 0 l2)) 5) : Begun2 n k s sl l2 w wb :=
  ⟨h.1.trans (ho.1.below (by omega)), ho.1.blk h.2.1 (by omega), ho.2⟩

set_option maxRecDepth 100000 in
set_option maxHeartbeats 1600000 in
theorem ref_zero (sl : Int) (w : World) :
    Calls Try.prog 36 #[.agg #[.int .i64 0, .int .i64 0, .string ⟨#[]⟩, .int .i64 sl]] w fun e w' => ∃ B, e = .returned (.tuple #[.slice (some ⟨B, 0, none⟩) 64 64, .int .i64 0]) ∧ Made w w' B (zs 64) := by
  obtain ⟨i5, hi, hz0, hz1, hz2⟩ := info_parts info5
  have hmk : ∀ w, (Instr.makeSlice 34 (.int .i64 64) (.int .i64 64)).run Try.prog w = .ok (.slice (some ⟨w.heap.size, 0, none⟩) 64 64) (w.alloc (.cells (bvs (zs 64)) 5)) := make_bytes Try.underlying34 hi hz0 hz1 hz2 64 64 rfl (by omega)
  clear hi hz0 hz1 hz2
  have HB := Lib.hid (begun2 0 0 ⟨#[]⟩ sl w)
  go_enter Try.func36, Try.ntmps36
  go_upto_region 2 with (fail)
  refine gen_world (fun w' => Hid (Begun2 0 0 ⟨#[]⟩ sl [] w w')) HB ?_
  clear HB hmk
  rintro w1 h1
  have c0 : w1.cell? ⟨w.heap.size, 0, none⟩ = some (.int .i64 0) := (h1.out.2.1.cell 0).trans rfl
  have c1 : w1.cell? ⟨w.heap.size, 1, none⟩ = some (.int .i64 0) := (h1.out.2.1.cell 1).trans rfl
  have c2 : w1.cell? ⟨w.heap.size, 2, none⟩ = some (.string ⟨#[]⟩) := (h1.out.2.1.cell 2).trans rfl
  go_wp2_with fail
  go_ret2
  refine ⟨w.heap.size + 1, rfl, by omega, h1.out.1, ?_⟩
  have h := h1.out.2.2
  rw [put_nil] at h
  exact h

set_option maxRecDepth 100000 in
set_option maxHeartbeats 1600000 in
theorem ref_no (n k : Int) (s : ByteArray) (sl : Int) (w : World) (hz : ¬ EZero n k s) (hf : ¬ EFits n k s) :
    Calls Try.prog 36 #[.agg #[.int .i64 n, .int .i64 k, .string s, .int .i64 sl]] w fun e w' => e = .returned (.tuple #[.slice none 0 0, .int .i64 20]) ∧ Below w.heap.size w w' := by
  obtain ⟨i5, hi, hz0, hz1, hz2⟩ := info_parts info5
  have hmk : ∀ w, (Instr.makeSlice 34 (.int .i64 64) (.int .i64 64)).run Try.prog w = .ok (.slice (some ⟨w.heap.size, 0, none⟩) 64 64) (w.alloc (.cells (bvs (zs 64)) 5)) := make_bytes Try.underlying34 hi hz0 hz1 hz2 64 64 rfl (by omega)
  clear hi hz0 hz1 hz2
  have HZ := Lib.hid (not_zero hz)
  have HF := Lib.hid (not_fits hf)
  clear hz hf
  have HB := Lib.hid (begun2 n k s sl w)
  go_enter Try.func36, Try.ntmps36
  go_upto_region 2 with (fail)
  refine gen_world (fun w' => Hid (Begun2 n k s sl [] w w')) HB ?_
  clear HB hmk
  rintro w1 h1
  have c0 : w1.cell? ⟨w.heap.size, 0, none⟩ = some (.int .i64 n) := (h1.out.2.1.cell 0).trans rfl
  have c1 : w1.cell? ⟨w.heap.size, 1, none⟩ = some (.int .i64 k) := (h1.out.2.1.cell 1).trans rfl
  have c2 : w1.cell? ⟨w.heap.size, 2, none⟩ = some (.string s) := (h1.out.2.1.cell 2).trans rfl
  rcases HZ.out with hn | ⟨rfl, hk⟩ | ⟨rfl, rfl, hs⟩
  · clear HZ
    rcases HF.out with hx | ⟨hx, hy⟩ | ⟨hx, hy, hw⟩
    · clear HF
      by_cases h01 : n < 1
      · go_wp2_with fail
        go_ret2
        exact ⟨rfl, h1.out.1⟩
      · have h02 : 1024 < n := by omega
        go_wp2_with fail
        go_ret2
        exact ⟨rfl, h1.out.1⟩
    · clear HF
      obtain ⟨hx1, hx2⟩ := hx
      by_cases h01 : k < 1
      · go_wp2_with fail
        go_ret2
        exact ⟨rfl, h1.out.1⟩
      · have h02 : 3 < k := by omega
        go_wp2_with fail
        go_ret2
        exact ⟨rfl, h1.out.1⟩
    · clear HF
      obtain ⟨hx1, hx2⟩ := hx
      obtain ⟨hy1, hy2⟩ := hy
      go_wp2_with fail
      obtain ⟨q, hq⟩ : ∃ q, nameErr s = q := ⟨_, rfl⟩
      refine (rname_at s q _ hq).mono ?_
      rw [hq] at hw
      have t0 : (q != 0) = true := by simp [hw]
      clear hq
      rintro e w2 ⟨rfl, hb'⟩
      have hb := Lib.hid hb'
      clear hb' c0 c1 c2
      go_wp2_with fail
      go_ret2
      exact ⟨rfl, h1.out.1.trans (hb.out.mono h1.out.1.size)⟩
  · clear HZ HF
    go_wp2_with fail
    go_ret2
    exact ⟨rfl, h1.out.1⟩
  · clear HZ HF
    go_wp2_with fail
    go_ret2
    exact ⟨rfl, h1.out.1⟩

set_option maxRecDepth 100000 in
set_option maxHeartbeats 1600000 in
theorem ref_yes (n k : Nat) (s : ByteArray) (sl : Int) (w : World) (hf : EFits n k s) :
    Calls Try.prog 36 #[.agg #[.int .i64 n, .int .i64 k, .string s, .int .i64 sl]] w fun e w' => ∃ B, e = .returned (.tuple #[.slice (some ⟨B, 0, none⟩) 64 64, .int .i64 0]) ∧ Made w w' B (entryBytes n k s.data.toList) := by
  obtain ⟨i5, hi, hz0, hz1, hz2⟩ := info_parts info5
  have hmk : ∀ w, (Instr.makeSlice 34 (.int .i64 64) (.int .i64 64)).run Try.prog w = .ok (.slice (some ⟨w.heap.size, 0, none⟩) 64 64) (w.alloc (.cells (bvs (zs 64)) 5)) := make_bytes Try.underlying34 hi hz0 hz1 hz2 64 64 rfl (by omega)
  clear hi hz0 hz1 hz2
  obtain ⟨f1, f2, f3, f4, f5⟩ := hf
  have HS := Lib.hid (size_of_ok f5)
  have F5 := Lib.hid f5
  have HLEN := Lib.hid (show s.data.toList.length = s.size from Array.length_toList)
  clear f5
  have HB := Lib.hid (begun2 n k s sl w)
  go_enter Try.func36, Try.ntmps36
  go_upto_region 2 with (fail)
  refine gen_world (fun w' => Hid (Begun2 n k s sl [] w w')) HB ?_
  clear HB hmk
  rintro w1 h1
  have c0 : w1.cell? ⟨w.heap.size, 0, none⟩ = some (.int .i64 n) := (h1.out.2.1.cell 0).trans rfl
  have c1 : w1.cell? ⟨w.heap.size, 1, none⟩ = some (.int .i64 k) := (h1.out.2.1.cell 1).trans rfl
  have c2 : w1.cell? ⟨w.heap.size, 2, none⟩ = some (.string s) := (h1.out.2.1.cell 2).trans rfl
  go_wp2_with fail
  refine (rname_at s 0 _ F5.out).mono ?_
  rintro e w2 ⟨rfl, hb2⟩
  have h2 : Hid (Begun2 n k s sl [] w w2) := ⟨h1.out.1.trans (hb2.mono h1.out.1.size), h1.out.2.1.below hb2 h1.out.2.1.lt, h1.out.2.2.below hb2 h1.out.2.2.lt⟩
  clear hb2 h1 c0 c1 c2
  have c0 : w2.cell? ⟨w.heap.size, 0, none⟩ = some (.int .i64 n) := (h2.out.2.1.cell 0).trans rfl
  go_wp2_with fail
  clear c0
  refine (lay_st (w.heap.size + 1) 64 0 4 64 0 4 _ (zs 64) [] _ (zs_length _) rfl rfl rfl (by decide) (by omega) (by omega) (by decide) (by decide) h2.out.2.2).mono ?_
  rintro e w3 ⟨rfl, g⟩
  have h3 : Hid (Begun2 n k s sl (L1 n) w w3) := h2.out.only g.out
  clear g h2
  have c0 : w3.cell? ⟨w.heap.size, 1, none⟩ = some (.int .i64 k) := (h3.out.2.1.cell 1).trans rfl
  go_wp2_with fail
  clear c0
  refine (lay_st (w.heap.size + 1) 64 4 1 64 4 1 _ (zs 64) (L1 n) _ (zs_length _) (L1_length _).symm rfl rfl (by decide) (by omega) (by omega) (by decide) (by decide) h3.out.2.2).mono ?_
  rintro e w4 ⟨rfl, g⟩
  have h4 : Hid (Begun2 n k s sl (L2 n k) w w4) := h3.out.only g.out
  clear g h3
  have c0 : w4.cell? ⟨w.heap.size, 2, none⟩ = some (.string s) := (h4.out.2.1.cell 2).trans rfl
  go_wp2_with fail
  clear c0
  refine (lay_st (w.heap.size + 1) 64 5 1 64 5 1 _ (zs 64) (L2 n k) _ (zs_length _) (L2_length _ _).symm rfl rfl (by decide) (by omega) (by have := HS.out; omega) (by decide) (by decide) h4.out.2.2).mono ?_
  rintro e w5 ⟨rfl, g⟩
  have h5 : Hid (Begun2 n k s sl (L3 n k s.size ++ s.data.toList.take 0) w w5) := by
    rw [List.take_zero, List.append_nil]
    exact h4.out.only g.out
  clear g h4
  have h54 : s.size ≤ 54 := HS.out.1
  go_wp2_with fail
  go_loopw [5] (fun i wr => ∃ (j : Nat), i = .int .i64 j ∧ j ≤ s.size ∧ Hid (Begun2 n k s sl (L3 n k s.size ++ s.data.toList.take j) w wr)) (fun i _ => s.size - (intOf i).toNat)
  case atStart => exact ⟨0, rfl, Nat.zero_le _, h5⟩
  case round =>
    clear h5
    obtain ⟨j, rfl, hj, hR⟩ := hrel
    have c0 : wr.cell? ⟨w.heap.size, 2, none⟩ = some (.string s) := (hR.out.2.1.cell 2).trans rfl
    by_cases hlt : j < s.size
    · obtain ⟨b, hbk⟩ : ∃ b, s[j]'hlt = b := ⟨_, rfl⟩
      have hidx : ∀ w, (Instr.index 9 (.string s) (.int .i64 j)).run Try.prog w = .ok (.int .u8 (v8 b)) w := fun w => by
        rw [run_index_string w 9 s .i64 j Try.underlying9, dif_pos ⟨by omega, by omega⟩]
        simp [hbk, v8]
      have hjl : j < s.data.toList.length := by rw [HLEN.out]; exact hlt
      have hb : s.data.toList[j]'hjl = b := by rw [← hbk]; rfl
      have HBK := Lib.hid hb
      clear hbk hb
      have htl : (s.data.toList.take j).length = j := by rw [List.length_take]; omega
      have hpl : (put (zs 64) 0 (L3 n k s.size ++ s.data.toList.take j)).length = 64 := put_zs _ (by rw [List.length_append, L3_length, htl]; omega)
      obtain ⟨y, c2⟩ : ∃ y, wr.cell? ⟨w.heap.size + 1, 6 + j, none⟩ = some (.int .u8 y) := ⟨_, (hR.out.2.2.cell _).trans (bvs_get _ _ (by rw [hpl]; omega))⟩
      have f2 := hR.out.2.2.frozen (6 + j)
      have HTL := Lib.hid htl
      have HJL := Lib.hid hjl
      clear htl hpl
      go_wp2_with fail
      refine ⟨⟨j + 1, by go_num, by omega, hR.out.1.setCell (by show _ ≤ _ + 1; omega) _, hR.out.2.1.far (by show _ ≠ _ + 1; omega) _, ?_⟩, by simp [intOf]; omega⟩
      have h := hR.out.2.2.put (6 + j) (.int .u8 (v8 b))
      have e1 := put_set (zs 64) 0 (L3 n k s.size ++ s.data.toList.take j) b (by rw [List.length_append, L3_length, HTL.out, zs_length]; omega)
      rw [List.length_append, L3_length, HTL.out, Nat.zero_add] at e1
      rw [bvs_set, e1, List.append_assoc] at h
      rw [List.take_succ_eq_append_getElem HJL.out, HBK.out]
      exact h
    · have ek : j = s.size := by omega
      subst ek
      have h6 : Hid (Begun2 n k s sl (L4 n k s.data.toList) w wr) := by
        have h := hR
        rw [List.take_of_length_le (by rw [HLEN.out]; exact Nat.le_refl _)] at h
        unfold L4
        rw [HLEN.out]
        exact h
      clear hR
      have hl4 : (put (zs 64) 0 (L4 n k s.data.toList)).length = 64 := put_zs _ (by rw [L4_length, HLEN.out]; omega)
      have HL4 := Lib.hid hl4
      clear hl4
      go_wp2_with fail
      clear c0
      refine (refsum_at (some ⟨w.heap.size + 1, 0, none⟩) 60 64 ((put (zs 64) 0 (L4 n k s.data.toList)).take 60) _ (by rw [List.length_take, HL4.out]; rfl) (by omega) (Bytes.own (r := (put (zs 64) 0 (L4 n k s.data.toList)).drop 60) (by rw [List.take_append_drop]; exact h6.out.2.2))).mono ?_
      rintro e w7 ⟨rfl, rfl⟩
      go_wp2_with fail
      refine (lay_at (w.heap.size + 1) 64 60 4 64 60 4 _ (put (zs 64) 0 (L4 n k s.data.toList)) _ HL4.out rfl rfl (by decide) (sum_lo _) (sum_hi _) (by omega) (by omega) h6.out.2.2).mono ?_
      rintro e w8 ⟨rfl, k8⟩
      go_wp2_with fail
      go_ret2
      refine ⟨w.heap.size + 1, rfl, by omega, h6.out.1.trans (k8.out.1.below (by omega)), ?_⟩
      have hs : entryBytes n k s.data.toList = put (put (zs 64) 0 (L4 n k s.data.toList)) 60 (leN 4 (sum ((put (zs 64) 0 (L4 n k s.data.toList)).take 60)).toNat) := by
        unfold entryBytes sealed4
        rw [HL4.out, sum_toNat]
      rw [hs]
      exact k8.out.2

theorem ref_ok (n k : Int) (s : ByteArray) (sl : Int) (w : World) (h : EOk n k s) :
    Calls Try.prog 36 #[.agg #[.int .i64 n, .int .i64 k, .string s, .int .i64 sl]] w fun e w' => ∃ B, e = .returned (.tuple #[.slice (some ⟨B, 0, none⟩) 64 64, .int .i64 0]) ∧ Made w w' B (entryOf n k s) := by
  by_cases hz : EZero n k s
  · unfold entryOf
    rw [if_pos hz]
    obtain ⟨rfl, rfl, rfl⟩ := hz
    exact ref_zero sl w
  · have hf : EFits n k s := h.resolve_left hz
    unfold entryOf
    rw [if_neg hz]
    have hb := eok_bounds h
    obtain ⟨a, rfl⟩ := Int.eq_ofNat_of_zero_le hb.1
    obtain ⟨b, rfl⟩ := Int.eq_ofNat_of_zero_le hb.2.2.1
    rw [Int.toNat_natCast, Int.toNat_natCast]
    exact ref_yes a b s sl w hf
theorem ref_bad (n k : Int) (s : ByteArray) (sl : Int) (w : World) (h : ¬ EOk n k s) :
    Calls Try.prog 36 #[.agg #[.int .i64 n, .int .i64 k, .string s, .int .i64 sl]] w fun e w' => e = .returned (.tuple #[.slice none 0 0, .int .i64 20]) ∧ Below w.heap.size w w' :=
  ref_no n k s sl w (fun hz => h (.inl hz)) (fun hf => h (.inr hf))
end Go.Proofs.Ytefmihbjboacdaa.EntryRef
