/- The document's DecodeEntry. -/
import Derived.Test.YtefmihbjboacdaaEntryDec
import Derived.Test.YtefmihbjboacdaaEntryRef
import Derived.Test.YtefmihbjboacdaaRefDec
import Derived.Deep.RegionHeld3
namespace Go.Proofs.Ytefmihbjboacdaa.EntryRefDec
open Go.ChangeShapes Go.WideShapes Go.ChangeAt Go.RowKit
open Go.Proofs.Ytefmihbjboacdaa.Kit Go.Proofs.Ytefmihbjboacdaa.Crc Go.Proofs.Ytefmihbjboacdaa.Reads Go.Proofs.Ytefmihbjboacdaa.Copy Go.Proofs.Ytefmihbjboacdaa.Lay Go.Proofs.Ytefmihbjboacdaa.SuperEnc Go.Proofs.Ytefmihbjboacdaa.SuperDec Go.Proofs.Ytefmihbjboacdaa.RefDec Go.Proofs.Ytefmihbjboacdaa.Equal Go.Proofs.Ytefmihbjboacdaa.Lists Go.Proofs.Ytefmihbjboacdaa.EntryEnc Go.Proofs.Ytefmihbjboacdaa.EntryRef Go.Proofs.Ytefmihbjboacdaa.EntryDec
set_option linter.unusedVariables false

set_option maxRecDepth 100000 in
set_option maxHeartbeats 3200000 in
theorem rdec_short (A : Option Addr) (c n : Nat) (w : World) (hn : ¬ n = 64) (hn2 : n ≤ 9223372036854775807) :
    Calls Try.prog 37 #[.slice A n c] w fun e w' => e = .returned (.tuple #[.agg #[.int .i64 0, .int .i64 0, .string ⟨#[]⟩, .int .i64 0], .int .i64 2]) ∧ Below w.heap.size w w' := by
  have t0 : ((n : Int) != 64) = true := by rw [bne_iff_ne]; omega
  have HN := Lib.hid hn
  clear hn
  go_enter Try.func37, Try.ntmps37
  go_wp2_with fail
  refine bodyPost_ret (v := .tuple #[.agg #[.int .i64 0, .int .i64 0, .string ⟨#[]⟩, .int .i64 0], .int .i64 2]) (by simp [results, Try.results37, go_sem]) rfl ⟨rfl, ?_⟩
  repeat (first | exact Below.refl _ _ | refine Below.drew ?_ | refine Below.alloc ?_ (by first | (simp; done) | (simp; omega)) _ | refine Below.setCell ?_ (by first | (simp; done) | (simp; omega)) _)

theorem field_one {l : List UInt8} {p : Nat} (h : p < l.length) : ((fieldAt l p 1 : Nat) : Int) = v8 l[p] := by
  unfold fieldAt
  rw [List.drop_eq_getElem_cons h, List.take_succ_cons, List.take_zero]
  simp only [leVal, v8]
  omega
theorem hb_alloc {w wc : World} {o : Obj} (h : Hid (Below w.heap.size w wc)) : Hid (Below w.heap.size w (wc.alloc o)) := h.out.alloc h.out.size o
theorem hb_drew {w wc : World} (h : Hid (Below w.heap.size w wc)) : Hid (Below w.heap.size w wc.drew) := h.out.drew
theorem hb_set {w wc : World} {a : Addr} {v : Value} (h : Hid (Below w.heap.size w wc)) (ha : w.heap.size ≤ a.block) : Hid (Below w.heap.size w (wc.setCell a v)) := h.out.setCell ha v
theorem take4' (A : Option Addr) (N c : Nat) (q : Int) (p : Nat) (hq : q = (p : Int)) (l : List UInt8) (w w0 : World) (hN : l.length = N) (hl : N ≤ 140737488351232) (hp : p + 4 ≤ N) (hb : Hid (Below w0.heap.size w0 w)) (HB : Hid (Bytes w0 A l)) :
    Calls Try.prog 55 #[.slice A N c, .int .i64 q, .int .i64 4] w fun e w' => w = w' ∧ e = .returned (.int .i64 (fieldAt l p 4 : Nat)) :=
  take4 A N c q p hq l w hN hl hp (Lib.hid (HB.out.below hb.out))

set_option maxRecDepth 100000 in
set_option maxHeartbeats 1600000 in
theorem rdec_full (A : Option Addr) (c : Nat) (l : List UInt8) (w : World) (hl : l.length = 64) (hc : 64 ≤ c) (hc9 : c ≤ 9223372036854775807) (HB : Hid (Bytes w A l)) :
    Calls Try.prog 37 #[.slice A 64 c] w (EDPost w l) := by
  obtain ⟨ad, rfl, hc5⟩ := HB.out 5 (by omega)
  obtain ⟨ad', e', hc4⟩ := HB.out 4 (by omega)
  obtain rfl := Option.some.inj e'
  have h5 := field_one (l := l) (p := 5) (by omega)
  have h4 := field_one (l := l) (p := 4) (by omega)
  rw [← h5] at hc5
  rw [← h4] at hc4
  have n5 : fieldAt l 5 1 < 256 := by
    have := v8_lt (l[5]'(by omega))
    omega
  have n4 : fieldAt l 4 1 < 256 := by
    have := v8_lt (l[4]'(by omega))
    omega
  have HL := Lib.hid hl
  have a5 : ad.add 5 = ⟨ad.block, ad.off + 5, none⟩ := rfl
  have a4 : ad.add 4 = ⟨ad.block, ad.off + 4, none⟩ := rfl
  rw [a5] at hc5
  rw [a4] at hc4
  have HC4 := Lib.hid hc4
  have HC5 := Lib.hid hc5
  clear a5 a4
  have hnl : fieldAt l 5 1 ≤ 54 → (nameOf l).length = fieldAt l 5 1 := fun h => by unfold nameOf; rw [List.length_take, List.length_drop, hl]; omega
  have HNL := Lib.hid hnl
  clear hl hc4 hc5 h5 h4 hnl
  obtain ⟨f5, hf5⟩ : ∃ x, fieldAt l 5 1 = x := ⟨_, rfl⟩
  obtain ⟨f4, hf4⟩ : ∃ x, fieldAt l 4 1 = x := ⟨_, rfl⟩
  rw [hf5] at n5 HC5 HNL
  rw [hf4] at n4 HC4
  have F5 := Lib.hid hf5
  have F4 := Lib.hid hf4
  clear hf4 hf5
  go_enter Try.func37, Try.ntmps37
  go_upto_region 3 with (fail)
  refine gen_world (fun w1 => Hid (Below w.heap.size w w1 ∧ Blk w1 w.heap.size (ents 0 0 ⟨#[]⟩) 61)) ?_ ?_
  · exact ⟨(Below.refl _ _).alloc (Nat.le_refl _) _, Blk.new _ _ _⟩
  obtain ⟨P, hP⟩ : ∃ P, w.heap.size = P := ⟨_, rfl⟩
  rw [hP]
  have HP := Lib.hid hP
  clear hP
  rintro w1 h1
  have c5 := ((HP.out.symm ▸ h1.out.1 : Below w.heap.size w w1).cell (World.block_lt_of_cell? w _ HC5.out)).trans HC5.out
  have c4 := ((HP.out.symm ▸ h1.out.1 : Below w.heap.size w w1).cell (World.block_lt_of_cell? w _ HC4.out)).trans HC4.out
  by_cases hbig : 54 < f5
  · have HV := Lib.hid (entryDec_no HL.out (not_e3 (by rw [F5.out]; omega)))
    have d0 : w1.cell? ⟨P, 0, none⟩ = some (.int .i64 0) := (h1.out.2.cell 0).trans rfl
    have d1 : w1.cell? ⟨P, 1, none⟩ = some (.int .i64 0) := (h1.out.2.cell 1).trans rfl
    have d2 : w1.cell? ⟨P, 2, none⟩ = some (.string ⟨#[]⟩) := (h1.out.2.cell 2).trans rfl
    have d3 : w1.cell? ⟨P, 3, none⟩ = some (.int .i64 0) := (h1.out.2.cell 3).trans rfl
    have df := h1.out.2.frozen
    have e54 : decide ((54 : Int) < (f5 : Int)) = true := decide_eq_true (by omega)
    go_wp2_with fail
    refine bodyPost_ret (v := .tuple #[.agg #[.int .i64 0, .int .i64 0, .string ⟨#[]⟩, .int .i64 0], .int .i64 6]) (by simp [results, Try.results37, go_sem, d0, d1, d2, d3]) rfl ⟨by rw [HV.out], ?_⟩
    have hge : w.heap.size ≤ P := by have := HP.out; omega
    have hb : Below w.heap.size w w1 := HP.out.symm ▸ h1.out.1
    exact (((hb.setCell hge _).setCell hge _).setCell hge _).setCell hge _
  · have e54 : decide ((54 : Int) < (f5 : Int)) = false := decide_eq_false (by omega)
    go_wp2_with fail
    have hW : Hid (Below w.heap.size w w1) := HP.out.symm ▸ h1.out.1
    have hld : ∀ w', Hid (Below w.heap.size w w') → w'.cell? ⟨ad.block, ad.off + 4, none⟩ = some (.int .u8 f4) := fun w' h => (h.out.cell (World.block_lt_of_cell? w _ HC4.out)).trans HC4.out
    obtain ⟨nm, hnm⟩ : ∃ s, nameOf l = s := ⟨_, rfl⟩
    have hcv : ∀ w', Hid (Below w.heap.size w w') → (convert 34 9 (.slice (some ⟨ad.block, ad.off + 6, none⟩) f5 (c - 6))).run Try.prog w' = .ok (.string (text nm)) w' := fun w' h => by
      have hb : Bytes w' (some ⟨ad.block, ad.off + 6, none⟩) nm := by
        rw [← hnm]
        unfold nameOf
        rw [F5.out]
        exact Reader.bytes_sub (R := ad.block + 1) (HB.out.below h.out) 6 f5 (Only.refl _ _) (fun _ => by omega)
      have hx := string_bytes (P := Try.prog) (src := 34) (dst := 9) (c := c - 6) Try.underlying34 Try.underlying5 Try.underlying9 hb
      rw [show nm.length = f5 from by rw [← hnm]; exact HNL.out (by omega)] at hx
      exact hx
    have HNM := Lib.hid hnm
    clear hnm c4 c5
    have s1 : (6 : Int) ≤ 6 + (f5 : Int) := by omega
    have s2 : 6 + (f5 : Int) ≤ (c : Int) := by omega
    have hc6 : ¬ c = 6 := by omega
    have hs : ∀ w, (Instr.slice 34 (.slice (some ad) 64 c) (some (.int .i64 6)) (some (.int .i64 (6 + (f5 : Int)))) none).run Try.prog w = .ok (.slice (some ⟨ad.block, ad.off + 6, none⟩) f5 (c - 6)) w := fun w => by
      go_simp
      omega
    have hwr : IntKind.i64.wrap (6 + (f5 : Int)) = 6 + (f5 : Int) := by
      simp [IntKind.wrap, IntKind.bits, IntKind.signed]
      omega
    have hw4 : IntKind.i64.wrap (f4 : Int) = (f4 : Int) := by
      simp [IntKind.wrap, IntKind.bits, IntKind.signed]
      omega
    have ht6 : ((6 : Int) + (f5 : Int)).toNat - 6 = f5 := by omega
    go_region_held3 (fun w' => Hid (Below w.heap.size w w')) (repeat (first | assumption | refine hb_drew ?_ | refine hb_alloc ?_)) (first | (go_at_call 55; refine (take4' (some ad) 64 c 0 0 rfl l _ w HL.out (by decide) (by decide) (by assumption) HB).mono ?_; rintro e w4 ⟨rfl, rfl⟩) | fail)
    all_goals
      clear hs ht6 hwr hw4 hld hcv s1 s2 hc6 e54
      obtain ⟨fa, hfa⟩ : ∃ x, fieldAt l 0 4 = x := ⟨_, rfl⟩
      rw [hfa]
      have FA := Lib.hid hfa
      clear hfa
      have h2 : Hid (Below w.heap.size w (w1.alloc (Obj.cells #[Value.int IntKind.i64 fa, Value.int IntKind.i64 f4, Value.string (text nm), Value.int IntKind.i64 0] 61)).drew ∧ Blk (w1.alloc (Obj.cells #[Value.int IntKind.i64 fa, Value.int IntKind.i64 f4, Value.string (text nm), Value.int IntKind.i64 0] 61)).drew P (ents 0 0 ⟨#[]⟩) 61 ∧ Blk (w1.alloc (Obj.cells #[Value.int IntKind.i64 fa, Value.int IntKind.i64 f4, Value.string (text nm), Value.int IntKind.i64 0] 61)).drew w1.heap.size (ents fa f4 (text nm)) 61) :=
        ⟨(hW.out.alloc hW.out.size _).drew, (h1.out.2.alloc _).drew, (Blk.new _ _ _).drew⟩
      generalize (w1.alloc (Obj.cells #[Value.int IntKind.i64 fa, Value.int IntKind.i64 f4, Value.string (text nm), Value.int IntKind.i64 0] 61)).drew = w2 at *
      generalize w1.heap.size = Q at *
      have c0 : w2.cell? ⟨Q, 0, none⟩ = some (.int .i64 fa) := (h2.out.2.2.cell 0).trans rfl
      have c1 : w2.cell? ⟨Q, 1, none⟩ = some (.int .i64 f4) := (h2.out.2.2.cell 1).trans rfl
      have c2 : w2.cell? ⟨Q, 2, none⟩ = some (.string (text nm)) := (h2.out.2.2.cell 2).trans rfl
      have c3 : w2.cell? ⟨Q, 3, none⟩ = some (.int .i64 0) := (h2.out.2.2.cell 3).trans rfl
      by_cases hfit : EOk fa f4 (text nm)
      · go_wp2_with fail
        refine (ref_ok fa f4 (text nm) 0 _ hfit).mono ?_
        rintro e w3 ⟨D, rfl, hm⟩
        have HM := Lib.hid hm
        have HFIT := Lib.hid hfit
        clear hm c0 c1 c2 c3 hfit
        have hb3 : Below w2.heap.size w2 w3 := HM.out.2.1
        have HS3 := Lib.hid (h2.out.1.trans (hb3.mono h2.out.1.size))
        have HP3 := Lib.hid (h2.out.2.1.below hb3 h2.out.2.1.lt)
        have HQ3 := Lib.hid (h2.out.2.2.below hb3 h2.out.2.2.lt)
        clear hb3
        go_wp2_with fail
        refine (Same_at (some ⟨D, 0, none⟩) (some ad) 64 64 64 c (entryOf fa f4 (text nm)) l _ (entryOf_length HFIT.out) HL.out (by decide) (Lib.hid (Bytes.own' HM.out.2.2)) (Lib.hid (HB.out.below HS3.out))).mono ?_
        by_cases heq : entryOf fa f4 (text nm) = l
        · have hs : IsEntry l := by
            unfold IsEntry
            rw [FA.out, F4.out, F5.out, HNM.out]
            exact ⟨by omega, HFIT.out, heq⟩
          have HS := Lib.hid (entryDec_yes HL.out hs)
          rw [decide_eq_true heq]
          clear hs heq
          rw [FA.out, F4.out, HNM.out] at HS
          rintro e w4 ⟨rfl, h4⟩
          have HS4 := Lib.hid (HS3.out.trans (h4.below _))
          have hq4 := h4.blk HQ3.out
          have hp4 := h4.blk HP3.out
          clear h4
          have c0 : w4.cell? ⟨Q, 0, none⟩ = some (.int .i64 fa) := (hq4.cell 0).trans rfl
          have c1 : w4.cell? ⟨Q, 1, none⟩ = some (.int .i64 f4) := (hq4.cell 1).trans rfl
          have c2 : w4.cell? ⟨Q, 2, none⟩ = some (.string (text nm)) := (hq4.cell 2).trans rfl
          have c3 : w4.cell? ⟨Q, 3, none⟩ = some (.int .i64 0) := (hq4.cell 3).trans rfl
          have d0 : w4.cell? ⟨P, 0, none⟩ = some (.int .i64 0) := (hp4.cell 0).trans rfl
          have d1 : w4.cell? ⟨P, 1, none⟩ = some (.int .i64 0) := (hp4.cell 1).trans rfl
          have d2 : w4.cell? ⟨P, 2, none⟩ = some (.string ⟨#[]⟩) := (hp4.cell 2).trans rfl
          have d3 : w4.cell? ⟨P, 3, none⟩ = some (.int .i64 0) := (hp4.cell 3).trans rfl
          have df := hp4.frozen
          clear hq4 hp4
          go_wp2_with fail
          refine bodyPost_ret (v := .tuple #[.agg #[.int .i64 fa, .int .i64 f4, .string (text nm), .int .i64 0], .int .i64 0]) (by simp [results, Try.results37, go_sem, d0, d1, d2, d3]) rfl ⟨by rw [HS.out]; rfl, ?_⟩
          have hge : w.heap.size ≤ P := by have := HP.out; omega
          exact (((HS4.out.setCell hge _).setCell hge _).setCell hge _).setCell hge _
        · have hs : ¬ IsEntry l := fun h => by
            have h2 := h.2.2
            rw [FA.out, F4.out, HNM.out] at h2
            exact heq h2
          have HS := Lib.hid (entryDec_no HL.out hs)
          rw [decide_eq_false heq]
          clear hs heq
          rintro e w4 ⟨rfl, h4⟩
          have HS4 := Lib.hid (HS3.out.trans (h4.below _))
          have hp4 := h4.blk HP3.out
          clear h4
          have d0 : w4.cell? ⟨P, 0, none⟩ = some (.int .i64 0) := (hp4.cell 0).trans rfl
          have d1 : w4.cell? ⟨P, 1, none⟩ = some (.int .i64 0) := (hp4.cell 1).trans rfl
          have d2 : w4.cell? ⟨P, 2, none⟩ = some (.string ⟨#[]⟩) := (hp4.cell 2).trans rfl
          have d3 : w4.cell? ⟨P, 3, none⟩ = some (.int .i64 0) := (hp4.cell 3).trans rfl
          have df := hp4.frozen
          clear hp4
          go_wp2_with fail
          refine bodyPost_ret (v := .tuple #[.agg #[.int .i64 0, .int .i64 0, .string ⟨#[]⟩, .int .i64 0], .int .i64 6]) (by simp [results, Try.results37, go_sem, d0, d1, d2, d3]) rfl ⟨by rw [HS.out], ?_⟩
          have hge : w.heap.size ≤ P := by have := HP.out; omega
          exact (((HS4.out.setCell hge _).setCell hge _).setCell hge _).setCell hge _
      · have hs : ¬ IsEntry l := fun h => by
          have h2 := h.2.1
          rw [FA.out, F4.out, HNM.out] at h2
          exact hfit h2
        have HS := Lib.hid (entryDec_no HL.out hs)
        clear hs
        go_wp2_with fail
        refine (ref_bad fa f4 (text nm) 0 _ hfit).mono ?_
        rintro e w4 ⟨rfl, h4⟩
        have HS4 := Lib.hid (h2.out.1.trans (h4.mono h2.out.1.size))
        have hp4 := h2.out.2.1.below h4 h2.out.2.1.lt
        clear h4 c0 c1 c2 c3 hfit
        have d0 : w4.cell? ⟨P, 0, none⟩ = some (.int .i64 0) := (hp4.cell 0).trans rfl
        have d1 : w4.cell? ⟨P, 1, none⟩ = some (.int .i64 0) := (hp4.cell 1).trans rfl
        have d2 : w4.cell? ⟨P, 2, none⟩ = some (.string ⟨#[]⟩) := (hp4.cell 2).trans rfl
        have d3 : w4.cell? ⟨P, 3, none⟩ = some (.int .i64 0) := (hp4.cell 3).trans rfl
        have df := hp4.frozen
        clear hp4
        go_wp2_with fail
        refine bodyPost_ret (v := .tuple #[.agg #[.int .i64 0, .int .i64 0, .string ⟨#[]⟩, .int .i64 0], .int .i64 6]) (by simp [results, Try.results37, go_sem, d0, d1, d2, d3]) rfl ⟨by rw [HS.out], ?_⟩
        have hge : w.heap.size ≤ P := by have := HP.out; omega
        exact (((HS4.out.setCell hge _).setCell hge _).setCell hge _).setCell hge _
end Go.Proofs.Ytefmihbjboacdaa.EntryRefDec
