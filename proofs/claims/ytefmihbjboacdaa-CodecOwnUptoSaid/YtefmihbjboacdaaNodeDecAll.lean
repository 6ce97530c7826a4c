/- DecodeNode's whole contract. -/
import Derived.Test.YtefmihbjboacdaaNodeDec
namespace Go.Proofs.Ytefmihbjboacdaa.NodeDecAll
open Go.ChangeShapes Go.WideShapes Go.ChangeAt Go.RowKit
open Go.Proofs.Ytefmihbjboacdaa.Kit Go.Proofs.Ytefmihbjboacdaa.Crc Go.Proofs.Ytefmihbjboacdaa.Reads Go.Proofs.Ytefmihbjboacdaa.Copy Go.Proofs.Ytefmihbjboacdaa.Lay Go.Proofs.Ytefmihbjboacdaa.Writer Go.Proofs.Ytefmihbjboacdaa.Reader Go.Proofs.Ytefmihbjboacdaa.Guard Go.Proofs.Ytefmihbjboacdaa.SuperEnc Go.Proofs.Ytefmihbjboacdaa.SuperDec Go.Proofs.Ytefmihbjboacdaa.Equal Go.Proofs.Ytefmihbjboacdaa.Lists Go.Proofs.Ytefmihbjboacdaa.NodeLay Go.Proofs.Ytefmihbjboacdaa.NodeEnc Go.Proofs.Ytefmihbjboacdaa.NodeDec
set_option linter.unusedVariables false

theorem gen_body {P : Program} {f : Func} {post : Ending → World → Prop} {e : Exit} {a : Act} {w : World} (R : World → Prop) (h : R w) (k : ∀ w', R w' → bodyPost P f post e a w') : bodyPost P f post e a w := k w h

set_option maxRecDepth 100000 in
set_option maxHeartbeats 20000000 in
theorem dec_short (A : Option Addr) (c n : Nat) (w : World) (hn : ¬ n = 128) (hn2 : n ≤ 9223372036854775807) :
    Calls Try.prog 28 #[.slice A n c] w fun e w' => e = .returned (.tuple #[.agg #[.int .i64 0, .int .i64 0, .int .i64 0, .int .i64 0, .int .i64 0, .int .i64 0, .int .i64 0, .int .i64 0, .int .i64 0, .int .i64 0, .int .i64 0, .int .i64 0, .int .i64 0, .int .i64 0, .int .i64 0, .int .i64 0, .int .i64 0], .int .i64 2]) ∧ Below w.heap.size w w' := by
  have t0 : ((n : Int) != 128) = true := by rw [bne_iff_ne]; omega
  have HN := Lib.hid hn
  clear hn
  go_enter Try.func28, Try.ntmps28
  go_wp2_with fail
  refine bodyPost_ret (v := .tuple #[.agg #[.int .i64 0, .int .i64 0, .int .i64 0, .int .i64 0, .int .i64 0, .int .i64 0, .int .i64 0, .int .i64 0, .int .i64 0, .int .i64 0, .int .i64 0, .int .i64 0, .int .i64 0, .int .i64 0, .int .i64 0, .int .i64 0, .int .i64 0], .int .i64 2]) (by simp [results, Try.results28, go_sem]) rfl ⟨rfl, ?_⟩
  repeat (first | exact Below.refl _ _ | refine Below.drew ?_ | refine Below.alloc ?_ (by first | (simp; done) | (simp; omega)) _ | refine Below.setCell ?_ (by first | (simp; done) | (simp; omega)) _)

/-- what DecodeNode answers -/
def nodeDec (l : List UInt8) : Value :=
  if l.length = 128 then
    if IsNode l then .tuple #[.agg (ncs (nI (readN l))), .int .i64 0]
    else .tuple #[.agg #[.int .i64 0, .int .i64 0, .int .i64 0, .int .i64 0, .int .i64 0, .int .i64 0, .int .i64 0, .int .i64 0, .int .i64 0, .int .i64 0, .int .i64 0, .int .i64 0, .int .i64 0, .int .i64 0, .int .i64 0, .int .i64 0, .int .i64 0], .int .i64 6]
  else .tuple #[.agg #[.int .i64 0, .int .i64 0, .int .i64 0, .int .i64 0, .int .i64 0, .int .i64 0, .int .i64 0, .int .i64 0, .int .i64 0, .int .i64 0, .int .i64 0, .int .i64 0, .int .i64 0, .int .i64 0, .int .i64 0, .int .i64 0, .int .i64 0], .int .i64 2]
def NDPost (w : World) (l : List UInt8) (e : Ending) (w' : World) : Prop := e = .returned (nodeDec l) ∧ Below w.heap.size w w'
theorem nodeDec_yes {l : List UInt8} (hl : l.length = 128) (hs : IsNode l) : nodeDec l = .tuple #[.agg (ncs (nI (readN l))), .int .i64 0] := by
  unfold nodeDec
  rw [if_pos hl, if_pos hs]
theorem nodeDec_no {l : List UInt8} (hl : l.length = 128) (hs : ¬ IsNode l) : nodeDec l = .tuple #[.agg #[.int .i64 0, .int .i64 0, .int .i64 0, .int .i64 0, .int .i64 0, .int .i64 0, .int .i64 0, .int .i64 0, .int .i64 0, .int .i64 0, .int .i64 0, .int .i64 0, .int .i64 0, .int .i64 0, .int .i64 0, .int .i64 0, .int .i64 0], .int .i64 6] := by
  unfold nodeDec
  rw [if_pos hl, if_neg hs]
theorem nodeDec_len {l : List UInt8} (hl : ¬ l.length = 128) : nodeDec l = .tuple #[.agg #[.int .i64 0, .int .i64 0, .int .i64 0, .int .i64 0, .int .i64 0, .int .i64 0, .int .i64 0, .int .i64 0, .int .i64 0, .int .i64 0, .int .i64 0, .int .i64 0, .int .i64 0, .int .i64 0, .int .i64 0, .int .i64 0, .int .i64 0], .int .i64 2] := by
  unfold nodeDec
  rw [if_neg hl]

set_option maxRecDepth 100000 in
set_option maxHeartbeats 20000000 in
theorem dec_full (A : Option Addr) (c : Nat) (l : List UInt8) (w : World) (hl : l.length = 128) (hc : 128 ≤ c) (hc9 : c ≤ 9223372036854775807) (HB : Hid (Bytes w A l)) :
    Calls Try.prog 28 #[.slice A 128 c] w (NDPost w l) := by
  have hmf : ∀ (fn : Fn) (first cap : Array Value) (w : World), (Instr.makeFunc fn first cap).run Try.prog w = .ok (.func fn first cap) w := fun _ _ _ _ => rfl
  have HL := Lib.hid hl
  have HC := Lib.hid (And.intro hc hc9)
  clear hl hc hc9
  go_enter Try.func28, Try.ntmps28
  go_upto_region 4 with (fail)
  obtain ⟨P, hP⟩ : ∃ P, w.heap.size = P := ⟨_, rfl⟩
  refine gen_world (fun w1 => Hid (Below w.heap.size w w1 ∧ Blk w1 P #[.slice A 128 c] 34 ∧ Blk w1 (P + 1) #[.int .i64 0, .int .i64 0, .int .i64 0, .int .i64 0, .int .i64 0, .int .i64 0, .int .i64 0, .int .i64 0, .int .i64 0, .int .i64 0, .int .i64 0, .int .i64 0, .int .i64 0, .int .i64 0, .int .i64 0, .int .i64 0, .int .i64 0] 51 ∧ Blk w1 (P + 1 + 1) #[.int .i64 0, .int .i64 0, .int .i64 0, .int .i64 0, .int .i64 0, .int .i64 0, .int .i64 0, .int .i64 0, .int .i64 0, .int .i64 0, .int .i64 0, .int .i64 0, .int .i64 0, .int .i64 0, .int .i64 0, .int .i64 0, .int .i64 0] 51 ∧ Bytes w1 A l ∧ w1.heap.size = P + 3)) ?_ ?_
  · subst hP
    have hb : Below w.heap.size w (((w.alloc (.cells #[.slice A 128 c] 34)).alloc (.cells #[.int .i64 0, .int .i64 0, .int .i64 0, .int .i64 0, .int .i64 0, .int .i64 0, .int .i64 0, .int .i64 0, .int .i64 0, .int .i64 0, .int .i64 0, .int .i64 0, .int .i64 0, .int .i64 0, .int .i64 0, .int .i64 0, .int .i64 0] 51)).alloc (.cells #[.int .i64 0, .int .i64 0, .int .i64 0, .int .i64 0, .int .i64 0, .int .i64 0, .int .i64 0, .int .i64 0, .int .i64 0, .int .i64 0, .int .i64 0, .int .i64 0, .int .i64 0, .int .i64 0, .int .i64 0, .int .i64 0, .int .i64 0] 51)) :=
      (((Below.refl _ _).alloc (Nat.le_refl _) _).alloc (by simp) _).alloc (by simp; omega) _
    refine ⟨hb, ((Blk.new w _ _).alloc _).alloc _, ?_, ?_, HB.out.below hb, by simp⟩
    · have h := (Blk.new (w.alloc (.cells #[.slice A 128 c] 34)) #[.int .i64 0, .int .i64 0, .int .i64 0, .int .i64 0, .int .i64 0, .int .i64 0, .int .i64 0, .int .i64 0, .int .i64 0, .int .i64 0, .int .i64 0, .int .i64 0, .int .i64 0, .int .i64 0, .int .i64 0, .int .i64 0, .int .i64 0] 51).alloc (.cells #[.int .i64 0, .int .i64 0, .int .i64 0, .int .i64 0, .int .i64 0, .int .i64 0, .int .i64 0, .int .i64 0, .int .i64 0, .int .i64 0, .int .i64 0, .int .i64 0, .int .i64 0, .int .i64 0, .int .i64 0, .int .i64 0, .int .i64 0] 51)
      simpa using h
    · have h := Blk.new ((w.alloc (.cells #[.slice A 128 c] 34)).alloc (.cells #[.int .i64 0, .int .i64 0, .int .i64 0, .int .i64 0, .int .i64 0, .int .i64 0, .int .i64 0, .int .i64 0, .int .i64 0, .int .i64 0, .int .i64 0, .int .i64 0, .int .i64 0, .int .i64 0, .int .i64 0, .int .i64 0, .int .i64 0] 51)) #[.int .i64 0, .int .i64 0, .int .i64 0, .int .i64 0, .int .i64 0, .int .i64 0, .int .i64 0, .int .i64 0, .int .i64 0, .int .i64 0, .int .i64 0, .int .i64 0, .int .i64 0, .int .i64 0, .int .i64 0, .int .i64 0, .int .i64 0] 51
      simpa using h
  rw [hP]
  have HP := Lib.hid hP
  clear hP
  rintro w1 h1
  have hA : ∀ ad, A = some ad → ad.block ≠ P + 1 + 1 := fun ad e => by
    subst e
    have h2 := bytes_block HB.out (by rw [HL.out]; decide)
    have := HP.out
    omega
  have HA := Lib.hid hA
  clear hA
  go_wp2_with fail
  refine (guarded_any 57 _ w1 (fun w2 => IsNode l ∧ Blk w2 (P + 1 + 1) (ncs (nI (readN l))) 51 ∧ Chg (fun k => k = P + 1 + 1) w1 w2) (fun w2 => ¬ IsNode l ∧ Chg (fun k => k = P + 1 + 1) w1 w2) (enter57 _) ?_).mono ?_
  · intro wq hbq hkq
    refine (clo_any P (P + 1 + 1) A c l wq HL.out HC.out.1 HC.out.2 (by omega) (h1.out.2.1.below hbq h1.out.2.1.lt) (h1.out.2.2.2.1.below hbq h1.out.2.2.2.1.lt) (h1.out.2.2.2.2.1.below hbq) HA.out).mono ?_
    have hsz := h1.out.2.2.2.2.2
    rintro e w2 (⟨rfl, hs, hk, hch⟩ | ⟨he, hs, hch⟩)
    · exact .inl ⟨rfl, hch.blk hkq (by omega), hs, hk, (Chg.of_below hbq).trans hch⟩
    · exact .inr ⟨he, hch.blk hkq (by omega), hs, (Chg.of_below hbq).trans hch⟩
  have hsz := h1.out.2.2.2.2.2
  have HSZ := Lib.hid hsz
  rw [hsz]
  clear hsz
  rintro e w' (⟨rfl, w2, ⟨hs, hk, hch⟩, hg⟩ | ⟨rfl, w2, ⟨hs, hch⟩, hg⟩)
  · have hk2 : Blk w' (P + 1 + 1) (ncs (nI (readN l))) 51 := hg.blk hk (by omega)
    have hk1 : Blk w' (P + 1) #[.int .i64 0, .int .i64 0, .int .i64 0, .int .i64 0, .int .i64 0, .int .i64 0, .int .i64 0, .int .i64 0, .int .i64 0, .int .i64 0, .int .i64 0, .int .i64 0, .int .i64 0, .int .i64 0, .int .i64 0, .int .i64 0, .int .i64 0] 51 := hg.blk (hch.blk h1.out.2.2.1 (by omega)) (by have := hk.lt; have := HSZ.out; omega)
    have HV := Lib.hid (nodeDec_yes HL.out hs)
    have HF := Lib.hid (And.intro hch hg)
    clear hs hk hch hg
    have HGE : Hid (w.heap.size ≤ P + 1) := by have := HP.out; show _ ≤ _; omega
    have hbw : Below w.heap.size w w' := by
      have e := HP.out
      subst e
      exact h1.out.1.trans ((HF.out.1.below h1.out.1.size (fun k hk => by omega)).trans (HF.out.2.below (Nat.le_trans h1.out.1.size HF.out.1.size) (fun k hk => by omega)))
    have HBW := Lib.hid hbw
    clear hbw HF h1 HA HSZ
    generalize nI (readN l) = f at *
    generalize P + 1 + 1 = P2 at *
    generalize P + 1 = P1 at *
    as_aux_lemma =>
      go_wp2_with (first | (refine wpList_load_row rfl 51 _ rfl P2 rfl 51 _ (0, 0) _ hk2 Try.underlying51 rfl (by kernel_rfl) ?_) | (refine wpList_store_row rfl 51 _ _ rfl P1 (ncs f) rfl rfl 51 _ hk1 (by kernel_rfl) rfl (by kernel_rfl) ?_))
      refine gen_body (fun w9 => Hid (Blk w9 P1 (ncs f) 51 ∧ Below w.heap.size w w9)) ?_ ?_
      · refine ⟨setRow_heap _ _ _ _ _ _ hk1, HBW.out.trans ⟨rfl, rfl, rfl, by simp [World.setRow], fun k hk => setRow_other _ _ k _ (by have := HGE.out; omega)⟩⟩
      rintro w9 h9
      have hlv := run_loadVar_row (P := Try.prog) w9 P1 51 51 (ncs f) (0, 0) _ h9.out.1 Try.underlying51 rfl (by kernel_rfl)
      refine bodyPost_ret (v := .tuple #[.agg (ncs f), .int .i64 0]) (by simp [results, Try.results28, asAddr, hlv]) rfl ⟨by rw [HV.out], h9.out.2⟩
  · have hk1 : Blk w' (P + 1) #[.int .i64 0, .int .i64 0, .int .i64 0, .int .i64 0, .int .i64 0, .int .i64 0, .int .i64 0, .int .i64 0, .int .i64 0, .int .i64 0, .int .i64 0, .int .i64 0, .int .i64 0, .int .i64 0, .int .i64 0, .int .i64 0, .int .i64 0] 51 := hg.blk (hch.blk h1.out.2.2.1 (by omega)) (by omega)
    have HV := Lib.hid (nodeDec_no HL.out hs)
    have HF := Lib.hid (And.intro hch hg)
    clear hs hch hg
    have HGE : Hid (w.heap.size ≤ P + 1) := by have := HP.out; show _ ≤ _; omega
    have hbw : Below w.heap.size w w' := by
      have e := HP.out
      subst e
      exact h1.out.1.trans ((HF.out.1.below h1.out.1.size (fun k hk => by omega)).trans (HF.out.2.below (Nat.le_trans h1.out.1.size HF.out.1.size) (fun k hk => by omega)))
    have HBW := Lib.hid hbw
    clear hbw HF h1 HA HSZ
    generalize P + 1 + 1 = P2 at *
    generalize P + 1 = P1 at *
    as_aux_lemma =>
      go_wp2_with (first | (refine wpList_store_row rfl 51 _ _ rfl P1 #[.int .i64 0, .int .i64 0, .int .i64 0, .int .i64 0, .int .i64 0, .int .i64 0, .int .i64 0, .int .i64 0, .int .i64 0, .int .i64 0, .int .i64 0, .int .i64 0, .int .i64 0, .int .i64 0, .int .i64 0, .int .i64 0, .int .i64 0] rfl rfl 51 _ hk1 (by kernel_rfl) rfl (by kernel_rfl) ?_))
      refine gen_body (fun w9 => Hid (Blk w9 P1 #[.int .i64 0, .int .i64 0, .int .i64 0, .int .i64 0, .int .i64 0, .int .i64 0, .int .i64 0, .int .i64 0, .int .i64 0, .int .i64 0, .int .i64 0, .int .i64 0, .int .i64 0, .int .i64 0, .int .i64 0, .int .i64 0, .int .i64 0] 51 ∧ Below w.heap.size w w9)) ?_ ?_
      · refine ⟨setRow_heap _ _ _ _ _ _ hk1, HBW.out.trans ⟨rfl, rfl, rfl, by simp [World.setRow], fun k hk => setRow_other _ _ k _ (by have := HGE.out; omega)⟩⟩
      rintro w9 h9
      have hlv := run_loadVar_row (P := Try.prog) w9 P1 51 51 #[.int .i64 0, .int .i64 0, .int .i64 0, .int .i64 0, .int .i64 0, .int .i64 0, .int .i64 0, .int .i64 0, .int .i64 0, .int .i64 0, .int .i64 0, .int .i64 0, .int .i64 0, .int .i64 0, .int .i64 0, .int .i64 0, .int .i64 0] (0, 0) _ h9.out.1 Try.underlying51 rfl (by kernel_rfl)
      refine bodyPost_ret (v := .tuple #[.agg #[.int .i64 0, .int .i64 0, .int .i64 0, .int .i64 0, .int .i64 0, .int .i64 0, .int .i64 0, .int .i64 0, .int .i64 0, .int .i64 0, .int .i64 0, .int .i64 0, .int .i64 0, .int .i64 0, .int .i64 0, .int .i64 0, .int .i64 0], .int .i64 6]) (by simp [results, Try.results28, asAddr, hlv]) rfl ⟨by rw [HV.out], h9.out.2⟩
end Go.Proofs.Ytefmihbjboacdaa.NodeDecAll
