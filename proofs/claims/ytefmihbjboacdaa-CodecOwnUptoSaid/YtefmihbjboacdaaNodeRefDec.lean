/- The document's DecodeNode. -/
import Derived.Test.YtefmihbjboacdaaNodeDecAll
import Derived.Test.YtefmihbjboacdaaNodeRef
import Derived.Test.YtefmihbjboacdaaRefDec
namespace Go.Proofs.Ytefmihbjboacdaa.NodeRefDec
open Go.ChangeShapes Go.WideShapes Go.ChangeAt Go.RowKit
open Go.Proofs.Ytefmihbjboacdaa.Kit Go.Proofs.Ytefmihbjboacdaa.Crc Go.Proofs.Ytefmihbjboacdaa.Reads Go.Proofs.Ytefmihbjboacdaa.Copy Go.Proofs.Ytefmihbjboacdaa.Lay Go.Proofs.Ytefmihbjboacdaa.Writer Go.Proofs.Ytefmihbjboacdaa.Reader Go.Proofs.Ytefmihbjboacdaa.Guard Go.Proofs.Ytefmihbjboacdaa.SuperEnc Go.Proofs.Ytefmihbjboacdaa.SuperDec Go.Proofs.Ytefmihbjboacdaa.Equal Go.Proofs.Ytefmihbjboacdaa.Lists Go.Proofs.Ytefmihbjboacdaa.NodeLay Go.Proofs.Ytefmihbjboacdaa.NodeEnc Go.Proofs.Ytefmihbjboacdaa.NodeDec Go.Proofs.Ytefmihbjboacdaa.NodeDecAll Go.Proofs.Ytefmihbjboacdaa.NodeRef Go.Proofs.Ytefmihbjboacdaa.RefDec
set_option linter.unusedVariables false

set_option maxRecDepth 100000 in
set_option maxHeartbeats 20000000 in
theorem rdec_short (A : Option Addr) (c n : Nat) (w : World) (hn : ¬ n = 128) (hn2 : n ≤ 9223372036854775807) :
    Calls Try.prog 31 #[.slice A n c] w fun e w' => e = .returned (.tuple #[.agg #[.int .i64 0, .int .i64 0, .int .i64 0, .int .i64 0, .int .i64 0, .int .i64 0, .int .i64 0, .int .i64 0, .int .i64 0, .int .i64 0, .int .i64 0, .int .i64 0, .int .i64 0, .int .i64 0, .int .i64 0, .int .i64 0, .int .i64 0], .int .i64 2]) ∧ Below w.heap.size w w' := by
  have t0 : ((n : Int) != 128) = true := by rw [bne_iff_ne]; omega
  have HN := Lib.hid hn
  clear hn
  go_enter Try.func31, Try.ntmps31
  go_wp2_with fail
  refine bodyPost_ret (v := .tuple #[.agg #[.int .i64 0, .int .i64 0, .int .i64 0, .int .i64 0, .int .i64 0, .int .i64 0, .int .i64 0, .int .i64 0, .int .i64 0, .int .i64 0, .int .i64 0, .int .i64 0, .int .i64 0, .int .i64 0, .int .i64 0, .int .i64 0, .int .i64 0], .int .i64 2]) (by simp [results, Try.results31, go_sem]) rfl ⟨rfl, ?_⟩
  repeat (first | exact Below.refl _ _ | refine Below.drew ?_ | refine Below.alloc ?_ (by first | (simp; done) | (simp; omega)) _ | refine Below.setCell ?_ (by first | (simp; done) | (simp; omega)) _)

theorem take_at (A : Option Addr) (N c : Nat) (q0 q1 : Int) (p n : Nat) (h0 : q0 = (p : Int)) (h1 : q1 = (n : Int)) (l : List UInt8) (w w0 : World) (hN : l.length = N) (hl : N ≤ 140737488351232) (hn : n ≤ 4) (hp : p + n ≤ N) (hb : Hid (Below w0.heap.size w0 w)) (HB : Hid (Bytes w0 A l)) :
    Calls Try.prog 55 #[.slice A N c, .int .i64 q0, .int .i64 q1] w fun e w' => w = w' ∧ e = .returned (.int .i64 (fieldAt l p n : Nat)) := by
  subst h0 h1
  refine (take_any A N c p n l w hN hl (by omega) hp (Lib.hid (HB.out.below hb.out))).mono ?_
  rintro e w' ⟨rfl, h | ⟨h, hbig⟩⟩
  · exact ⟨rfl, h⟩
  · have := leVal_lt ((l.drop p).take n)
    have h4 : ((l.drop p).take n).length ≤ 4 := by rw [List.length_take]; omega
    have := Nat.pow_le_pow_right (show 0 < 256 by decide) h4
    omega
/-- eight bytes: the number, or -1 where it is beyond any file's size -/
def SizePost (l : List UInt8) (w : World) (e : Ending) (w' : World) : Prop := w = w' ∧ ∃ v : Int, e = .returned (.int .i64 v) ∧ (v = (fieldAt l 8 8 : Nat) ∨ (v = -1 ∧ 18014398509481984 < fieldAt l 8 8))
theorem take_size (A : Option Addr) (c : Nat) (l : List UInt8) (w w0 : World) (hN : l.length = 128) (hb : Hid (Below w0.heap.size w0 w)) (HB : Hid (Bytes w0 A l)) :
    Calls Try.prog 55 #[.slice A 128 c, .int .i64 8, .int .i64 8] w (SizePost l w) := by
  refine (take_any A 128 c 8 8 l w hN (by decide) (by decide) (by decide) (Lib.hid (HB.out.below hb.out))).mono ?_
  rintro e w' ⟨rfl, h | ⟨h, hbig⟩⟩
  · exact ⟨rfl, _, h, .inl rfl⟩
  · exact ⟨rfl, _, h, .inr ⟨rfl, hbig⟩⟩
/-- the node that the document's decoder has read: v stands for the size -/
def rk (l : List UInt8) (v : Int) : Nat → Int := fun k => if k = 3 then v else (readR l k : Int)
theorem rk_ok {l : List UInt8} {v : Int} (h : v = (fieldAt l 8 8 : Nat)) : ∀ k, k < 17 → rk l v k = nI (readR l) k := fun k hk => by
  unfold rk
  by_cases e : k = 3
  · subst e
    rw [if_pos rfl, h]
    rfl
  · rw [if_neg e]
    rfl
/-- a size beyond any file's: no node either way -/
theorem rk_bad {l : List UInt8} {v : Int} (h : v = -1) (hb : 18014398509481984 < fieldAt l 8 8) : ¬ NOk (rk l v) ∧ ¬ IsNode l := by
  constructor
  · intro hok
    have h3 := (nok_bounds hok).2.2.2.1.1
    unfold rk at h3
    rw [if_pos rfl] at h3
    omega
  · intro hs
    have h3 := (nok_bounds hs.1).2.2.2.1.2
    have e : nI (readN l) 3 = (fieldAt l 8 8 : Nat) := rfl
    rw [e] at h3
    omega
/-- the document's verdict is the decoder's -/
theorem verdict {l : List UInt8} {v : Int} (h : v = (fieldAt l 8 8 : Nat) ∨ (v = -1 ∧ 18014398509481984 < fieldAt l 8 8)) :
    (NOk (rk l v) ∧ nodeOf (rk l v) = l ↔ IsNode l) ∧ (IsNode l → ncs (rk l v) = ncs (nI (readN l))) := by
  rcases h with h | ⟨h, hb⟩
  · have e := rk_ok h
    refine ⟨⟨fun hs => (isNode_iff l).1 ⟨(nok_congr e).1 hs.1, (nodeOf_congr e).symm.trans hs.2⟩, fun hs => ?_⟩, fun hs => ?_⟩
    · have h2 := (isNode_iff l).2 hs
      exact ⟨(nok_congr e).2 h2.1, (nodeOf_congr e).trans h2.2⟩
    · exact ncs_congr (fun k hk => (e k hk).trans (same_reads hs k hk))
  · have hn := rk_bad h hb
    exact ⟨⟨fun hs => absurd hs.1 hn.1, fun hs => absurd hs hn.2⟩, fun hs => absurd hs hn.2⟩
/-- the cells so far: all fields but the last 10 - j direct pointers -/
def rj (l : List UInt8) (v : Int) (j : Nat) : Nat → Int := fun k => if 5 + j ≤ k ∧ k < 15 then 0 else rk l v k
theorem rj_all (l : List UInt8) (v : Int) : ncs (rj l v 10) = ncs (rk l v) := ncs_congr (fun k hk => if_neg (by omega))
theorem rj_step (l : List UInt8) (v : Int) (j : Nat) (x : Int) (hj : j < 10) (hx : x = (fieldAt l (24 + 4 * j) 4 : Nat)) : (ncs (rj l v j)).setIfInBounds (5 + j) (.int .i64 x) = ncs (rj l v (j + 1)) := by
  rw [ncs_set _ _ _ (by omega)]
  refine ncs_congr (fun k hk => ?_)
  unfold fset rj
  by_cases e : k = 5 + j
  · subst e
    rw [if_pos rfl, if_neg (by omega), hx]
    unfold rk readR
    rw [if_neg (by omega), pos_ptr, wr_ptr]
  · rw [if_neg e]
    by_cases h1 : 5 + j ≤ k ∧ k < 15
    · rw [if_pos h1, if_pos (by omega)]
    · rw [if_neg h1, if_neg (by omega)]
theorem rj0 {l : List UInt8} {v : Int} {a b c d e g : Nat} (ha : fieldAt l 0 1 = a) (hb : fieldAt l 2 2 = b) (hc : fieldAt l 4 4 = c) (hd : fieldAt l 16 4 = d) (he : fieldAt l 64 4 = e) (hg : fieldAt l 68 4 = g) :
    ncs (rj l v 0) = #[.int .i64 a, .int .i64 b, .int .i64 c, .int .i64 v, .int .i64 d, .int .i64 0, .int .i64 0, .int .i64 0, .int .i64 0, .int .i64 0, .int .i64 0, .int .i64 0, .int .i64 0, .int .i64 0, .int .i64 0, .int .i64 e, .int .i64 g] := by
  have e0 : readR l 0 = a := ha
  have e1 : readR l 1 = b := hb
  have e2 : readR l 2 = c := hc
  have e4 : readR l 4 = d := hd
  have e15 : readR l 15 = e := he
  have e16 : readR l 16 = g := hg
  simp only [ncs, rj, rk, e0, e1, e2, e4, e15, e16]
  rfl

set_option maxRecDepth 100000 in
set_option maxHeartbeats 20000000 in
theorem rdec_full (A : Option Addr) (c : Nat) (l : List UInt8) (w : World) (hl : l.length = 128) (HB : Hid (Bytes w A l)) :
    Calls Try.prog 31 #[.slice A 128 c] w (NDPost w l) := by
  have HL := Lib.hid hl
  clear hl
  go_enter Try.func31, Try.ntmps31
  go_upto_region 3 with (fail)
  refine gen_world (fun w1 => Hid (Below w.heap.size w w1 ∧ Blk w1 w.heap.size #[.int .i64 0, .int .i64 0, .int .i64 0, .int .i64 0, .int .i64 0, .int .i64 0, .int .i64 0, .int .i64 0, .int .i64 0, .int .i64 0, .int .i64 0, .int .i64 0, .int .i64 0, .int .i64 0, .int .i64 0, .int .i64 0, .int .i64 0] 51)) ?_ ?_
  · exact ⟨(Below.refl _ _).alloc (Nat.le_refl _) _, Blk.new _ _ _⟩
  obtain ⟨P, hP⟩ : ∃ P, w.heap.size = P := ⟨_, rfl⟩
  rw [hP]
  have HP := Lib.hid hP
  clear hP
  rintro w1 h1
  have HW : Hid (Below w.heap.size w w1) := HP.out.symm ▸ h1.out.1
  go_wp2_with fail
  refine (take_at A 128 c 0 1 0 1 rfl rfl l w1 w HL.out (by decide) (by decide) (by decide) HW HB).mono ?_
  rintro e w' ⟨rfl, rfl⟩
  go_wp2_with fail
  refine (take_at A 128 c 2 2 2 2 rfl rfl l w1 w HL.out (by decide) (by decide) (by decide) HW HB).mono ?_
  rintro e w' ⟨rfl, rfl⟩
  go_wp2_with fail
  refine (take_at A 128 c 4 4 4 4 rfl rfl l w1 w HL.out (by decide) (by decide) (by decide) HW HB).mono ?_
  rintro e w' ⟨rfl, rfl⟩
  go_wp2_with fail
  refine (take_size A c l w1 w HL.out HW HB).mono ?_
  rintro e w' ⟨rfl, v, rfl, hv⟩
  have HV := Lib.hid (verdict hv)
  clear hv
  go_wp2_with fail
  refine (take_at A 128 c 16 4 16 4 rfl rfl l w1 w HL.out (by decide) (by decide) (by decide) HW HB).mono ?_
  rintro e w' ⟨rfl, rfl⟩
  go_wp2_with fail
  refine (take_at A 128 c 64 4 64 4 rfl rfl l w1 w HL.out (by decide) (by decide) (by decide) HW HB).mono ?_
  rintro e w' ⟨rfl, rfl⟩
  go_wp2_with fail
  refine (take_at A 128 c 68 4 68 4 rfl rfl l w1 w HL.out (by decide) (by decide) (by decide) HW HB).mono ?_
  rintro e w' ⟨rfl, rfl⟩
  obtain ⟨fa, hfa⟩ : ∃ x, fieldAt l 0 1 = x := ⟨_, rfl⟩
  obtain ⟨fb, hfb⟩ : ∃ x, fieldAt l 2 2 = x := ⟨_, rfl⟩
  obtain ⟨fc, hfc⟩ : ∃ x, fieldAt l 4 4 = x := ⟨_, rfl⟩
  obtain ⟨fd, hfd⟩ : ∃ x, fieldAt l 16 4 = x := ⟨_, rfl⟩
  obtain ⟨fe, hfe⟩ : ∃ x, fieldAt l 64 4 = x := ⟨_, rfl⟩
  obtain ⟨fg, hfg⟩ : ∃ x, fieldAt l 68 4 = x := ⟨_, rfl⟩
  rw [hfa, hfb, hfc, hfd, hfe, hfg]
  have FK := Lib.hid (rj0 (v := v) hfa hfb hfc hfd hfe hfg)
  clear hfa hfb hfc hfd hfe hfg
  go_upto_region 4 with (fail)
  obtain ⟨Q, hQ⟩ : ∃ Q, w1.heap.size = Q := ⟨_, rfl⟩
  rw [hQ]
  have HQ := Lib.hid hQ
  clear hQ
  refine gen_world (fun w2 => Hid (Below w.heap.size w w2 ∧ Blk w2 P #[.int .i64 0, .int .i64 0, .int .i64 0, .int .i64 0, .int .i64 0, .int .i64 0, .int .i64 0, .int .i64 0, .int .i64 0, .int .i64 0, .int .i64 0, .int .i64 0, .int .i64 0, .int .i64 0, .int .i64 0, .int .i64 0, .int .i64 0] 51 ∧ Blk w2 Q (ncs (rj l v 0)) 51)) ?_ ?_
  · have h3 := h1.out
    rw [← HP.out] at h3 ⊢
    rw [← HQ.out, FK.out]
    exact ⟨h3.1.alloc h3.1.size _, h3.2.alloc _, Blk.new w1 _ _⟩
  have hPQ : P < Q := by have := h1.out.2.lt; have := HQ.out; omega
  have HPQ := Lib.hid hPQ
  clear h1 HW FK hPQ
  rintro w2 h2
  go_wp2_with fail
  go_loopw [5] (fun i wr => ∃ (j : Nat), i = .int .i64 j ∧ j ≤ 10 ∧ Hid (Below w.heap.size w wr ∧ Blk wr P #[.int .i64 0, .int .i64 0, .int .i64 0, .int .i64 0, .int .i64 0, .int .i64 0, .int .i64 0, .int .i64 0, .int .i64 0, .int .i64 0, .int .i64 0, .int .i64 0, .int .i64 0, .int .i64 0, .int .i64 0, .int .i64 0, .int .i64 0] 51 ∧ Blk wr Q (ncs (rj l v j)) 51)) (fun i _ => 10 - (intOf i).toNat)
  case atStart => exact ⟨0, rfl, by omega, h2⟩
  case round =>
    clear h2
    obtain ⟨j, rfl, hj, h3⟩ := hrel
    by_cases hlt : j < 10
    · have HW3 : Hid (Below w.heap.size w wr) := h3.out.1
      go_wp2_with fail
      refine (take_at A 128 c _ 4 (24 + 4 * j) 4 (by omega) rfl l wr w HL.out (by decide) (by decide) (by omega) HW3 HB).mono ?_
      rintro e w' ⟨rfl, rfl⟩
      have cj : ∃ v, wr.cell? ⟨Q, 5 + j, none⟩ = some v := ⟨_, (h3.out.2.2.cell (5 + j)).trans (ncs_get _ (5 + j) (by omega))⟩
      obtain ⟨vj, cj⟩ := cj
      have fj := h3.out.2.2.frozen (5 + j)
      go_wp2_with fail
      have hlt2 := HPQ.out
      have hge : w.heap.size ≤ Q := by have := HP.out; omega
      have hne : P ≠ Q := by omega
      exact ⟨⟨j + 1, by go_num, by omega, h3.out.1.setCell hge _, h3.out.2.1.far hne _, by rw [← rj_step l v j _ hlt rfl]; exact h3.out.2.2.put (5 + j) _⟩, by simp [intOf]; omega⟩
    · obtain rfl : j = 10 := by omega
      have h4 : Hid (Below w.heap.size w wr ∧ Blk wr P #[.int .i64 0, .int .i64 0, .int .i64 0, .int .i64 0, .int .i64 0, .int .i64 0, .int .i64 0, .int .i64 0, .int .i64 0, .int .i64 0, .int .i64 0, .int .i64 0, .int .i64 0, .int .i64 0, .int .i64 0, .int .i64 0, .int .i64 0] 51 ∧ Blk wr Q (ncs (rk l v)) 51) := by
        have h := h3.out
        rw [rj_all] at h
        exact h
      clear h3
      obtain ⟨f, hf⟩ : ∃ x, rk l v = x := ⟨_, rfl⟩
      rw [hf] at h4 HV
      clear hf
      by_cases hfit : NOk f
      · as_aux_lemma =>
          go_wp2_with (first | (refine wpList_load_row rfl 51 _ rfl Q rfl 51 (ncs f) (0, 0) _ h4.out.2.2 Try.underlying51 rfl (by kernel_rfl) ?_))
          refine (ref_ok f _ hfit).mono ?_
          rintro e w3 ⟨D, rfl, hm⟩
          have HM := Lib.hid hm
          have HFIT := Lib.hid hfit
          clear hm hfit
          have hb3 : Below wr.heap.size wr w3 := HM.out.2.1
          have HS3 := Lib.hid (h4.out.1.trans (hb3.mono h4.out.1.size))
          have HP3 := Lib.hid (h4.out.2.1.below hb3 h4.out.2.1.lt)
          have HQ3 := Lib.hid (h4.out.2.2.below hb3 h4.out.2.2.lt)
          clear hb3
          go_wp2_with fail
          refine (Same_at (some ⟨D, 0, none⟩) A 128 128 128 c (nodeOf f) l _ (nodeOf_length f) HL.out (by decide) (Lib.hid (Bytes.own' HM.out.2.2)) (Lib.hid (HB.out.below HS3.out))).mono ?_
          by_cases heq : nodeOf f = l
          · have hs : IsNode l := HV.out.1.1 ⟨HFIT.out, heq⟩
            have HS : Hid (nodeDec l = .tuple #[.agg (ncs f), .int .i64 0]) := by
              have h := nodeDec_yes HL.out hs
              rw [← HV.out.2 hs] at h
              exact h
            rw [decide_eq_true heq]
            clear hs heq
            rintro e w4 ⟨rfl, hx⟩
            have HS4 := Lib.hid (HS3.out.trans (hx.below _))
            have hq4 := hx.blk HQ3.out
            have hp4 := hx.blk HP3.out
            clear hx
            go_wp2_with (first | (refine wpList_load_row rfl 51 _ rfl Q rfl 51 (ncs f) (0, 0) _ hq4 Try.underlying51 rfl (by kernel_rfl) ?_) | (refine wpList_store_row rfl 51 _ _ rfl P (ncs f) rfl rfl 51 _ hp4 (by kernel_rfl) rfl (by kernel_rfl) ?_))
            refine gen_body (fun w9 => Hid (Blk w9 P (ncs f) 51 ∧ Below w.heap.size w w9)) ?_ ?_
            · refine ⟨setRow_heap _ _ _ _ _ _ hp4, HS4.out.trans ⟨rfl, rfl, rfl, by simp [World.setRow], fun k hk => setRow_other _ _ k _ (by have := HP.out; omega)⟩⟩
            rintro w9 h9
            have hlv := run_loadVar_row (P := Try.prog) w9 P 51 51 (ncs f) (0, 0) _ h9.out.1 Try.underlying51 rfl (by kernel_rfl)
            refine bodyPost_ret (v := .tuple #[.agg (ncs f), .int .i64 0]) (by simp [results, Try.results31, asAddr, hlv]) rfl ⟨by rw [HS.out], h9.out.2⟩
          · have hs : ¬ IsNode l := fun h => heq (HV.out.1.2 h).2
            have HS := Lib.hid (nodeDec_no HL.out hs)
            rw [decide_eq_false heq]
            clear hs heq
            rintro e w4 ⟨rfl, hx⟩
            have HS4 := Lib.hid (HS3.out.trans (hx.below _))
            have hp4 := hx.blk HP3.out
            clear hx
            go_wp2_with (first | (refine wpList_store_row rfl 51 _ _ rfl P #[.int .i64 0, .int .i64 0, .int .i64 0, .int .i64 0, .int .i64 0, .int .i64 0, .int .i64 0, .int .i64 0, .int .i64 0, .int .i64 0, .int .i64 0, .int .i64 0, .int .i64 0, .int .i64 0, .int .i64 0, .int .i64 0, .int .i64 0] rfl rfl 51 _ hp4 (by kernel_rfl) rfl (by kernel_rfl) ?_))
            refine gen_body (fun w9 => Hid (Blk w9 P #[.int .i64 0, .int .i64 0, .int .i64 0, .int .i64 0, .int .i64 0, .int .i64 0, .int .i64 0, .int .i64 0, .int .i64 0, .int .i64 0, .int .i64 0, .int .i64 0, .int .i64 0, .int .i64 0, .int .i64 0, .int .i64 0, .int .i64 0] 51 ∧ Below w.heap.size w w9)) ?_ ?_
            · refine ⟨setRow_heap _ _ _ _ _ _ hp4, HS4.out.trans ⟨rfl, rfl, rfl, by simp [World.setRow], fun k hk => setRow_other _ _ k _ (by have := HP.out; omega)⟩⟩
            rintro w9 h9
            have hlv := run_loadVar_row (P := Try.prog) w9 P 51 51 #[.int .i64 0, .int .i64 0, .int .i64 0, .int .i64 0, .int .i64 0, .int .i64 0, .int .i64 0, .int .i64 0, .int .i64 0, .int .i64 0, .int .i64 0, .int .i64 0, .int .i64 0, .int .i64 0, .int .i64 0, .int .i64 0, .int .i64 0] (0, 0) _ h9.out.1 Try.underlying51 rfl (by kernel_rfl)
            refine bodyPost_ret (v := .tuple #[.agg #[.int .i64 0, .int .i64 0, .int .i64 0, .int .i64 0, .int .i64 0, .int .i64 0, .int .i64 0, .int .i64 0, .int .i64 0, .int .i64 0, .int .i64 0, .int .i64 0, .int .i64 0, .int .i64 0, .int .i64 0, .int .i64 0, .int .i64 0], .int .i64 6]) (by simp [results, Try.results31, asAddr, hlv]) rfl ⟨by rw [HS.out], h9.out.2⟩
      · as_aux_lemma =>
          have hs : ¬ IsNode l := fun h => hfit (HV.out.1.2 h).1
          have HS := Lib.hid (nodeDec_no HL.out hs)
          clear hs
          go_wp2_with (first | (refine wpList_load_row rfl 51 _ rfl Q rfl 51 (ncs f) (0, 0) _ h4.out.2.2 Try.underlying51 rfl (by kernel_rfl) ?_))
          refine (ref_bad f _ hfit).mono ?_
          rintro e w4 ⟨rfl, hx⟩
          have HS4 := Lib.hid (h4.out.1.trans (hx.mono h4.out.1.size))
          have hp4 := h4.out.2.1.below hx h4.out.2.1.lt
          clear hx hfit
          go_wp2_with (first | (refine wpList_store_row rfl 51 _ _ rfl P #[.int .i64 0, .int .i64 0, .int .i64 0, .int .i64 0, .int .i64 0, .int .i64 0, .int .i64 0, .int .i64 0, .int .i64 0, .int .i64 0, .int .i64 0, .int .i64 0, .int .i64 0, .int .i64 0, .int .i64 0, .int .i64 0, .int .i64 0] rfl rfl 51 _ hp4 (by kernel_rfl) rfl (by kernel_rfl) ?_))
          refine gen_body (fun w9 => Hid (Blk w9 P #[.int .i64 0, .int .i64 0, .int .i64 0, .int .i64 0, .int .i64 0, .int .i64 0, .int .i64 0, .int .i64 0, .int .i64 0, .int .i64 0, .int .i64 0, .int .i64 0, .int .i64 0, .int .i64 0, .int .i64 0, .int .i64 0, .int .i64 0] 51 ∧ Below w.heap.size w w9)) ?_ ?_
          · refine ⟨setRow_heap _ _ _ _ _ _ hp4, HS4.out.trans ⟨rfl, rfl, rfl, by simp [World.setRow], fun k hk => setRow_other _ _ k _ (by have := HP.out; omega)⟩⟩
          rintro w9 h9
          have hlv := run_loadVar_row (P := Try.prog) w9 P 51 51 #[.int .i64 0, .int .i64 0, .int .i64 0, .int .i64 0, .int .i64 0, .int .i64 0, .int .i64 0, .int .i64 0, .int .i64 0, .int .i64 0, .int .i64 0, .int .i64 0, .int .i64 0, .int .i64 0, .int .i64 0, .int .i64 0, .int .i64 0] (0, 0) _ h9.out.1 Try.underlying51 rfl (by kernel_rfl)
          refine bodyPost_ret (v := .tuple #[.agg #[.int .i64 0, .int .i64 0, .int .i64 0, .int .i64 0, .int .i64 0, .int .i64 0, .int .i64 0, .int .i64 0, .int .i64 0, .int .i64 0, .int .i64 0, .int .i64 0, .int .i64 0, .int .i64 0, .int .i64 0, .int .i64 0, .int .i64 0], .int .i64 6]) (by simp [results, Try.results31, asAddr, hlv]) rfl ⟨by rw [HS.out], h9.out.2⟩
end Go.Proofs.Ytefmihbjboacdaa.NodeRefDec
