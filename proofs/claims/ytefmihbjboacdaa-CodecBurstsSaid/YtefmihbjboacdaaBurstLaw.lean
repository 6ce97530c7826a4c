/- CodecBursts: within 32 bits in a row nothing can be turned over unseen, in a node, an entry, an empty one, a superblock; no condition. -/
import Derived.Test.YtefmihbjboacdaaBurst
import Derived.Test.YtefmihbjboacdaaTurn
import Derived.Test.YtefmihbjboacdaaTameNode
import Derived.Test.YtefmihbjboacdaaTameEntry
namespace Go.Proofs.Ytefmihbjboacdaa.BurstLaw
open Go.ChangeShapes Go.WideShapes Go.ChangeAt Go.RowKit
open Go.Proofs.Ytefmihbjboacdaa.Kit Go.Proofs.Ytefmihbjboacdaa.Crc Go.Proofs.Ytefmihbjboacdaa.Reads Go.Proofs.Ytefmihbjboacdaa.Copy Go.Proofs.Ytefmihbjboacdaa.Lay Go.Proofs.Ytefmihbjboacdaa.Lists Go.Proofs.Ytefmihbjboacdaa.Plan Go.Proofs.Ytefmihbjboacdaa.NodeLay Go.Proofs.Ytefmihbjboacdaa.NodeCells Go.Proofs.Ytefmihbjboacdaa.EntryEnc Go.Proofs.Ytefmihbjboacdaa.SuperEnc Go.Proofs.Ytefmihbjboacdaa.SuperDec Go.Proofs.Ytefmihbjboacdaa.Forms Go.Proofs.Ytefmihbjboacdaa.Tame Go.Proofs.Ytefmihbjboacdaa.TameNode Go.Proofs.Ytefmihbjboacdaa.TameEntry Go.Proofs.Ytefmihbjboacdaa.Burst
open Go.Proofs.Ytefmihbjboacdaa.Turn (TurnAt turn_at)
set_option linter.unusedVariables false

def Told (any : Bool) (er : Int) : Prop := any = false ∨ (any = true ∧ er = 6)
theorem told_of {p : Nat} {er : Int} (h : p ≠ 0 → er = 6) : Told (decide (p ≠ 0)) er := by
  by_cases hp : p = 0
  · left; simp [hp]
  · right; exact ⟨by simp [hp], h hp⟩
theorem dec_node {l l' : List UInt8} {a p : Nat} (hl : NodeOk l) (hb : Turn.Burst l l' a p 32) (ha : a ≤ 1024) :
    ∃ (q : Nat → Int) (er : Int), Told (decide (p ≠ 0)) er ∧ ∀ A w, Bytes w A l' → Calls Try.prog 28 #[.slice A 128 128] w (NodesBoth.DecBoth q er w) := by
  have hlen : l'.length = 128 := hb.1.trans hl.len
  by_cases hs : IsNode l'
  · refine ⟨nI (readN l'), 0, told_of fun hp => absurd (node_burst hl ⟨_, hs⟩ hb.2.1 ha hb.2.2) hp, fun A w H => (NodeDecAll.dec_full A 128 l' w hlen (by decide) (by decide) H).mono ?_⟩
    rintro e w' ⟨rfl, hb⟩
    exact ⟨by rw [NodeDecAll.nodeDec_yes hlen hs], hb⟩
  · refine ⟨fun _ => 0, 6, told_of fun _ => rfl, fun A w H => (NodeDecAll.dec_full A 128 l' w hlen (by decide) (by decide) H).mono ?_⟩
    rintro e w' ⟨rfl, hb⟩
    exact ⟨by rw [NodeDecAll.nodeDec_no hlen hs]; rfl, hb⟩
theorem dec_entry {l l' : List UInt8} {a p : Nat} (hl : EntryOk l) (hb : Turn.Burst l l' a p 32) (ha : a ≤ 512) :
    ∃ (q : Int × Int × ByteArray) (er : Int), Told (decide (p ≠ 0)) er ∧ ∀ A w, Bytes w A l' → Calls Try.prog 34 #[.slice A 64 64] w (EntriesBoth.DecBoth q er w) := by
  have hlen : l'.length = 64 := hb.1.trans hl.len
  by_cases hs : EntryDec.IsEntry l'
  · refine ⟨((fieldAt l' 0 4 : Nat), (fieldAt l' 4 1 : Nat), Equal.text (EntryDec.nameOf l')), 0, told_of fun hp => absurd (entry_burst hl ⟨_, _, _, hs.2⟩ hb.2.1 ha hb.2.2) hp, fun A w H => (EntryDec.dec_full A 64 l' w hlen (by decide) (by decide) H).mono ?_⟩
    rintro e w' ⟨rfl, hb⟩
    exact ⟨by rw [EntryDec.entryDec_yes hlen hs]; rfl, hb⟩
  · refine ⟨(0, 0, ⟨#[]⟩), 6, told_of fun _ => rfl, fun A w H => (EntryDec.dec_full A 64 l' w hlen (by decide) (by decide) H).mono ?_⟩
    rintro e w' ⟨rfl, hb⟩
    exact ⟨by rw [EntryDec.entryDec_no hlen hs], hb⟩
theorem dec_super {x y z : Nat} {l' : List UInt8} {a p : Nat} (hb : Turn.Burst (superBytes x y z) l' a p 32) (ha : a ≤ 4096) :
    ∃ (u v t er : Int), Told (decide (p ≠ 0)) er ∧ ∀ A w, Bytes w A l' → Calls Try.prog 23 #[.slice A 512 512] w (SupersBoth.DecBoth u v t er w) := by
  have hlen : l'.length = 512 := hb.1.trans (superBytes_length x y z)
  by_cases hs : IsSuper l'
  · refine ⟨(fieldAt l' 8 4 : Nat), (fieldAt l' 12 4 : Nat), (fieldAt l' 16 4 : Nat), 0, told_of fun hp => absurd ?_ hp, fun A w H => (SuperDec.dec_full A 512 l' w hlen (by decide) (by decide) H).mono ?_⟩
    · have hv := hb.2.2
      rw [← hs.2] at hv
      exact super_burst hb.2.1 ha hv
    rintro e w' ⟨rfl, hb⟩
    exact ⟨by rw [decoded_yes hlen hs], hb⟩
  · refine ⟨0, 0, 0, 6, told_of fun _ => rfl, fun A w H => (SuperDec.dec_full A 512 l' w hlen (by decide) (by decide) H).mono ?_⟩
    rintro e w' ⟨rfl, hb⟩
    exact ⟨by rw [decoded_no hlen hs], hb⟩
theorem node_zs : NodeOk (zs 128) := ⟨fun _ => 0, .inl (fun _ _ => rfl), if_pos (fun _ _ => rfl)⟩
theorem entry_zs : EntryOk (zs 64) := ⟨0, 0, ⟨#[]⟩, .inl ⟨rfl, rfl, rfl⟩, if_pos ⟨rfl, rfl, rfl⟩⟩

theorem enc_entry2 (n k : Int) (s : ByteArray) (sl : Int) (w : World) (h : EOk n k s) : Calls Try.prog 35 #[.agg #[.int .i64 n, .int .i64 k, .string s, .int .i64 sl]] w (SupersBoth.EncPost 64 (entryOf n k s) 0 w) := by
  refine (EntryEnc.enc_ok n k s sl w h).mono ?_
  rintro e w' ⟨B, rfl, hm⟩
  exact ⟨_, rfl, hm.2.1, Bytes.own' hm.2.2⟩
/-- the lists that are turned in a round -/
def Rnd (w wr : World) (D A C : Option Addr) (ld : List UInt8) : Prop :=
  ∃ lb lc : List UInt8, (NodeOk lb ∧ EntryOk lc) ∧ Bytes wr A lb ∧ Bytes wr C lc ∧ Bytes wr D ld ∧ Below w.heap.size w wr
theorem Rnd.below {w wr wr' : World} {D A C : Option Addr} {ld : List UInt8} (h : Rnd w wr D A C ld) (hb : Below wr.heap.size wr wr') : Rnd w wr' D A C ld := by
  obtain ⟨lb, lc, h1, h2, h3, h4, h5⟩ := h
  exact ⟨lb, lc, h1, h2.below hb, h3.below hb, h4.below hb, h5.trans (hb.mono h5.size)⟩
set_option maxRecDepth 100000 in
set_option maxHeartbeats 20000000 in
theorem law_any (f0 : Nat → Int) (x1 x2 : Int) (xs : ByteArray) (x3 : Int) (s1 s2 s3 at' pat : Int) (w : World) :
    Calls Try.prog 14 #[.agg #[.int .i64 (f0 0), .int .i64 (f0 1), .int .i64 (f0 2), .int .i64 (f0 3), .int .i64 (f0 4), .int .i64 (f0 5), .int .i64 (f0 6), .int .i64 (f0 7), .int .i64 (f0 8), .int .i64 (f0 9), .int .i64 (f0 10), .int .i64 (f0 11), .int .i64 (f0 12), .int .i64 (f0 13), .int .i64 (f0 14), .int .i64 (f0 15), .int .i64 (f0 16)],
      .agg #[.int .i64 x1, .int .i64 x2, .string xs, .int .i64 x3], .agg #[.int .i64 s1, .int .i64 s2, .int .i64 s3], .int .i64 at', .int .i64 pat] w fun e w' => e = .returned (.bool true) ∧ Below w.heap.size w w' := by
  obtain ⟨i5, hi, hz0, hz1, hz2⟩ := info_parts info5
  have hmk : ∀ w, (Instr.makeSlice 34 (.int .i64 128) (.int .i64 128)).run Try.prog w = .ok (.slice (some ⟨w.heap.size, 0, none⟩) 128 128) (w.alloc (.cells (bvs (zs 128)) 5)) := make_bytes Try.underlying34 hi hz0 hz1 hz2 128 128 rfl (by omega)
  have hmk2 : ∀ w, (Instr.makeSlice 34 (.int .i64 64) (.int .i64 64)).run Try.prog w = .ok (.slice (some ⟨w.heap.size, 0, none⟩) 64 64) (w.alloc (.cells (bvs (zs 64)) 5)) := make_bytes Try.underlying34 hi hz0 hz1 hz2 64 64 rfl (by omega)
  clear hi hz0 hz1 hz2
  go_enter Try.func14, Try.ntmps14
  go_upto_region 1 with (fail)
  obtain ⟨P, hP⟩ : ∃ P, w.heap.size = P := ⟨_, rfl⟩
  rw [hP]
  refine gen_world (fun w' => Hid (Below w.heap.size w w' ∧ Blk w' P (ncs f0) 51 ∧ Blk w' (P + 1) #[.int .i64 x1, .int .i64 x2, .string xs, .int .i64 x3] 61 ∧ Blk w' (P + 1 + 1) #[.int .i64 s1, .int .i64 s2, .int .i64 s3] 30)) ?_ ?_
  · subst hP
    refine ⟨(((Below.refl _ _).alloc (Nat.le_refl _) _).alloc (by simp) _).alloc (by simp; omega) _, ((Blk.new w _ _).alloc _).alloc _, Blk.alloc ?_ _, ?_⟩
    · have h := Blk.new (w.alloc (.cells (ncs f0) 51)) #[.int .i64 x1, .int .i64 x2, .string xs, .int .i64 x3] 61
      simpa [ncs] using h
    · have h := Blk.new ((w.alloc (.cells (ncs f0) 51)).alloc (.cells #[.int .i64 x1, .int .i64 x2, .string xs, .int .i64 x3] 61)) #[.int .i64 s1, .int .i64 s2, .int .i64 s3] 30
      simpa [ncs] using h
  clear hP
  generalize P + 1 + 1 = P2
  generalize P + 1 = P1
  rintro w1 h1
  have hk := h1.out.2.1
  go_wp2_with (first | (refine wpList_load_row rfl 51 _ rfl P rfl 51 (ncs f0) (0, 0) _ hk Try.underlying51 rfl (by kernel_rfl) ?_))
  refine (tame_any f0 _).mono ?_
  rintro e w2 ⟨f, hf, rfl, hb⟩
  have h2 : Hid (Below w.heap.size w w2 ∧ Blk w2 P1 #[.int .i64 x1, .int .i64 x2, .string xs, .int .i64 x3] 61 ∧ Blk w2 P2 #[.int .i64 s1, .int .i64 s2, .int .i64 s3] 30) :=
    ⟨h1.out.1.trans (hb.out.mono h1.out.1.size), h1.out.2.2.1.below hb.out h1.out.2.2.1.lt, h1.out.2.2.2.below hb.out h1.out.2.2.2.lt⟩
  have HF := Lib.hid hf
  clear hb hk h1 hf
  go_wp2_with fail
  refine (enc_node f _ (.inr HF.out)).mono ?_
  rintro e w3 ⟨A, rfl, hm⟩
  have h3 : Hid (Below w.heap.size w w3 ∧ Blk w3 P1 #[.int .i64 x1, .int .i64 x2, .string xs, .int .i64 x3] 61 ∧ Blk w3 P2 #[.int .i64 s1, .int .i64 s2, .int .i64 s3] 30 ∧ Bytes w3 A (nodeOf f)) :=
    ⟨h2.out.1.trans (hm.out.1.mono h2.out.1.size), h2.out.2.1.below hm.out.1 h2.out.2.1.lt, h2.out.2.2.below hm.out.1 h2.out.2.2.lt, hm.out.2⟩
  clear hm h2
  have c0 : w3.cell? ⟨P1, 0, none⟩ = some (.int .i64 x1) := (h3.out.2.1.cell 0).trans rfl
  have c1 : w3.cell? ⟨P1, 1, none⟩ = some (.int .i64 x2) := (h3.out.2.1.cell 1).trans rfl
  have c2 : w3.cell? ⟨P1, 2, none⟩ = some (.string xs) := (h3.out.2.1.cell 2).trans rfl
  have c3 : w3.cell? ⟨P1, 3, none⟩ = some (.int .i64 x3) := (h3.out.2.1.cell 3).trans rfl
  go_wp2_with fail
  refine (tameEntry_any x1 x2 xs x3 _).mono ?_
  clear c0 c1 c2 c3
  rintro e w4 ⟨en, ek, es, hg, rfl, hb⟩
  have h4 : Hid (Below w.heap.size w w4 ∧ Blk w4 P2 #[.int .i64 s1, .int .i64 s2, .int .i64 s3] 30 ∧ Bytes w4 A (nodeOf f)) :=
    ⟨h3.out.1.trans (hb.out.mono h3.out.1.size), h3.out.2.2.1.below hb.out h3.out.2.2.1.lt, h3.out.2.2.2.below hb.out⟩
  have HG := Lib.hid hg
  clear hb h3 hg
  go_wp2_with fail
  refine (enc_entry2 en ek es x3 _ (.inr HG.out)).mono ?_
  rintro e w5 ⟨C, rfl, hm⟩
  have h5 : Hid (Below w.heap.size w w5 ∧ Blk w5 P2 #[.int .i64 s1, .int .i64 s2, .int .i64 s3] 30 ∧ Bytes w5 A (nodeOf f) ∧ Bytes w5 C (entryOf en ek es)) :=
    ⟨h4.out.1.trans (hm.out.1.mono h4.out.1.size), h4.out.2.1.below hm.out.1 h4.out.2.1.lt, h4.out.2.2.below hm.out.1, hm.out.2⟩
  clear hm h4
  have c0 : w5.cell? ⟨P2, 0, none⟩ = some (.int .i64 s1) := (h5.out.2.1.cell 0).trans rfl
  have c1 : w5.cell? ⟨P2, 1, none⟩ = some (.int .i64 s2) := (h5.out.2.1.cell 1).trans rfl
  have c2 : w5.cell? ⟨P2, 2, none⟩ = some (.int .i64 s3) := (h5.out.2.1.cell 2).trans rfl
  go_wp2_with fail
  refine (tameSuper_any s1 s2 s3 _).mono ?_
  clear c0 c1 c2
  rintro e w6 ⟨sa, sb, sc, hs, rfl, hb⟩
  have h6 : Hid (Below w.heap.size w w6 ∧ Bytes w6 A (nodeOf f) ∧ Bytes w6 C (entryOf en ek es)) :=
    ⟨h5.out.1.trans (hb.out.mono h5.out.1.size), h5.out.2.2.1.below hb.out, h5.out.2.2.2.below hb.out⟩
  have HS := Lib.hid hs
  clear hb h5 hs
  go_wp2_with fail
  refine (enc_super sa sb sc (superBytes sa sb sc) _ ⟨sa, sb, sc, rfl, rfl, rfl, HS.out, rfl⟩).mono ?_
  rintro e w7 ⟨D, rfl, hm⟩
  have h7 : Hid (Rnd w w7 D A C (superBytes sa sb sc)) :=
    ⟨_, _, ⟨⟨f, .inr HF.out, rfl⟩, ⟨en, ek, es, .inr HG.out, rfl⟩⟩, h6.out.2.1.below hm.out.1, h6.out.2.2.below hm.out.1, hm.out.2, h6.out.1.trans (hm.out.1.mono h6.out.1.size)⟩
  clear hm h6
  go_wp2_with fail
  go_loopw [17, 11, 13] (fun i b c wr => ∃ (k : Nat) (A C : Option Addr), i = .int .i64 k ∧ k ≤ 2 ∧ b = .slice A 128 128 ∧ c = .slice C 64 64 ∧ Hid (Rnd w wr D A C (superBytes sa sb sc))) (fun i _ _ _ => 2 - (intOf i).toNat)
  case atStart => exact ⟨0, A, C, rfl, by decide, rfl, rfl, h7⟩
  case round =>
    clear h7 HF HG
    obtain ⟨k, A, C, rfl, hk, rfl, rfl, h7⟩ := hrel
    by_cases hlt : k < 2
    · go_wp2_with fail
      refine (within_any at' 0 1023 _ (by decide) (by decide) (by decide)).mono ?_
      rintro e w8 ⟨rfl, r, rfl, hr0, hr1⟩
      obtain ⟨lb, lc, ⟨hlb, hlc⟩, hA, hC, hD, hB⟩ := h7.out
      have HA := Lib.hid hA
      have HLB := Lib.hid hlb
      have HLC := Lib.hid hlc
      have HO : Hid (Bytes wr C lc ∧ Bytes wr D (superBytes sa sb sc) ∧ Below w.heap.size w wr) := ⟨hC, hD, hB⟩
      clear hlb hlc hA hC hD hB h7
      go_wp2_with fail
      refine (turn_at A 128 128 lb r 1023 pat _ HLB.out.len (by decide) hr0 hr1 (by decide) HA).mono ?_
      rintro e w9 ⟨T, p, l', rfl, hp, hb, hT⟩
      obtain ⟨q, er, ht, hd⟩ := dec_node HLB.out hp.out (by omega)
      have HDE := Lib.hid hd
      have h8 : Hid (Bytes w9 C lc ∧ Bytes w9 D (superBytes sa sb sc) ∧ Below w.heap.size w w9) := ⟨HO.out.1.below hb.out, HO.out.2.1.below hb.out, HO.out.2.2.trans (hb.out.mono HO.out.2.2.size)⟩
      clear hr0 hr1 hd HO hb HA HLB hp
      generalize decide (p ≠ 0) = any at *
      have HTL := Lib.hid ht
      clear ht p
      go_wp2_with fail
      refine (HDE.out (some ⟨T, 0, none⟩) _ (Bytes.own' hT.out)).mono ?_
      rintro e w10 ⟨rfl, hb⟩
      have h9 : Hid (Bytes w10 C lc ∧ Bytes w10 D (superBytes sa sb sc) ∧ Below w.heap.size w w10) := ⟨h8.out.1.below hb.out, h8.out.2.1.below hb.out, h8.out.2.2.trans (hb.out.mono h8.out.2.2.size)⟩
      clear h8 hb hT HDE
      go_upto_region 11 with (fail)
      rcases HTL.out with ha | ⟨ha, he⟩
      · subst ha
        clear HTL
        go_upto_region 13 with (fail)
        as_aux_lemma =>
          go_wp2_with fail
          refine (within_any at' 0 511 _ (by decide) (by decide) (by decide)).mono ?_
          rintro e w11 ⟨rfl, r, rfl, hr0, hr1⟩
          go_wp2_with fail
          refine (turn_at C 64 64 lc r 511 pat _ HLC.out.len (by decide) hr0 hr1 (by decide) h9.out.1).mono ?_
          rintro e w12 ⟨T, p, l', rfl, hp, hb, hT⟩
          obtain ⟨q, er, ht, hd⟩ := dec_entry HLC.out hp.out (by omega)
          have HDE := Lib.hid hd
          have h10 : Hid (Bytes w12 D (superBytes sa sb sc) ∧ Below w.heap.size w w12) := ⟨h9.out.2.1.below hb.out, h9.out.2.2.trans (hb.out.mono h9.out.2.2.size)⟩
          clear hr0 hr1 hd h9 hb HLC hp
          generalize decide (p ≠ 0) = any at *
          have HTL := Lib.hid ht
          clear ht p
          go_wp2_with fail
          refine (HDE.out (some ⟨T, 0, none⟩) _ (Bytes.own' hT.out)).mono ?_
          rintro e w13 ⟨rfl, hb⟩
          have h11 : Hid (Bytes w13 D (superBytes sa sb sc) ∧ Below w.heap.size w w13) := ⟨h10.out.1.below hb.out, h10.out.2.trans (hb.out.mono h10.out.2.size)⟩
          clear h10 hb hT HDE
          go_upto_region 15 with (fail)
          rcases HTL.out with ha | ⟨ha, he⟩
          · subst ha
            clear HTL
            go_upto_region 18 with (fail)
            obtain ⟨Q, hQ⟩ : ∃ Q, w13.heap.size = Q := ⟨_, rfl⟩
            rw [hQ]
            refine gen_world (fun w' => Hid (Bytes w' (some ⟨Q, 0, none⟩) (zs 128) ∧ Bytes w' D (superBytes sa sb sc) ∧ Below w.heap.size w w')) ?_ ?_
            · subst hQ
              have hb := (Below.refl w13.heap.size w13).alloc (Nat.le_refl _) (.cells (bvs (zs 128)) 5)
              exact ⟨Bytes.own' (Blk.new _ _ _), h11.out.1.below hb, h11.out.2.trans (hb.mono h11.out.2.size)⟩
            clear hQ h11 w13
            rintro w13 h11
            go_upto_region 8 with (fail)
            obtain ⟨Q2, hQ2⟩ : ∃ Q, w13.heap.size = Q := ⟨_, rfl⟩
            rw [hQ2]
            refine gen_world (fun w' => Hid (Rnd w w' D (some ⟨Q, 0, none⟩) (some ⟨Q2, 0, none⟩) (superBytes sa sb sc))) ?_ ?_
            · subst hQ2
              have hb := (Below.refl w13.heap.size w13).alloc (Nat.le_refl _) (.cells (bvs (zs 64)) 5)
              exact ⟨_, _, ⟨node_zs, entry_zs⟩, h11.out.1.below hb, Bytes.own' (Blk.new _ _ _), h11.out.2.1.below hb, h11.out.2.2.trans (hb.mono h11.out.2.2.size)⟩
            clear hQ2 h11 w13
            rintro w13 h11
            go_wp2_with fail
            exact ⟨⟨k + 1, _, _, by go_num, by omega, rfl, rfl, h11⟩, by simp [intOf]; omega⟩
          · subst ha he
            clear HTL
            go_upto_region 18 with (fail)
            obtain ⟨Q, hQ⟩ : ∃ Q, w13.heap.size = Q := ⟨_, rfl⟩
            rw [hQ]
            refine gen_world (fun w' => Hid (Bytes w' (some ⟨Q, 0, none⟩) (zs 128) ∧ Bytes w' D (superBytes sa sb sc) ∧ Below w.heap.size w w')) ?_ ?_
            · subst hQ
              have hb := (Below.refl w13.heap.size w13).alloc (Nat.le_refl _) (.cells (bvs (zs 128)) 5)
              exact ⟨Bytes.own' (Blk.new _ _ _), h11.out.1.below hb, h11.out.2.trans (hb.mono h11.out.2.size)⟩
            clear hQ h11 w13
            rintro w13 h11
            go_upto_region 8 with (fail)
            obtain ⟨Q2, hQ2⟩ : ∃ Q, w13.heap.size = Q := ⟨_, rfl⟩
            rw [hQ2]
            refine gen_world (fun w' => Hid (Rnd w w' D (some ⟨Q, 0, none⟩) (some ⟨Q2, 0, none⟩) (superBytes sa sb sc))) ?_ ?_
            · subst hQ2
              have hb := (Below.refl w13.heap.size w13).alloc (Nat.le_refl _) (.cells (bvs (zs 64)) 5)
              exact ⟨_, _, ⟨node_zs, entry_zs⟩, h11.out.1.below hb, Bytes.own' (Blk.new _ _ _), h11.out.2.1.below hb, h11.out.2.2.trans (hb.mono h11.out.2.2.size)⟩
            clear hQ2 h11 w13
            rintro w13 h11
            go_wp2_with fail
            exact ⟨⟨k + 1, _, _, by go_num, by omega, rfl, rfl, h11⟩, by simp [intOf]; omega⟩
      · subst ha he
        clear HTL
        go_upto_region 13 with (fail)
        as_aux_lemma =>
          go_wp2_with fail
          refine (within_any at' 0 511 _ (by decide) (by decide) (by decide)).mono ?_
          rintro e w11 ⟨rfl, r, rfl, hr0, hr1⟩
          go_wp2_with fail
          refine (turn_at C 64 64 lc r 511 pat _ HLC.out.len (by decide) hr0 hr1 (by decide) h9.out.1).mono ?_
          rintro e w12 ⟨T, p, l', rfl, hp, hb, hT⟩
          obtain ⟨q, er, ht, hd⟩ := dec_entry HLC.out hp.out (by omega)
          have HDE := Lib.hid hd
          have h10 : Hid (Bytes w12 D (superBytes sa sb sc) ∧ Below w.heap.size w w12) := ⟨h9.out.2.1.below hb.out, h9.out.2.2.trans (hb.out.mono h9.out.2.2.size)⟩
          clear hr0 hr1 hd h9 hb HLC hp
          generalize decide (p ≠ 0) = any at *
          have HTL := Lib.hid ht
          clear ht p
          go_wp2_with fail
          refine (HDE.out (some ⟨T, 0, none⟩) _ (Bytes.own' hT.out)).mono ?_
          rintro e w13 ⟨rfl, hb⟩
          have h11 : Hid (Bytes w13 D (superBytes sa sb sc) ∧ Below w.heap.size w w13) := ⟨h10.out.1.below hb.out, h10.out.2.trans (hb.out.mono h10.out.2.size)⟩
          clear h10 hb hT HDE
          go_upto_region 15 with (fail)
          rcases HTL.out with ha | ⟨ha, he⟩
          · subst ha
            clear HTL
            go_upto_region 18 with (fail)
            obtain ⟨Q, hQ⟩ : ∃ Q, w13.heap.size = Q := ⟨_, rfl⟩
            rw [hQ]
            refine gen_world (fun w' => Hid (Bytes w' (some ⟨Q, 0, none⟩) (zs 128) ∧ Bytes w' D (superBytes sa sb sc) ∧ Below w.heap.size w w')) ?_ ?_
            · subst hQ
              have hb := (Below.refl w13.heap.size w13).alloc (Nat.le_refl _) (.cells (bvs (zs 128)) 5)
              exact ⟨Bytes.own' (Blk.new _ _ _), h11.out.1.below hb, h11.out.2.trans (hb.mono h11.out.2.size)⟩
            clear hQ h11 w13
            rintro w13 h11
            go_upto_region 8 with (fail)
            obtain ⟨Q2, hQ2⟩ : ∃ Q, w13.heap.size = Q := ⟨_, rfl⟩
            rw [hQ2]
            refine gen_world (fun w' => Hid (Rnd w w' D (some ⟨Q, 0, none⟩) (some ⟨Q2, 0, none⟩) (superBytes sa sb sc))) ?_ ?_
            · subst hQ2
              have hb := (Below.refl w13.heap.size w13).alloc (Nat.le_refl _) (.cells (bvs (zs 64)) 5)
              exact ⟨_, _, ⟨node_zs, entry_zs⟩, h11.out.1.below hb, Bytes.own' (Blk.new _ _ _), h11.out.2.1.below hb, h11.out.2.2.trans (hb.mono h11.out.2.2.size)⟩
            clear hQ2 h11 w13
            rintro w13 h11
            go_wp2_with fail
            exact ⟨⟨k + 1, _, _, by go_num, by omega, rfl, rfl, h11⟩, by simp [intOf]; omega⟩
          · subst ha he
            clear HTL
            go_upto_region 18 with (fail)
            obtain ⟨Q, hQ⟩ : ∃ Q, w13.heap.size = Q := ⟨_, rfl⟩
            rw [hQ]
            refine gen_world (fun w' => Hid (Bytes w' (some ⟨Q, 0, none⟩) (zs 128) ∧ Bytes w' D (superBytes sa sb sc) ∧ Below w.heap.size w w')) ?_ ?_
            · subst hQ
              have hb := (Below.refl w13.heap.size w13).alloc (Nat.le_refl _) (.cells (bvs (zs 128)) 5)
              exact ⟨Bytes.own' (Blk.new _ _ _), h11.out.1.below hb, h11.out.2.trans (hb.mono h11.out.2.size)⟩
            clear hQ h11 w13
            rintro w13 h11
            go_upto_region 8 with (fail)
            obtain ⟨Q2, hQ2⟩ : ∃ Q, w13.heap.size = Q := ⟨_, rfl⟩
            rw [hQ2]
            refine gen_world (fun w' => Hid (Rnd w w' D (some ⟨Q, 0, none⟩) (some ⟨Q2, 0, none⟩) (superBytes sa sb sc))) ?_ ?_
            · subst hQ2
              have hb := (Below.refl w13.heap.size w13).alloc (Nat.le_refl _) (.cells (bvs (zs 64)) 5)
              exact ⟨_, _, ⟨node_zs, entry_zs⟩, h11.out.1.below hb, Bytes.own' (Blk.new _ _ _), h11.out.2.1.below hb, h11.out.2.2.trans (hb.mono h11.out.2.2.size)⟩
            clear hQ2 h11 w13
            rintro w13 h11
            go_wp2_with fail
            exact ⟨⟨k + 1, _, _, by go_num, by omega, rfl, rfl, h11⟩, by simp [intOf]; omega⟩
    · skip
      go_wp2_with fail
      obtain ⟨lb, lc, ⟨hlb, hlc⟩, hA, hC, hD, hB⟩ := h7.out
      have HD := Lib.hid hD
      have HB := Lib.hid hB
      clear hlb hlc hA hC hD hB h7 hlt hk
      refine (within_any at' 0 4095 _ (by decide) (by decide) (by decide)).mono ?_
      rintro e w8 ⟨rfl, r, rfl, hr0, hr1⟩
      go_wp2_with fail
      refine (turn_at D 512 512 _ r 4095 pat _ (superBytes_length _ _ _) (by decide) hr0 hr1 (by decide) HD).mono ?_
      rintro e w9 ⟨T, p, l', rfl, hp, hb, hT⟩
      obtain ⟨u, v, t, er, ht, hd⟩ := dec_super hp.out (by omega)
      have HDE := Lib.hid hd
      have h8 := Lib.hid (HB.out.trans (hb.out.mono HB.out.size))
      clear hr0 hr1 hd HB HD hb hp
      generalize decide (p ≠ 0) = any at *
      have HTL := Lib.hid ht
      clear ht p
      go_wp2_with fail
      refine (HDE.out (some ⟨T, 0, none⟩) _ (Bytes.own' hT.out)).mono ?_
      rintro e w10 ⟨rfl, hb⟩
      have h9 := Lib.hid (h8.out.trans (hb.out.mono h8.out.size))
      clear h8 hb hT HDE
      go_upto_region 21 with (fail)
      rcases HTL.out with ha | ⟨ha, he⟩
      · subst ha
        clear HTL
        go_wp2_with fail
        go_ret
        exact ⟨rfl, h9.out⟩
      · subst ha he
        clear HTL
        go_wp2_with fail
        go_ret
        exact ⟨rfl, h9.out⟩
end Go.Proofs.Ytefmihbjboacdaa.BurstLaw
