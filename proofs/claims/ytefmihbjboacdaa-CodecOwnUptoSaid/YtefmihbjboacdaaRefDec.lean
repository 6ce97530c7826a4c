/- The document's take, Same and DecodeSuper. -/
import Derived.Test.YtefmihbjboacdaaSuperDec
import Derived.Test.YtefmihbjboacdaaRefSuper
namespace Go.Proofs.Ytefmihbjboacdaa.RefDec
open Go.ChangeShapes Go.WideShapes Go.ChangeAt Go.RowKit
open Go.Proofs.Ytefmihbjboacdaa.Kit Go.Proofs.Ytefmihbjboacdaa.Crc Go.Proofs.Ytefmihbjboacdaa.Reads Go.Proofs.Ytefmihbjboacdaa.Copy Go.Proofs.Ytefmihbjboacdaa.Lay Go.Proofs.Ytefmihbjboacdaa.Plan Go.Proofs.Ytefmihbjboacdaa.SuperEnc Go.Proofs.Ytefmihbjboacdaa.SuperDec Go.Proofs.Ytefmihbjboacdaa.RefSuper
set_option linter.unusedVariables false

set_option maxHeartbeats 800000 in
theorem Same_any (A A' : Option Addr) (c c' : Nat) (l l' : List UInt8) (w : World) (hn : l.length ≤ 9223372036854775807) (H : Hid (Bytes w A l)) (H' : Hid (Bytes w A' l')) :
    Calls Try.prog 56 #[.slice A l.length c, .slice A' l'.length c'] w fun e w' => e = .returned (.bool (decide (l = l'))) ∧ Still w w' := by
  by_cases hlen : l.length = l'.length
  · have t0 : ((l.length : Int) != (l'.length : Int)) = false := by simp [hlen]
    have hle : l.length ≤ l'.length := by omega
    have HL := Lib.hid hlen
    clear hlen
    go_enter Try.func56, Try.ntmps56
    go_wp2_with fail
    go_loopw [5] (fun i wr => ∃ (k : Nat), i = .int .i64 k ∧ k ≤ l.length ∧ Hid (∀ j (h : j < l.length) (h' : j < l'.length), j < k → l[j] = l'[j]) ∧ Hid (Still w wr)) (fun i _ => l.length - (intOf i).toNat)
    case atStart => exact ⟨0, rfl, Nat.zero_le _, fun j h h' hj => absurd hj (Nat.not_lt_zero j), Still.refl _⟩
    case round =>
      obtain ⟨k, rfl, hk, hall, HS⟩ := hrel
      by_cases hlt : k < l.length
      · obtain ⟨ad, rfl, h0⟩ := H.out k hlt
        obtain ⟨ad', rfl, h1⟩ := H'.out k (by omega)
        rw [← (HS.out.below w.heap.size).cell (World.block_lt_of_cell? w _ h0)] at h0
        rw [← (HS.out.below w.heap.size).cell (World.block_lt_of_cell? w _ h1)] at h1
        have hlt' : k < l'.length := by omega
        have hs : ∀ j (h : j < l.length) (h' : j < l'.length), j < k + 1 → l[k] = l'[k] → l[j] = l'[j] := fun j h h' hj e => by
          by_cases hjk : j = k
          · subst hjk; exact e
          · exact hall.out j h h' (by omega)
        have HSS := Lib.hid hs
        have hb : ¬ l[k] = l'[k] → ¬ l = l' := fun hne e => by subst e; exact hne rfl
        have HBB := Lib.hid hb
        clear hs hb
        by_cases hv : l[k] = l'[k]
        · have HV := Lib.hid hv
          rw [← hv] at h1
          clear hv
          generalize l[k] = y at h0 h1
          go_wp2_with (go_quiet (fail))
          exact ⟨⟨k + 1, by go_num, by omega, fun j h h' hj => HSS.out j h h' hj HV.out, HS.out.drewN _⟩, by simp [intOf]; omega⟩
        · have hne : (v8 l[k] != v8 l'[k]) = true := by simp; intro e; exact hv (v8_inj e)
          have HE := Lib.hid (HBB.out hv)
          clear hv
          generalize v8 l[k] = y at h0 hne
          generalize v8 l'[k] = y' at h1 hne
          go_wp2_with (go_quiet (fail))
          go_ret
          refine ⟨?_, HS.out.drewN _⟩
          show Ending.returned (.bool false) = _
          have := HE.out
          simp [this]
      · go_wp2_with fail
        go_ret
        refine ⟨?_, HS.out⟩
        have e : l = l' := List.ext_getElem HL.out fun j h h' => hall.out j h h' (by omega)
        show Ending.returned (.bool true) = _
        simp [e]
  · have t0 : ((l.length : Int) != (l'.length : Int)) = true := by simp; omega
    have e : decide (l = l') = false := by simp; intro h; exact hlen (congrArg _ h)
    have HE := Lib.hid e
    clear hlen e
    go_enter Try.func56, Try.ntmps56
    go_wp2_with fail
    go_ret
    exact ⟨by rw [HE.out]; rfl, Still.refl _⟩


theorem Same_at (A A' : Option Addr) (n n' c c' : Nat) (l l' : List UInt8) (w : World) (hn : l.length = n) (hn' : l'.length = n') (hn9 : n ≤ 9223372036854775807) (H : Hid (Bytes w A l)) (H' : Hid (Bytes w A' l')) :
    Calls Try.prog 56 #[.slice A n c, .slice A' n' c'] w fun e w' => e = .returned (.bool (decide (l = l'))) ∧ Still w w' := by
  subst hn hn'
  exact Same_any A A' c c' l l' w hn9 H H'
theorem leVal_drop (s : List UInt8) (k : Nat) (hk : k < s.length) : leVal (s.drop k) = s[k].toNat + 256 * leVal (s.drop (k + 1)) := by
  rw [List.drop_eq_getElem_cons hk]
  rfl
theorem leVal_drop_le (s : List UInt8) (k : Nat) : leVal (s.drop k) ≤ leVal s := by
  induction k with
  | zero => simp
  | succ k ih =>
    by_cases hk : k < s.length
    · rw [leVal_drop s k hk] at ih
      omega
    · rw [List.drop_eq_nil_of_le (by omega)]
      simp [leVal]
/-- the number in bytes; or -1 where it is beyond 2^54 -/
def TakePost (sub : List UInt8) (w : World) (e : Ending) (w' : World) : Prop :=
  w = w' ∧ (e = .returned (.int .i64 (leVal sub : Nat)) ∨ (e = .returned (.int .i64 (-1)) ∧ 18014398509481984 < leVal sub))

set_option maxRecDepth 100000 in
set_option maxHeartbeats 3200000 in
theorem take_any (A : Option Addr) (N c p n : Nat) (l : List UInt8) (w : World) (hN : l.length = N) (hl : N ≤ 140737488351232) (hn : n ≤ 8) (hp : p + n ≤ N) (HB : Hid (Bytes w A l)) :
    Calls Try.prog 55 #[.slice A N c, .int .i64 p, .int .i64 n] w (TakePost ((l.drop p).take n) w) := by
  have HSUB : Hid (∃ sub : List UInt8, sub = (l.drop p).take n ∧ sub.length = n) := ⟨_, rfl, by rw [List.length_take, List.length_drop]; omega⟩
  obtain ⟨sub, hsub, hsl⟩ := HSUB.out
  have hidx : ∀ k (hk : k < sub.length), ∃ ad, A = some ad ∧ w.cell? (ad.add (p + k)) = some (.int .u8 (v8 sub[k])) := fun k hk => by
    obtain ⟨ad, e, hc⟩ := HB.out (p + k) (by omega)
    refine ⟨ad, e, ?_⟩
    rw [hc]
    subst hsub
    simp
  rw [← hsub]
  have HIDX := Lib.hid hidx
  have HSL := Lib.hid hsl
  have HNL := Lib.hid hN
  clear hidx hsub hsl hN HSUB
  go_enter Try.func55, Try.ntmps55
  go_wp2_with fail
  go_loop [7, 8] (fun v i => ∃ (k : Nat), i = .int .i64 ((k : Int) - 1) ∧ v = .int .i64 ((leVal (sub.drop k) : Nat) : Int) ∧ k ≤ n) (fun _ i => (intOf i + 1).toNat)
  case atStart => exact ⟨n, rfl, by rw [List.drop_of_length_le (by rw [HSL.out]; exact Nat.le_refl _)]; rfl, Nat.le_refl _⟩
  case round =>
    obtain ⟨k, rfl, rfl, hk⟩ := hrel
    by_cases hk0 : k = 0
    · subst hk0
      go_wp2_with fail
      go_ret
      exact ⟨rfl, .inl rfl⟩
    · obtain ⟨m, rfl⟩ : ∃ m, k = m + 1 := ⟨k - 1, by omega⟩
      obtain ⟨ad, rfl, h0⟩ := HIDX.out m (by rw [HSL.out]; omega)
      have hms : m < sub.length := by rw [HSL.out]; omega
      have HD := Lib.hid (leVal_drop sub m hms)
      have HLE := Lib.hid (leVal_drop_le sub (m + 1))
      obtain ⟨y, hy⟩ : ∃ y, sub[m] = y := ⟨_, rfl⟩
      rw [hy] at h0
      have HY := Lib.hid hy
      have b1 := v8_lt y
      have b0 := v8_nonneg y
      clear hy hk0
      generalize hq : leVal (sub.drop (m + 1)) = q at *
      have HQ := Lib.hid hq
      clear hq
      have i1 : (p : Int) + (m : Int) < (N : Int) := by omega
      have i0 : (0 : Int) ≤ (p : Int) + (m : Int) := by omega
      by_cases hbig : 18014398509481984 < q
      · go_wp2_with fail
        go_ret
        exact ⟨rfl, .inr ⟨rfl, Nat.lt_of_lt_of_le hbig HLE.out⟩⟩
      · have hvq : v8 y = (y.toNat : Int) := rfl
        go_wp2_with (go_quiet (fail))
        exact ⟨⟨m, by go_num, by rw [HD.out, HY.out]; exact congrArg _ (by omega), by omega⟩, by simp [intOf]⟩

theorem take4 (A : Option Addr) (N c : Nat) (q : Int) (p : Nat) (hq : q = (p : Int)) (l : List UInt8) (w : World) (hN : l.length = N) (hl : N ≤ 140737488351232) (hp : p + 4 ≤ N) (HB : Hid (Bytes w A l)) :
    Calls Try.prog 55 #[.slice A N c, .int .i64 q, .int .i64 4] w fun e w' => w = w' ∧ e = .returned (.int .i64 (fieldAt l p 4 : Nat)) := by
  subst hq
  refine (take_any A N c p 4 l w hN hl (by decide) hp HB).mono ?_
  rintro e w' ⟨rfl, h | ⟨h, hbig⟩⟩
  · exact ⟨rfl, h⟩
  · have := leVal_lt ((l.drop p).take 4)
    have h4 : ((l.drop p).take 4).length ≤ 4 := by rw [List.length_take]; omega
    have := Nat.pow_le_pow_right (show 0 < 256 by decide) h4
    omega

set_option maxRecDepth 100000 in
set_option maxHeartbeats 800000 in
theorem rdec_short (A : Option Addr) (c n : Nat) (w : World) (hn : ¬ n = 512) (hn2 : n ≤ 9223372036854775807) :
    Calls Try.prog 27 #[.slice A n c] w fun e w' => e = .returned (.tuple #[.agg #[.int .i64 0, .int .i64 0, .int .i64 0], .int .i64 2]) ∧ Below w.heap.size w w' := by
  have t0 : ((n : Int) != 512) = true := by rw [bne_iff_ne]; omega
  have HN := Lib.hid hn
  clear hn
  go_enter Try.func27, Try.ntmps27
  go_wp2_with fail
  refine bodyPost_ret (v := .tuple #[.agg #[.int .i64 0, .int .i64 0, .int .i64 0], .int .i64 2]) (by simp [results, Try.results27, go_sem]) rfl ⟨rfl, ?_⟩
  repeat (first | exact Below.refl _ _ | refine Below.drew ?_ | refine Below.alloc ?_ (by first | (simp; done) | (simp; omega)) _ | refine Below.setCell ?_ (by first | (simp; done) | (simp; omega)) _)

set_option maxRecDepth 100000 in
set_option maxHeartbeats 1600000 in
theorem rdec_full (A : Option Addr) (c : Nat) (l : List UInt8) (w : World) (hl : l.length = 512) (HB : Hid (Bytes w A l)) :
    Calls Try.prog 27 #[.slice A 512 c] w (DecPost w l) := by
  have HL := Lib.hid hl
  clear hl
  go_enter Try.func27, Try.ntmps27
  go_upto_region 3 with (fail)
  refine gen_world (fun w1 => Hid (Below w.heap.size w w1 ∧ Blk w1 w.heap.size #[.int .i64 0, .int .i64 0, .int .i64 0] 30)) ?_ ?_
  · exact ⟨(Below.refl _ _).alloc (Nat.le_refl _) _, Blk.new _ _ _⟩
  obtain ⟨P, hP⟩ : ∃ P, w.heap.size = P := ⟨_, rfl⟩
  rw [hP]
  have HP := Lib.hid hP
  clear hP
  rintro w1 h1
  go_wp2_with fail
  refine (take4 A 512 c 8 8 rfl l w1 HL.out (by decide) (by decide) (by rw [← HP.out] at h1; exact Lib.hid (HB.out.below h1.out.1))).mono ?_
  rintro e w' ⟨rfl, rfl⟩
  go_wp2_with fail
  refine (take4 A 512 c 12 12 rfl l w1 HL.out (by decide) (by decide) (by rw [← HP.out] at h1; exact Lib.hid (HB.out.below h1.out.1))).mono ?_
  rintro e w' ⟨rfl, rfl⟩
  go_wp2_with fail
  refine (take4 A 512 c 16 16 rfl l w1 HL.out (by decide) (by decide) (by rw [← HP.out] at h1; exact Lib.hid (HB.out.below h1.out.1))).mono ?_
  rintro e w' ⟨rfl, rfl⟩
  obtain ⟨fa, hfa⟩ : ∃ x, fieldAt l 8 4 = x := ⟨_, rfl⟩
  obtain ⟨fb, hfb⟩ : ∃ x, fieldAt l 12 4 = x := ⟨_, rfl⟩
  obtain ⟨fc, hfc⟩ : ∃ x, fieldAt l 16 4 = x := ⟨_, rfl⟩
  rw [hfa, hfb, hfc]
  have FA := Lib.hid hfa
  have FB := Lib.hid hfb
  have FC := Lib.hid hfc
  clear hfa hfb hfc
  go_upto_region 4 with (fail)
  obtain ⟨Q, hQ⟩ : ∃ Q, w1.heap.size = Q := ⟨_, rfl⟩
  rw [hQ]
  have HQ := Lib.hid hQ
  clear hQ
  refine gen_world (fun w2 => Hid (Below w.heap.size w w2 ∧ Blk w2 P #[.int .i64 0, .int .i64 0, .int .i64 0] 30 ∧ Blk w2 Q #[.int .i64 fa, .int .i64 fb, .int .i64 fc] 30)) ?_ ?_
  · have h3 := h1.out
    rw [← HP.out] at h3 ⊢
    rw [← HQ.out]
    exact ⟨h3.1.alloc h3.1.size _, h3.2.alloc _, Blk.new w1 _ _⟩
  clear h1
  rintro w2 h2
  have c0 : w2.cell? ⟨Q, 0, none⟩ = some (.int .i64 fa) := (h2.out.2.2.cell 0).trans rfl
  have c1 : w2.cell? ⟨Q, 1, none⟩ = some (.int .i64 fb) := (h2.out.2.2.cell 1).trans rfl
  have c2 : w2.cell? ⟨Q, 2, none⟩ = some (.int .i64 fc) := (h2.out.2.2.cell 2).trans rfl
  by_cases hfit : Fits fa fb fc
  · go_wp2_with fail
    refine (ref_yes fa fb fc _ hfit).mono ?_
    rintro e w3 ⟨D, rfl, hm⟩
    have HM := Lib.hid hm
    have HFIT := Lib.hid hfit
    clear hm c0 c1 c2 hfit
    have hb3 : Below w2.heap.size w2 w3 := HM.out.2.1
    have HS3 := Lib.hid (h2.out.1.trans (hb3.mono h2.out.1.size))
    have HP3 := Lib.hid (h2.out.2.1.below hb3 h2.out.2.1.lt)
    have HQ3 := Lib.hid (h2.out.2.2.below hb3 h2.out.2.2.lt)
    clear hb3
    go_wp2_with fail
    refine (Same_at (some ⟨D, 0, none⟩) A 512 512 512 c (superBytes fa fb fc) l _ (superBytes_length _ _ _) HL.out (by decide) (Lib.hid (Bytes.own' HM.out.2.2)) (Lib.hid (HB.out.below HS3.out))).mono ?_
    by_cases heq : superBytes fa fb fc = l
    · have hs : IsSuper l := by
        unfold IsSuper
        rw [FA.out, FB.out, FC.out]
        exact ⟨HFIT.out, heq⟩
      have HS := Lib.hid (decoded_yes HL.out hs)
      rw [decide_eq_true heq]
      clear hs heq
      rw [FA.out, FB.out, FC.out] at HS
      rintro e w4 ⟨rfl, h4⟩
      have HS4 := Lib.hid (HS3.out.trans (h4.below _))
      have hq4 := h4.blk HQ3.out
      have hp4 := h4.blk HP3.out
      clear h4
      have c0 : w4.cell? ⟨Q, 0, none⟩ = some (.int .i64 fa) := (hq4.cell 0).trans rfl
      have c1 : w4.cell? ⟨Q, 1, none⟩ = some (.int .i64 fb) := (hq4.cell 1).trans rfl
      have c2 : w4.cell? ⟨Q, 2, none⟩ = some (.int .i64 fc) := (hq4.cell 2).trans rfl
      have d0 : w4.cell? ⟨P, 0, none⟩ = some (.int .i64 0) := (hp4.cell 0).trans rfl
      have d1 : w4.cell? ⟨P, 1, none⟩ = some (.int .i64 0) := (hp4.cell 1).trans rfl
      have d2 : w4.cell? ⟨P, 2, none⟩ = some (.int .i64 0) := (hp4.cell 2).trans rfl
      have df := hp4.frozen
      clear hq4 hp4
      go_wp2_with fail
      refine bodyPost_ret (v := .tuple #[.agg #[.int .i64 fa, .int .i64 fb, .int .i64 fc], .int .i64 0]) (by simp [results, Try.results27, go_sem, d0, d1, d2]) rfl ⟨by rw [HS.out], ?_⟩
      have hge : w.heap.size ≤ P := by have := HP.out; omega
      exact ((HS4.out.setCell hge _).setCell hge _).setCell hge _
    · have hs : ¬ IsSuper l := fun h => by
        have h2 := h.2
        rw [FA.out, FB.out, FC.out] at h2
        exact heq h2
      have HS := Lib.hid (decoded_no HL.out hs)
      rw [decide_eq_false heq]
      clear hs heq
      rintro e w4 ⟨rfl, h4⟩
      have HS4 := Lib.hid (HS3.out.trans (h4.below _))
      have hp4 := h4.blk HP3.out
      clear h4
      have d0 : w4.cell? ⟨P, 0, none⟩ = some (.int .i64 0) := (hp4.cell 0).trans rfl
      have d1 : w4.cell? ⟨P, 1, none⟩ = some (.int .i64 0) := (hp4.cell 1).trans rfl
      have d2 : w4.cell? ⟨P, 2, none⟩ = some (.int .i64 0) := (hp4.cell 2).trans rfl
      have df := hp4.frozen
      clear hp4
      go_wp2_with fail
      refine bodyPost_ret (v := .tuple #[.agg #[.int .i64 0, .int .i64 0, .int .i64 0], .int .i64 6]) (by simp [results, Try.results27, go_sem, d0, d1, d2]) rfl ⟨by rw [HS.out], ?_⟩
      have hge : w.heap.size ≤ P := by have := HP.out; omega
      exact ((HS4.out.setCell hge _).setCell hge _).setCell hge _
  · have hs : ¬ IsSuper l := fun h => by
      have h2 := h.1
      rw [FA.out, FB.out, FC.out] at h2
      exact hfit h2
    have HS := Lib.hid (decoded_no HL.out hs)
    clear hs
    go_wp2_with fail
    refine (ref_no fa fb fc _ hfit).mono ?_
    rintro e w4 ⟨rfl, h4⟩
    have HS4 := Lib.hid (h2.out.1.trans (h4.mono h2.out.1.size))
    have hp4 := h2.out.2.1.below h4 h2.out.2.1.lt
    clear h4 c0 c1 c2 hfit
    have d0 : w4.cell? ⟨P, 0, none⟩ = some (.int .i64 0) := (hp4.cell 0).trans rfl
    have d1 : w4.cell? ⟨P, 1, none⟩ = some (.int .i64 0) := (hp4.cell 1).trans rfl
    have d2 : w4.cell? ⟨P, 2, none⟩ = some (.int .i64 0) := (hp4.cell 2).trans rfl
    have df := hp4.frozen
    clear hp4
    go_wp2_with fail
    refine bodyPost_ret (v := .tuple #[.agg #[.int .i64 0, .int .i64 0, .int .i64 0], .int .i64 6]) (by simp [results, Try.results27, go_sem, d0, d1, d2]) rfl ⟨by rw [HS.out], ?_⟩
    have hge : w.heap.size ≤ P := by have := HP.out; omega
    exact ((HS4.out.setCell hge _).setCell hge _).setCell hge _
end Go.Proofs.Ytefmihbjboacdaa.RefDec
