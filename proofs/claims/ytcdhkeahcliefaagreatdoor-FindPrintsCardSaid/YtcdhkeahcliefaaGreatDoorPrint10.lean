/- The program's parts of a path: cut, right, Split. The program's Split of a path: right, Split. A path by its parts: written, the document's text. The program's parser: place. The program's parser: kindOf, comparison. -/
import Derived.Test.YtcdhkeahcliefaaGreatDoorPrint09
import Derived.WalkMore
import Derived.Deep.CutBlock
import Derived.Test.YtcdhkeahcliefaaGreatDoorPrint04
import Derived.Test.YtcdhkeahcliefaaGreatDoorPrint02
/- The program's parts of a path: cut, right, Split. -/
namespace Go.Proofs.YtcdhkeahcliefaaGreatDoor.PathD
open Go.ChangeShapes Go.WideShapes Go.ChangeAt Go.RowKit
open Go.Proofs.YtcdhkeahcliefaaGreatDoor.Kit Go.Proofs.YtcdhkeahcliefaaGreatDoor.Base Go.Proofs.YtcdhkeahcliefaaGreatDoor.Bld Go.Proofs.YtcdhkeahcliefaaGreatDoor.Name Go.Proofs.YtcdhkeahcliefaaGreatDoor.LexF Go.Proofs.YtcdhkeahcliefaaGreatDoor.Path Go.Proofs.YtcdhkeahcliefaaGreatDoor.PathB Go.Proofs.YtcdhkeahcliefaaGreatDoor.PathC Go.Proofs.YtcdhkeahcliefaaGreatDoor.Runes Go.Proofs.YtcdhkeahcliefaaGreatDoor.LexR
set_option linter.unusedVariables false

/-- what cut answers -/
def CutPost (ps : List (List UInt8)) (w : World) (e : Ending) (w' : World) : Prop := ∃ A c, e = .returned (.slice A ps.length c) ∧ Hid (Below w.heap.size w w') ∧ Hid (StrsF w' A c (ps.map str))
theorem pi_own {l : List UInt8} {k f c q : Nat} {own : List UInt8} {st : PSt} (h : PI l k f st) (R : Ru l k c q own) (hc : c ≠ 47) : PI l (k + q) f (st.1 ++ own, st.2) := by
  have hall : ∀ y ∈ own, y ≠ 47 := by
    rcases R.isOwn with ⟨y, e, e2, _⟩ | ⟨_, _, hall⟩
    · intro z hz e3
      rw [e] at hz
      have := List.mem_singleton.1 hz
      apply hc
      rw [e2, ← this, e3]
      rfl
    · intro z hz e3
      have := hall z hz
      rw [e3] at this
      revert this
      decide
  have key : ∀ (o : List UInt8) (s : PSt), (∀ y ∈ o, y ≠ 47) → o.foldl stepP s = (s.1 ++ o, s.2) := by
    intro o
    induction o with
    | nil => intro s _; simp
    | cons y r ih =>
      intro s hy
      show r.foldl stepP (stepP s y) = _
      have e : stepP s y = (s.1 ++ [y], s.2) := if_neg (hy y (List.mem_cons_self ..))
      rw [e, ih _ (fun z hz => hy z (List.mem_cons_of_mem _ hz))]
      simp
  refine ⟨?_, ?_, by have := h.fk; omega, by have := h.len; show st.2.length ≤ k + q; omega⟩
  · rw [R.app]
    unfold runP
    rw [List.foldl_append]
    have := h.run
    unfold runP at this
    rw [this, key own st hall]
  · have hf := R.fit
    rw [R.app, List.drop_append_of_le_length (by have := h.fk; simp; omega), h.cur]
theorem pi_slash {l : List UInt8} {k f c q : Nat} {own : List UInt8} {st : PSt} (h : PI l k f st) (R : Ru l k c q own) (hc : c = 47) : q = 1 ∧ PI l (k + q) (k + 1) ([], addP st) := by
  obtain ⟨y, e, e2⟩ := own_small R.isOwn (by omega)
  have hq : q = 1 := by rw [← R.len, e]; rfl
  have hk : k < l.length := by have := R.fit; omega
  have hy : l[k] = 47 := by
    have h1 := R.app
    rw [hq, List.take_succ_eq_append_getElem hk, e] at h1
    have h2 := List.append_cancel_left h1
    have h3 : l[k] = y := by simpa using h2
    rw [h3]
    apply UInt8.toNat_inj.1
    rw [← e2, hc]
    rfl
  subst hq
  exact ⟨rfl, pi_bar h hk hy⟩
set_option maxRecDepth 100000 in
set_option maxHeartbeats 3200000 in
theorem cut_any (l : List UInt8) (w : World) (hl : l.length ≤ 1023) : Calls Tryz.prog 97 #[.string (str l)] w (CutPost (partsOf l) w) := by
  have HL := Lib.hid hl
  obtain ⟨S, hS⟩ : ∃ S, str l = S := ⟨_, rfl⟩
  have HS := Lib.hid hS
  obtain ⟨n, hn⟩ : ∃ n, S.size = n := ⟨_, rfl⟩
  have HN : Hid (l.length = n) := by rw [← hn, ← hS, str_size]; exact rfl
  have HNS := Lib.hid hn
  obtain ⟨Z, hZ⟩ : ∃ Z, w.heap.size = Z := ⟨_, rfl⟩
  have HZ := Lib.hid hZ
  rw [hS]
  clear hS hl hn
  go_enter Tryz.func97, Tryz.ntmps97
  go_upto_region 1 with (fail)
  refine gen_world (fun w' => Hid (Since Z w w' ∧ Blk w' Z #[.string S] 9)) ?_ ?_
  · refine ⟨?_, ?_⟩
    · rw [← HZ.out]; exact (Since.refl w).alloc _
    · rw [← HZ.out]; exact Blk.new _ _ _
  rintro w1 hb1
  clear hZ
  obtain ⟨Z1, hZ1⟩ : ∃ Z1, w1.heap.size = Z1 := ⟨_, rfl⟩
  have HZ1 := Lib.hid hZ1
  go_upto_region 4 with (fail)
  refine gen_world (fun w' => Hid (Since Z1 w1 w' ∧ Blk w' Z1 #[.slice none 0 0] 22 ∧ Blk w' (Z1 + 1) #[.int .i64 0] 3 ∧ w'.heap.size = Z1 + 2)) ?_ ?_
  · subst hZ1
    have e1 : (w1.alloc (.cells #[.slice none 0 0] 22)).heap.size = w1.heap.size + 1 := by simp
    refine ⟨((Since.refl w1).alloc _).alloc _, (Blk.new _ _ _).alloc _, ?_, by simp⟩
    rw [← e1]
    exact Blk.new _ _ _
  rintro w2 h2
  have hbB := hb1.out.2
  have hlt := hbB.lt
  have HLT : Hid (Z < Z1) := by rw [hZ1] at hlt; exact hlt
  have bb : Blk w2 Z #[.string S] 9 := hbB.below h2.out.1.1 HLT.out
  have c1 : w2.cell? ⟨Z, 0, none⟩ = some (.string S) := (bb.cell 0).trans rfl
  have g1 := bb.frozen 0
  have hsz2 : w2.heap.size = Z1 + 2 := h2.out.2.2.2
  clear bb hbB hlt hZ1
  go_wp2_with fail
  clear c1 g1
  refine gen_world (fun w' => Hid (Pc ⟨Z1, Z1 + 2, S, 0⟩ w1 w' 0 (.slice none 0 0) [])) ?_ ?_
  · refine ⟨⟨h2.out.1.alloc _, ?_⟩, h2.out.2.1.alloc _, h2.out.2.2.1.alloc _, ⟨rfl, .inl ⟨rfl, rfl⟩⟩⟩
    show (w2.heap.push _)[Z1 + 2]? = _
    rw [← h2.out.2.2.2, Array.getElem?_push_size]
  rintro w3 h3
  have HB0 : Hid (Blk w1 Z #[.string (str l)] 9) := by rw [HS.out]; exact hb1.out.2
  clear h2 hsz2
  go_loopg [] n (fun g wr => ∃ (k f : Nat) (vo : Value) (st : PSt), g = n - k ∧ k ≤ n ∧ Hid (Pc ⟨Z1, Z1 + 2, S, k⟩ w1 wr f vo st.2) ∧ Hid (PI l k f st))
  case atStart => exact ⟨0, 0, .slice none 0 0, ([], []), rfl, Nat.zero_le _, h3, pi_zero l⟩
  case round =>
    clear h3 w3
    obtain ⟨k, f, vo, st, rfl, hk, h1, hpi⟩ := hrel
    by_cases hlt : k < n
    · have hkl : k < l.length := by rw [HN.out]; exact hlt
      obtain ⟨c, q, own, R⟩ := ru_ex l k hkl
      have HR := Lib.hid R
      have hnx : (Instr.next (.pointer (some ⟨Z1 + 2, 0, none⟩)) true 0).run Tryz.prog wr = .ok (.tuple #[.bool true, .int .i64 k, .int .i32 c]) (wr.iterAt (Z1 + 2) S (k + q)) := by
        have hik : wr.heap[Z1 + 2]? = some (.stringIter (str l) k) := by rw [HS.out]; exact h1.out.1.2
        have h := ru_next (ty := 0) R hik
        rw [HS.out] at h
        exact h
      have HQ : Hid (k + q ≤ n ∧ 1 ≤ q) := ⟨by rw [← HN.out]; exact R.fit, R.pos⟩
      clear R hkl hlt
      go_upto_region 6 with (fail)
      refine gen_world (fun w' => Hid (Pc ⟨Z1, Z1 + 2, S, k + q⟩ w1 w' f vo st.2)) ?_ ?_
      · exact h1.out.iter (show Z1 ≤ Z1 + 2 from by omega)
      rintro wz hz
      clear hnx h1
      by_cases h47 : c = 47
      · have HPN := Lib.hid (pi_slash hpi.out HR.out h47)
        have e47 : ((c : Int) == 47) = true := eqt h47
        have k9 : (k : Int) ≤ 1023 := by have := HL.out; have := HN.out; omega
        have k0 : (0 : Int) ≤ (k : Int) := by omega
        have HAD := Lib.hid (add_any ⟨Z1, Z1 + 2, S, k + q⟩ Z k f l st w1 wz vo HL.out (by rw [HN.out]; exact hk) HLT.out HB0 hz hpi)
        clear h47 hk
        go_wp2_with fail
        refine HAD.out.mono ?_
        rintro e w4 ⟨rfl, v4, h4⟩
        clear hz HAD
        have c4 : w4.cell? ⟨Z1 + 1, 0, none⟩ = some (.int .i64 f) := (h4.out.2.2.1.cell 0).trans rfl
        have g4 := h4.out.2.2.1.frozen 0
        go_wp2_with fail
        go_roundg (n - (k + q))
        case measure => have := HQ.out; omega
        case rel => exact ⟨k + q, k + 1, v4, ([], addP st), rfl, HQ.out.1, h4.out.setF (k + 1), HPN.out.2⟩
      · have HPN := Lib.hid (pi_own hpi.out HR.out h47)
        have e47 : ((c : Int) == 47) = false := eqf h47
        clear h47 hk
        go_wp2_with fail
        go_roundg (n - (k + q))
        case measure => have := HQ.out; omega
        case rel => exact ⟨k + q, f, vo, (st.1 ++ own, st.2), rfl, HQ.out.1, hz, HPN.out⟩
    · have hkn : k = n := by omega
      subst hkn
      have hnx := Lib.run_next_end_at (P := Tryz.prog) wr (Z1 + 2) S k 0 h1.out.1.2 (by rw [HNS.out]; omega)
      have HPE : Hid (partsOf l = addP st) := pi_end (by have h := hpi.out; rw [← HN.out] at h; exact h)
      have bb := h1.out.box hb1.out.2 HLT.out
      have c1 : wr.cell? ⟨Z, 0, none⟩ = some (.string S) := (bb.cell 0).trans rfl
      have g1 := bb.frozen 0
      have HAD := Lib.hid (add_any ⟨Z1, Z1 + 2, S, k⟩ Z k f l st w1 wr vo HL.out (by rw [HN.out]; exact hk) HLT.out HB0 h1 hpi)
      have hn2 := HNS.out
      clear bb hk
      go_wp2_with fail
      refine HAD.out.mono ?_
      rintro e w4 ⟨rfl, v4, h4⟩
      clear hn2
      obtain ⟨A, cc, rfl, hst⟩ : ∃ A c, v4 = .slice A (addP st).length c ∧ StrsF w4 A c ((addP st).map str) := owns_strsF h4.out.2.2.2
      have HST := Lib.hid hst
      have c4 : w4.cell? ⟨Z1, 0, none⟩ = some (.slice A (addP st).length cc) := (h4.out.2.1.cell 0).trans rfl
      have g4 := h4.out.2.1.frozen 0
      clear c1 g1 hst HAD h1 hnx
      go_wp2_with fail
      go_ret
      refine ⟨A, cc, by rw [HPE.out]; rfl, ?_, by rw [HPE.out]; exact HST⟩
      rw [HZ.out]
      exact hb1.out.1.1.trans (h4.out.1.1.1.mono (show Z ≤ Z1 from by have := HLT.out; omega))
end Go.Proofs.YtcdhkeahcliefaaGreatDoor.PathD
/- The program's Split of a path: right, Split. -/
namespace Go.Proofs.YtcdhkeahcliefaaGreatDoor.PathE
open Go.ChangeShapes Go.WideShapes Go.ChangeAt Go.RowKit
open Go.Proofs.YtcdhkeahcliefaaGreatDoor.Kit Go.Proofs.YtcdhkeahcliefaaGreatDoor.Base Go.Proofs.YtcdhkeahcliefaaGreatDoor.Bld Go.Proofs.YtcdhkeahcliefaaGreatDoor.Name Go.Proofs.YtcdhkeahcliefaaGreatDoor.Path Go.Proofs.YtcdhkeahcliefaaGreatDoor.PathB Go.Proofs.YtcdhkeahcliefaaGreatDoor.PathD
set_option linter.unusedVariables false

def RightPost (ps : List (List UInt8)) (w : World) (e : Ending) (w' : World) : Prop := e = .returned (.int .i64 (errsOf ps)) ∧ Hid (Below w.heap.size w w')
theorem errs_from {e : Int} (he : e ≠ 0) (ps : List (List UInt8)) : ps.foldl (fun e p => if e = 0 then errP p else e) e = e := by
  induction ps with
  | nil => rfl
  | cons p r ih =>
    show r.foldl _ (if e = 0 then errP p else e) = e
    rw [if_neg he]
    exact ih
theorem errs_at {ps : List (List UInt8)} {k : Nat} (hk : k < ps.length) (h0 : errsOf (ps.take k) = 0) (he : errP ps[k] ≠ 0) : errsOf ps = errP ps[k] := by
  have e : ps = ps.take (k + 1) ++ ps.drop (k + 1) := (List.take_append_drop _ _).symm
  have e1 : errsOf (ps.take (k + 1)) = errP ps[k] := by
    rw [List.take_succ_eq_append_getElem hk, errsOf_snoc, if_pos h0]
  conv => lhs; rw [e]
  unfold errsOf at e1 ⊢
  rw [List.foldl_append, e1]
  exact errs_from he _
set_option maxRecDepth 100000 in
set_option maxHeartbeats 1600000 in
theorem right_any (ps : List (List UInt8)) (A : Option Addr) (c : Nat) (w : World) (hs : Hid (Strs w A (ps.map str))) (hn : ps.length ≤ 1024) : Calls Tryz.prog 98 #[.slice A ps.length c] w (RightPost ps w) := by
  have HN := Lib.hid hn
  obtain ⟨n, hn2⟩ : ∃ n, ps.length = n := ⟨_, rfl⟩
  have HNN := Lib.hid hn2
  obtain ⟨Z, hZ⟩ : ∃ Z, w.heap.size = Z := ⟨_, rfl⟩
  have HZ := Lib.hid hZ
  have h1 : Hid (Since Z w w) := by rw [← hZ]; exact Since.refl w
  rw [hn2]
  clear hn2 hZ hn
  go_enter Tryz.func98, Tryz.ntmps98
  go_wp2_with fail
  go_loopg [8] n (fun g i wr => ∃ (k : Nat), g = n - k ∧ k ≤ n ∧ i = .int .i64 k ∧ Hid (Since Z w wr) ∧ Hid (errsOf (ps.take k) = 0))
  case atStart => exact ⟨0, rfl, Nat.zero_le _, rfl, h1, rfl⟩
  case round =>
    clear h1
    obtain ⟨k, rfl, hk, rfl, h1, he⟩ := hrel
    have hk9 : (k : Int) ≤ 1024 := by have := HN.out; have := HNN.out; omega
    have k0 : (0 : Int) ≤ (k : Int) := by omega
    by_cases hlt : k < n
    · have hkl : k < ps.length := by rw [HNN.out]; exact hlt
      have hlti : (k : Int) < (n : Int) := by omega
      obtain ⟨ad, hA, hc⟩ := (hs.out.below (w' := wr) (by rw [HZ.out]; exact h1.out.1)) k (by simpa using hkl)
      have hc1 : wr.cell? (ad.add k) = some (.string (str ps[k])) := by simpa using hc
      subst hA
      have HLT := Lib.hid hlt
      have HSN : Hid (errsOf (ps.take (k + 1)) = errP ps[k]) := by
        show _ = _
        rw [List.take_succ_eq_append_getElem hkl, errsOf_snoc, if_pos he.out]
      by_cases hdd : ps[k] = [46, 46]
      · have HE : Hid (errsOf (ps.take (k + 1)) = 0) := by rw [HSN.out]; exact if_pos hdd
        rw [hdd, show str [46, 46] = ⟨#[46, 46]⟩ from rfl] at hc1
        clear hdd hkl hlt hc HSN
        go_wp2_with fail
        go_roundg (n - (k + 1))
        case measure => have := HLT.out; omega
        case rel => exact ⟨k + 1, rfl, HLT.out, by go_num, h1, HE⟩
      · have HEP : Hid (errP ps[k] = nameErr (str ps[k])) := if_neg hdd
        have HAT := Lib.hid (errs_at hkl he.out)
        have t2 : ((str ps[k]).toList == [46, 46]) = false := by
          rw [Lib.toList_data, str_list]
          exact beq_eq_false_iff_ne.2 hdd
        generalize ps[k] = p at *
        clear hdd hkl hlt hc
        go_wp2_with fail
        refine (name_any (str p) _).mono ?_
        rintro e w2 ⟨rfl, hb2⟩
        have h2 : Hid (Since Z w w2) := h1.out.next hb2.out
        clear h1 hb2 hc1
        by_cases h0 : nameErr (str p) = 0
        · have HE : Hid (errsOf (ps.take (k + 1)) = 0) := by rw [HSN.out, HEP.out]; exact h0
          rw [h0]
          clear h0
          go_wp2_with fail
          go_roundg (n - (k + 1))
          case measure => have := HLT.out; omega
          case rel => exact ⟨k + 1, rfl, HLT.out, by go_num, h2, HE⟩
        · have HE : Hid (errsOf ps = nameErr (str p)) := by rw [← HEP.out]; exact HAT.out (by rw [HEP.out]; exact h0)
          have t0 : (nameErr (str p) != 0) = true := by rw [bne_iff_ne]; exact h0
          clear h0
          go_wp2_with fail
          go_ret
          exact ⟨by rw [HE.out]; rfl, by rw [HZ.out]; exact h2.out.1⟩
    · have HE : Hid (errsOf ps = 0) := by
        have h := he.out
        rw [List.take_of_length_le (by have := HNN.out; omega)] at h
        exact h
      have hlti : ¬ ((k : Int) < (n : Int)) := by omega
      clear hlt
      go_wp2_with fail
      go_ret
      exact ⟨by rw [HE.out]; rfl, by rw [HZ.out]; exact h1.out.1⟩
theorem partsOf_len (l : List UInt8) : (partsOf l).length ≤ l.length + 1 := by
  have key : ∀ k, k ≤ l.length → (runP (l.take k)).2.length ≤ k := by
    intro k
    induction k with
    | zero => intro _; exact Nat.le_refl _
    | succ k ih =>
      intro hk
      have hkl : k < l.length := by omega
      have := ih (by omega)
      rw [List.take_succ_eq_append_getElem hkl, runP_snoc]
      have h2 := addP_len (runP (l.take k))
      unfold stepP
      split
      · show (addP _).length ≤ k + 1; omega
      · show (runP (l.take k)).2.length ≤ k + 1; omega
  have h := key l.length (Nat.le_refl _)
  rw [List.take_length] at h
  have := addP_len (runP l)
  unfold partsOf
  omega
set_option maxRecDepth 100000 in
set_option maxHeartbeats 1600000 in
theorem split_any (l : List UInt8) (w : World) (hl : l.length ≤ 1023) : Calls Tryz.prog 91 #[.string (str l)] w (SplitPost (splitErr l) (partsOf l) w) := by
  cases l with
  | nil =>
    rw [show str [] = ⟨#[]⟩ from rfl]
    go_enter Tryz.func91, Tryz.ntmps91
    go_wp2_with fail
    go_ret2
    exact .inl ⟨by decide, rfl, Below.refl _ _⟩
  | cons y r =>
    have hsz : ((str (y :: r)).size : Int) ≤ 1023 := by rw [str_size]; omega
    have hsz1 : decide ((1023 : Int) < ((str (y :: r)).size : Int)) = false := decide_eq_false (by omega)
    have hsz2 : ¬ ((1023 : Int) < ((str (y :: r)).size : Int)) := by omega
    have hem := empty_no (y := y) (r := r)
    have hix : (Instr.index 9 (.string (str (y :: r))) (.int .i64 0)).run Tryz.prog w = .ok (.int .u8 (y.toNat : Int)) w := by
      have h0 : 0 < (str (y :: r)).size := by rw [str_size]; simp
      have e : (str (y :: r))[0] = y := by simp [str]; rfl
      rw [run_index_string w 9 _ .i64 0 Tryz.underlying9, dif_pos ⟨by omega, by omega⟩]
      simp [e]
    obtain ⟨S, hS⟩ : ∃ S, str (y :: r) = S := ⟨_, rfl⟩
    rw [hS] at hsz hsz1 hsz2 hem hix ⊢
    by_cases hy : y = 47
    · have HE : Hid (splitErr (y :: r) = errsOf (partsOf (y :: r))) := by show _ = _; unfold splitErr; rw [if_pos (by rw [hy]; rfl)]
      rw [hy] at hix
      rw [show ((47 : UInt8).toNat : Int) = 47 from rfl] at hix
      rw [HE.out]
      have HP : ∀ w S, str (y :: r) = S → Calls Tryz.prog 97 #[.string S] w (CutPost (partsOf (y :: r)) w) := fun w S h => by rw [← h]; exact cut_any (y :: r) w hl
      have HH := Lib.hid HP
      have HSS := Lib.hid hS
      have HPL : Hid ((partsOf (y :: r)).length ≤ 1024) := by have := partsOf_len (y :: r); show _ ≤ _; omega
      generalize partsOf (y :: r) = ps at *
      clear HP hl hS hy HE
      go_enter Tryz.func91, Tryz.ntmps91
      go_wp2_with fail
      refine (HH.out w S HSS.out).mono ?_
      rintro e w2 ⟨A, c, rfl, hb, hst⟩
      go_wp2_with fail
      refine (right_any ps A c w2 (Lib.hid hst.out.1) HPL.out).mono ?_
      rintro e w3 ⟨rfl, hb3⟩
      have hB : Hid (Below w.heap.size w w3) := hb.out.trans (hb3.out.mono hb.out.size)
      have hst3 : Hid (StrsF w3 A c (ps.map str)) := hst.out.below hb3.out
      by_cases h0 : errsOf ps = 0
      · have H0 := Lib.hid h0
        rw [h0]
        clear h0 hb hb3
        go_wp2_with fail
        go_ret2
        exact .inr ⟨H0.out, A, c, rfl, hB, hst3⟩
      · have H0 := Lib.hid h0
        have t0 : (errsOf ps != 0) = true := by rw [bne_iff_ne]; exact h0
        clear h0 hb hb3
        go_wp2_with fail
        go_ret2
        exact .inl ⟨H0.out, rfl, hB⟩
    · have HE : Hid (splitErr (y :: r) = 110) := by show _ = _; unfold splitErr; rw [if_neg (by simpa using hy)]
      rw [HE.out]
      have t47 : ((y.toNat : Int) != 47) = true := by
        rw [bne_iff_ne]
        intro h
        exact hy (by apply UInt8.toNat_inj.1; show y.toNat = 47; omega)
      go_enter Tryz.func91, Tryz.ntmps91
      go_wp2_with fail
      go_ret2
      exact .inl ⟨by decide, rfl, Below.refl _ _⟩
end Go.Proofs.YtcdhkeahcliefaaGreatDoor.PathE
/- A path by its parts: written, the document's text. -/
namespace Go.Proofs.YtcdhkeahcliefaaGreatDoor.PathF
open Go.ChangeShapes Go.WideShapes Go.ChangeAt Go.RowKit
open Go.Proofs.YtcdhkeahcliefaaGreatDoor.Kit Go.Proofs.YtcdhkeahcliefaaGreatDoor.Base Go.Proofs.YtcdhkeahcliefaaGreatDoor.Bld Go.Proofs.YtcdhkeahcliefaaGreatDoor.Name Go.Proofs.YtcdhkeahcliefaaGreatDoor.Path Go.Proofs.YtcdhkeahcliefaaGreatDoor.PathB Go.Proofs.YtcdhkeahcliefaaGreatDoor.PathD Go.Proofs.YtcdhkeahcliefaaGreatDoor.PathE
set_option linter.unusedVariables false

def flat (ps : List (List UInt8)) : List UInt8 := ps.flatMap fun p => 47 :: p
def pathText (ps : List (List UInt8)) : List UInt8 := if ps = [] then [47] else flat ps
theorem joinTail_flat (ps : List (List UInt8)) : Lib.joinTail [47] ps = flat ps := by
  unfold Lib.joinTail flat
  rw [List.flatMap_def]
  rfl
theorem join_flat (p : List UInt8) (ps : List (List UInt8)) : 47 :: Lib.join (p :: ps) [47] = flat (p :: ps) := by
  rw [Lib.join_cons, joinTail_flat]
  simp [flat]
theorem flat_snoc (ps : List (List UInt8)) (p : List UInt8) : flat (ps ++ [p]) = flat ps ++ 47 :: p := by simp [flat]
theorem flat_add (st : PSt) : (flat (addP st)).length ≤ (flat st.2).length + st.1.length + 1 := by
  unfold addP
  split
  · omega
  · rw [flat_snoc]
    simp
    omega
theorem flat_parts (l : List UInt8) : (flat (partsOf l)).length ≤ l.length + 1 := by
  have key : ∀ k, k ≤ l.length → (flat (runP (l.take k)).2).length + (runP (l.take k)).1.length ≤ k := by
    intro k
    induction k with
    | zero => intro _; exact Nat.le_refl _
    | succ k ih =>
      intro hk
      have hkl : k < l.length := by omega
      have := ih (by omega)
      rw [List.take_succ_eq_append_getElem hkl, runP_snoc]
      have h2 := flat_add (runP (l.take k))
      unfold stepP
      split
      · show (flat (addP _)).length + 0 ≤ k + 1; omega
      · show (flat (runP (l.take k)).2).length + ((runP (l.take k)).1 ++ _).length ≤ k + 1
        simp
        omega
  have h := key l.length (Nat.le_refl _)
  rw [List.take_length] at h
  have := flat_add (runP l)
  unfold partsOf
  omega
theorem join_strs (ps : List (List UInt8)) : Lib.join ((ps.map str).map (·.data.toList)) (⟨#[47]⟩ : ByteArray).data.toList = Lib.join ps [47] := by
  rw [List.map_map]
  congr 1
  conv => rhs; rw [← List.map_id ps]
  refine List.map_congr_left (fun p _ => ?_)
  exact str_list p
set_option maxRecDepth 100000 in
set_option maxHeartbeats 1600000 in
theorem written_any (ps : List (List UInt8)) (A : Option Addr) (c : Nat) (w : World) (hs : Hid (StrsF w A c (ps.map str))) (hn : ps.length ≤ 1024) (hf : (flat ps).length ≤ 4096) :
    Calls Tryz.prog 92 #[.slice A ps.length c] w fun e w' => e = .returned (.string (str (pathText ps))) ∧ Hid (Below w.heap.size w w') := by
  cases ps with
  | nil =>
    go_enter Tryz.func92, Tryz.ntmps92
    go_wp2_with fail
    go_ret
    exact ⟨rfl, Below.refl _ _⟩
  | cons p r =>
    obtain ⟨h1, h2, h3⟩ := hs.out
    have hj := join_flat p r
    have HT : Hid (pathText (p :: r) = 47 :: Lib.join (p :: r) [47]) := by
      show _ = _
      rw [hj]
      exact if_neg (by simp)
    have hjl : (Lib.join (p :: r) [47]).length ≤ 4096 := by
      have := congrArg List.length hj
      simp only [List.length_cons] at this
      omega
    obtain ⟨ad, hA, _⟩ := h1 0 (by simp)
    subst hA
    have hsp := h3 ad rfl
    obtain ⟨bk, o, sp⟩ := ad
    have hsp : sp = none := hsp
    subst hsp
    have hcells : ∀ (j : Nat) x, ((p :: r).map str)[j]? = some x → w.cell? ⟨bk, o + j, none⟩ = some (.string x) := fun j x hx => by
      obtain ⟨hj, e⟩ := List.getElem?_eq_some_iff.1 hx
      obtain ⟨ad, e2, hc⟩ := h1 j hj
      cases e2
      rw [e] at hc
      rw [← hc]
      unfold Addr.add
      by_cases h0 : j = 0
      · subst h0; rfl
      · rw [if_neg h0]
    have hbk : bk < w.heap.size := World.block_lt_of_cell? w _ (hcells 0 (str p) rfl)
    have HJ := Lib.hid (Tryz.strings_Join bk o c ((p :: r).map str) ⟨#[47]⟩ w hcells hbk (by rw [List.length_map]; omega) h2 (by rw [join_strs]; omega))
    rw [join_strs, List.length_map] at HJ
    have HLN : Hid (∃ n, (p :: r).length = n + 1) := ⟨r.length, by simp⟩
    rw [HT.out]
    generalize Lib.join (p :: r) [47] = jj at *
    obtain ⟨n, hn1⟩ := HLN.out
    rw [hn1] at HJ ⊢
    have hn9 : ((n : Int) + 1 == 0) = false := beq_eq_false_iff_ne.2 (by omega)
    have hn8 : (((n + 1 : Nat) : Int) == 0) = false := beq_eq_false_iff_ne.2 (by omega)
    clear hj hcells hbk h1 h2 h3 hs hf HT hn hn1
    go_enter Tryz.func92, Tryz.ntmps92
    go_wp2_with fail
    refine HJ.out.mono ?_
    rintro e w2 ⟨rfl, hb⟩
    go_wp2_with fail
    go_ret
    exact ⟨rfl, hb⟩
theorem flat_take (ps : List (List UInt8)) (k : Nat) : (flat (ps.take k)).length ≤ (flat ps).length := by
  have h : flat ps = flat (ps.take k) ++ flat (ps.drop k) := by
    unfold flat
    rw [← List.flatMap_append, List.take_append_drop]
  rw [h, List.length_append]
  omega
theorem str_cat (a b : List UInt8) : str a ++ str b = str (a ++ b) := str_append a b
set_option maxRecDepth 100000 in
set_option maxHeartbeats 1600000 in
theorem textR_any (l : List UInt8) (w : World) (hl : l.length ≤ 1023) (h0 : splitErr l = 0) : Calls Tryz.prog 45 #[.string (str l)] w fun e w' => e = .returned (.string (str (pathText (partsOf l)))) ∧ Hid (Below w.heap.size w w') := by
  have HSP := Lib.hid (splitR_any l w hl)
  have HPL : Hid ((partsOf l).length ≤ 1024) := by have := partsOf_len l; show _ ≤ _; omega
  have H0 := Lib.hid h0
  have HFL : Hid ((flat (partsOf l)).length ≤ 1024) := by have := flat_parts l; show _ ≤ _; omega
  obtain ⟨S, hS⟩ : ∃ S, str l = S := ⟨_, rfl⟩
  rw [hS] at HSP ⊢
  obtain ⟨Z, hZ⟩ : ∃ Z, w.heap.size = Z := ⟨_, rfl⟩
  have HZ := Lib.hid hZ
  generalize partsOf l = ps at *
  clear hl h0 hS hZ
  go_enter Tryz.func45, Tryz.ntmps45
  go_wp2_with fail
  refine HSP.out.mono ?_
  rintro e w1 (⟨hne, _, _⟩ | ⟨_, A, c, rfl, hb, hst⟩)
  · exact absurd H0.out hne
  have h1 : Hid (Below Z w w1) := by rw [← HZ.out]; exact hb
  obtain ⟨n, hn⟩ : ∃ n, ps.length = n := ⟨_, rfl⟩
  have HNN := Lib.hid hn
  rw [hn]
  clear hb hn HSP
  go_wp2_with fail
  go_loopg [5, 6] n (fun g s i wr => ∃ (k : Nat), g = n - k ∧ k ≤ n ∧ i = .int .i64 k ∧ s = .string (str (flat (ps.take k))) ∧ wr = w1)
  case atStart => exact ⟨0, rfl, Nat.zero_le _, rfl, rfl, rfl⟩
  case round =>
    obtain ⟨k, rfl, hk, rfl, rfl, rfl⟩ := hrel
    have hk9 : (k : Int) ≤ 1024 := by have := HPL.out; have := HNN.out; omega
    have k0 : (0 : Int) ≤ (k : Int) := by omega
    by_cases hlt : k < n
    · have hkl : k < ps.length := by rw [HNN.out]; exact hlt
      have hlti : (k : Int) < (n : Int) := by omega
      obtain ⟨ad, hA, hc⟩ := hst.out.1 k (by simpa using hkl)
      have hc1 : wr.cell? (ad.add k) = some (.string (str ps[k])) := by simpa using hc
      subst hA
      have HLT := Lib.hid hlt
      have HF : Hid (flat (ps.take (k + 1)) = flat (ps.take k) ++ [47] ++ ps[k]) := by
        show _ = _
        rw [List.take_succ_eq_append_getElem hkl, flat_snoc]
        simp
      have hf1 := flat_take ps k
      have hf2 := flat_take ps (k + 1)
      rw [HF.out] at hf2
      simp only [List.length_append, List.length_cons, List.length_nil] at hf2
      have n1 : ¬ (9223372036854775807 < (str (flat (ps.take k))).size + 1) := by have := HFL.out; rw [str_size]; omega
      have n2 : ¬ (9223372036854775807 < (str (flat (ps.take k))).size + 1 + (str ps[k]).size) := by have := HFL.out; rw [str_size, str_size]; omega
      generalize ps[k] = p at *
      clear hkl hlt hc hf1 hf2
      go_wp2_with fail
      go_roundg (n - (k + 1))
      case measure => have := HLT.out; omega
      case rel => exact ⟨k + 1, rfl, HLT.out, by go_num, by rw [HF.out, ← str_append, ← str_append]; rfl, rfl⟩
    · have hlti : ¬ ((k : Int) < (n : Int)) := by omega
      have hF : flat (ps.take k) = flat ps := by rw [List.take_of_length_le (by have := HNN.out; omega)]
      rw [hF]
      by_cases he : ps = []
      · have HT : Hid (pathText ps = [47]) := if_pos he
        have hfe : flat ps = [] := by rw [he]; rfl
        rw [hfe, show str [] = ⟨#[]⟩ from rfl]
        clear he hfe hF hlt
        go_wp2_with fail
        go_ret
        exact ⟨by rw [HT.out]; rfl, by rw [HZ.out]; exact h1⟩
      · have HT : Hid (pathText ps = flat ps) := if_neg he
        have hem : (str (flat ps)).toList.isEmpty = false := by
          rw [Lib.toList_data, str_list]
          cases ps with
          | nil => exact absurd rfl he
          | cons => simp [flat]
        clear he hF hlt
        go_wp2_with fail
        go_ret
        exact ⟨by rw [HT.out]; rfl, by rw [HZ.out]; exact h1⟩
end Go.Proofs.YtcdhkeahcliefaaGreatDoor.PathF
/- The program's parser: place. -/
namespace Go.Proofs.YtcdhkeahcliefaaGreatDoor.TokD
open Go.ChangeShapes Go.WideShapes Go.ChangeAt Go.RowKit
open Go.Proofs.YtcdhkeahcliefaaGreatDoor.Kit Go.Proofs.YtcdhkeahcliefaaGreatDoor.Base Go.Proofs.YtcdhkeahcliefaaGreatDoor.PatA Go.Proofs.YtcdhkeahcliefaaGreatDoor.Tok Go.Proofs.YtcdhkeahcliefaaGreatDoor.Path Go.Proofs.YtcdhkeahcliefaaGreatDoor.PathB Go.Proofs.YtcdhkeahcliefaaGreatDoor.PathE Go.Proofs.YtcdhkeahcliefaaGreatDoor.PathF
set_option linter.unusedVariables false

theorem next_end (p : Pw) (i o : Nat) (w : World) (hp : Hid p.Ok) (h : Hid (Pr p w i o)) (hlt : ¬ i < p.ws.length) : Calls Tryz.prog 67 #[.pointer (some ⟨p.P, 0, none⟩)] w fun e w' => Threw 191 e ∧ Hid (Since p.P p.w0 w') := by
  refine (next_any p i o w hp h).mono ?_
  rintro e w' (⟨hh, _, _⟩ | ⟨_, h2, h3⟩)
  · exact absurd hh hlt
  · exact ⟨h2, h3⟩
theorem next_word (p : Pw) (i o : Nat) (w : World) (hp : Hid p.Ok) (h : Hid (Pr p w i o)) (x : List UInt8) (hlt : i < p.ws.length) (hx : p.ws[i] = x) : Calls Tryz.prog 67 #[.pointer (some ⟨p.P, 0, none⟩)] w fun e w' => e = .returned (.string (str x)) ∧ Hid (Pr p w' (i + 1) o) := by
  subst hx
  refine (next_any p i o w hp h).mono ?_
  rintro e w' (⟨hh, rfl, h2⟩ | ⟨he, _, _⟩)
  · exact ⟨rfl, h2⟩
  · omega
/-- what place answers; T: the kind's type -/
def PlacePost (p : Pw) (i o : Nat) (T : TypeId) (e : Ending) (w' : World) : Prop :=
  (∃ h : i < p.ws.length, splitErr p.ws[i] = 0 ∧ e = .returned (.iface T (.string (str (pathText (partsOf p.ws[i]))))) ∧ Hid (Pr p w' (i + 1) o)) ∨
  (∃ h : i < p.ws.length, splitErr p.ws[i] ≠ 0 ∧ Threw (splitErr p.ws[i]) e ∧ Hid (Since p.P p.w0 w')) ∨
  (¬ i < p.ws.length ∧ Threw 191 e ∧ Hid (Since p.P p.w0 w'))
set_option maxRecDepth 100000 in
set_option maxHeartbeats 1600000 in
theorem place_any (p : Pw) (i o : Nat) (b : Bool) (w : World) (hp : Hid p.Ok) (h : Hid (Pr p w i o)) (hw : Hid (∀ x ∈ p.ws, x.length ≤ 1023)) :
    Calls Tryz.prog 84 #[.pointer (some ⟨p.P, 0, none⟩), .string (if b then ⟨#[117, 110, 100, 101, 114]⟩ else ⟨#[115, 97, 109, 101]⟩)] w (PlacePost p i o (if b then 61 else 62)) := by
  by_cases hlt : i < p.ws.length
  · have HLT := Lib.hid hlt
    obtain ⟨x, hx⟩ : ∃ x, p.ws[i] = x := ⟨_, rfl⟩
    have HX : Hid (∀ h : i < p.ws.length, p.ws[i] = x) := fun _ => hx
    have HN := Lib.hid (next_word p i o w hp h x hlt hx)
    have HL : Hid (x.length ≤ 1023) := by rw [← hx]; exact hw.out _ (List.getElem_mem hlt)
    have HS := Lib.hid (fun w => split_any x w HL.out)
    have HPL : Hid ((partsOf x).length ≤ 1024) := by have := partsOf_len x; have := HL.out; show _ ≤ _; omega
    have HFL : Hid ((flat (partsOf x)).length ≤ 4096) := by have := flat_parts x; have := HL.out; show _ ≤ _; omega
    clear hlt hx
    by_cases h0 : splitErr x = 0
    · have H0 := Lib.hid h0
      clear h0
      cases b
      all_goals (
        simp only [if_true, if_false, Bool.false_eq_true]
        go_enter Tryz.func84, Tryz.ntmps84
        go_wp2_with fail
        refine HN.out.mono ?_
        rintro e w1 ⟨rfl, h1⟩
        go_wp2_with fail
        refine (HS.out w1).mono ?_
        rintro e w2 (⟨hne, _, _⟩ | ⟨_, A, c, rfl, hb, hst⟩)
        · exact absurd H0.out hne
        have h2 : Hid (Pr p w2 (i + 1) o) := h1.out.next hb.out
        clear hb h1
        go_wp2_with fail
        refine (written_any (partsOf x) A c w2 hst HPL.out HFL.out).mono ?_
        rintro e w3 ⟨rfl, hb3⟩
        have h3 : Hid (Pr p w3 (i + 1) o) := h2.out.next hb3.out
        go_wp2_with fail
        go_ret
        exact .inl ⟨HLT.out, by rw [HX.out HLT.out]; exact H0.out, by rw [HX.out HLT.out]; rfl, h3⟩)
    · have H0 := Lib.hid h0
      obtain ⟨er, her⟩ : ∃ er, splitErr x = er := ⟨_, rfl⟩
      have HER := Lib.hid her
      rw [her] at h0
      have hpn := panics er
      have t0 : (er != 0) = true := by rw [bne_iff_ne]; exact h0
      clear h0 her
      generalize (Value.string (if b then ⟨#[117, 110, 100, 101, 114]⟩ else ⟨#[115, 97, 109, 101]⟩)) = vw
      generalize (if b = true then (61 : TypeId) else 62) = T
      go_enter Tryz.func84, Tryz.ntmps84
      go_wp2_with fail
      refine HN.out.mono ?_
      rintro e w1 ⟨rfl, h1⟩
      go_wp2_with fail
      refine (HS.out w1).mono ?_
      rintro e w2 (⟨_, rfl, hb⟩ | ⟨he, _⟩)
      rotate_left
      · exact absurd he H0.out
      have h2 : Hid (Pr p w2 (i + 1) o) := h1.out.next hb.out
      rw [HER.out]
      go_wp2_with fail
      exact ⟨rfl, .inr (.inl ⟨HLT.out, by rw [HX.out HLT.out]; exact H0.out, by rw [HX.out HLT.out, HER.out]; rfl, h2.out.1⟩)⟩
  · have HN := Lib.hid (next_end p i o w hp h hlt)
    have HLT := Lib.hid hlt
    clear hlt
    generalize (Value.string (if b then ⟨#[117, 110, 100, 101, 114]⟩ else ⟨#[115, 97, 109, 101]⟩)) = vw
    generalize (if b = true then (61 : TypeId) else 62) = T
    go_enter Tryz.func84, Tryz.ntmps84
    go_wp2_with fail
    refine HN.out.mono ?_
    rintro e w2 ⟨he, h2⟩
    unfold Threw at he
    subst he
    go_wp2_with fail
    exact ⟨rfl, .inr (.inr ⟨HLT.out, rfl, h2⟩)⟩
end Go.Proofs.YtcdhkeahcliefaaGreatDoor.TokD
/- The program's parser: kindOf, comparison. -/
namespace Go.Proofs.YtcdhkeahcliefaaGreatDoor.TokB
open Go.ChangeShapes Go.WideShapes Go.ChangeAt Go.RowKit
open Go.Proofs.YtcdhkeahcliefaaGreatDoor.Kit Go.Proofs.YtcdhkeahcliefaaGreatDoor.Base Go.Proofs.YtcdhkeahcliefaaGreatDoor.PatA Go.Proofs.YtcdhkeahcliefaaGreatDoor.Tok
set_option linter.unusedVariables false

def kindW (x : List UInt8) : Int := if x = [102, 105, 108, 101] then 1 else if x = [100, 105, 114] then 2 else if x = [108, 105, 110, 107] then 3 else 0
theorem ne_list {x a : List UInt8} (h : x ≠ a) : ((str x).toList == a) = false := by
  rw [Lib.toList_data, str_list]
  exact beq_eq_false_iff_ne.2 h
set_option maxRecDepth 100000 in
theorem kind_any (x : List UInt8) (w : World) : Calls Tryz.prog 82 #[.string (str x)] w fun e w' => e = .returned (.int .i64 (kindW x)) ∧ w' = w := by
  by_cases h0 : x = [102, 105, 108, 101]
  · subst h0
    rw [show str [102, 105, 108, 101] = ⟨#[102, 105, 108, 101]⟩ from rfl]
    go_enter Tryz.func82, Tryz.ntmps82
    go_wp2_with fail
    go_ret
    exact ⟨rfl, rfl⟩
  by_cases h1 : x = [100, 105, 114]
  · subst h1
    rw [show str [100, 105, 114] = ⟨#[100, 105, 114]⟩ from rfl]
    go_enter Tryz.func82, Tryz.ntmps82
    go_wp2_with fail
    go_ret
    exact ⟨rfl, rfl⟩
  by_cases h2 : x = [108, 105, 110, 107]
  · subst h2
    rw [show str [108, 105, 110, 107] = ⟨#[108, 105, 110, 107]⟩ from rfl]
    go_enter Tryz.func82, Tryz.ntmps82
    go_wp2_with fail
    go_ret
    exact ⟨rfl, rfl⟩
  have e0 := ne_list h0
  have e1 := ne_list h1
  have e2 := ne_list h2
  have HE : Hid (kindW x = 0) := by show _ = _; unfold kindW; rw [if_neg h0, if_neg h1, if_neg h2]
  rw [HE.out]
  clear h0 h1 h2
  go_enter Tryz.func82, Tryz.ntmps82
  go_wp2_with fail
  go_ret
  exact ⟨rfl, rfl⟩
def cmps : List (List UInt8) := [[60], [60, 61], [61], [33, 61], [62, 61], [62]]
def CmpPost (p : Pw) (i o : Nat) (e : Ending) (w' : World) : Prop :=
  (∃ h : i < p.ws.length, p.ws[i] ∈ cmps ∧ e = .returned (.string (str p.ws[i])) ∧ Hid (Pr p w' (i + 1) o)) ∨
  ((∀ h : i < p.ws.length, p.ws[i] ∉ cmps) ∧ Threw 191 e ∧ Hid (Since p.P p.w0 w'))
set_option maxRecDepth 100000 in
set_option maxHeartbeats 1600000 in
theorem cmp_any (p : Pw) (i o : Nat) (w : World) (hp : Hid p.Ok) (h : Hid (Pr p w i o)) : Calls Tryz.prog 80 #[.pointer (some ⟨p.P, 0, none⟩)] w (CmpPost p i o) := by
  have hpn := panics 191
  by_cases hlt : i < p.ws.length
  · have HLT := Lib.hid hlt
    obtain ⟨x, hx⟩ : ∃ x, p.ws[i] = x := ⟨_, rfl⟩
    have HX : Hid (∀ h : i < p.ws.length, p.ws[i] = x) := fun _ => hx
    have HN : Hid (∀ Q : Ending → World → Prop, (∀ w', Hid (Pr p w' (i + 1) o) → Q (.returned (.string (str x))) w') → Calls Tryz.prog 67 #[.pointer (some ⟨p.P, 0, none⟩)] w Q) := fun Q hQ => by
      refine (next_any p i o w hp h).mono ?_
      rintro e w' (⟨hh, rfl, h2⟩ | ⟨he, _, _⟩)
      · rw [HX.out hh]; exact hQ w' h2
      · omega
    clear hlt hx
    by_cases h0 : x = [60]
    · have HM : Hid (x ∈ cmps) := by rw [h0]; exact (by decide : [60] ∈ cmps)
      rw [h0, show str [60] = ⟨#[60]⟩ from rfl] at HN
      have HS : Hid (str x = ⟨#[60]⟩) := by rw [h0]; exact rfl
      clear h0
      go_enter Tryz.func80, Tryz.ntmps80
      go_wp2_with fail
      refine HN.out _ ?_
      rintro w2 h2
      go_wp2_with fail
      go_ret
      exact .inl ⟨HLT.out, by rw [HX.out]; exact HM.out, by rw [HX.out HLT.out, HS.out]; rfl, h2⟩
    by_cases h1 : x = [60, 61]
    · have HM : Hid (x ∈ cmps) := by rw [h1]; exact (by decide : [60, 61] ∈ cmps)
      rw [h1, show str [60, 61] = ⟨#[60, 61]⟩ from rfl] at HN
      have HS : Hid (str x = ⟨#[60, 61]⟩) := by rw [h1]; exact rfl
      clear h0 h1
      go_enter Tryz.func80, Tryz.ntmps80
      go_wp2_with fail
      refine HN.out _ ?_
      rintro w2 h2
      go_wp2_with fail
      go_ret
      exact .inl ⟨HLT.out, by rw [HX.out]; exact HM.out, by rw [HX.out HLT.out, HS.out]; rfl, h2⟩
    by_cases h2 : x = [61]
    · have HM : Hid (x ∈ cmps) := by rw [h2]; exact (by decide : [61] ∈ cmps)
      rw [h2, show str [61] = ⟨#[61]⟩ from rfl] at HN
      have HS : Hid (str x = ⟨#[61]⟩) := by rw [h2]; exact rfl
      clear h0 h1 h2
      go_enter Tryz.func80, Tryz.ntmps80
      go_wp2_with fail
      refine HN.out _ ?_
      rintro w2 h2
      go_wp2_with fail
      go_ret
      exact .inl ⟨HLT.out, by rw [HX.out]; exact HM.out, by rw [HX.out HLT.out, HS.out]; rfl, h2⟩
    by_cases h3 : x = [33, 61]
    · have HM : Hid (x ∈ cmps) := by rw [h3]; exact (by decide : [33, 61] ∈ cmps)
      rw [h3, show str [33, 61] = ⟨#[33, 61]⟩ from rfl] at HN
      have HS : Hid (str x = ⟨#[33, 61]⟩) := by rw [h3]; exact rfl
      clear h0 h1 h2 h3
      go_enter Tryz.func80, Tryz.ntmps80
      go_wp2_with fail
      refine HN.out _ ?_
      rintro w2 h2
      go_wp2_with fail
      go_ret
      exact .inl ⟨HLT.out, by rw [HX.out]; exact HM.out, by rw [HX.out HLT.out, HS.out]; rfl, h2⟩
    by_cases h4 : x = [62, 61]
    · have HM : Hid (x ∈ cmps) := by rw [h4]; exact (by decide : [62, 61] ∈ cmps)
      rw [h4, show str [62, 61] = ⟨#[62, 61]⟩ from rfl] at HN
      have HS : Hid (str x = ⟨#[62, 61]⟩) := by rw [h4]; exact rfl
      clear h0 h1 h2 h3 h4
      go_enter Tryz.func80, Tryz.ntmps80
      go_wp2_with fail
      refine HN.out _ ?_
      rintro w2 h2
      go_wp2_with fail
      go_ret
      exact .inl ⟨HLT.out, by rw [HX.out]; exact HM.out, by rw [HX.out HLT.out, HS.out]; rfl, h2⟩
    by_cases h5 : x = [62]
    · have HM : Hid (x ∈ cmps) := by rw [h5]; exact (by decide : [62] ∈ cmps)
      rw [h5, show str [62] = ⟨#[62]⟩ from rfl] at HN
      have HS : Hid (str x = ⟨#[62]⟩) := by rw [h5]; exact rfl
      clear h0 h1 h2 h3 h4 h5
      go_enter Tryz.func80, Tryz.ntmps80
      go_wp2_with fail
      refine HN.out _ ?_
      rintro w2 h2
      go_wp2_with fail
      go_ret
      exact .inl ⟨HLT.out, by rw [HX.out]; exact HM.out, by rw [HX.out HLT.out, HS.out]; rfl, h2⟩
    have e0 := ne_list h0
    have e1 := ne_list h1
    have e2 := ne_list h2
    have e3 := ne_list h3
    have e4 := ne_list h4
    have e5 := ne_list h5
    have HM : Hid (x ∉ cmps) := by
      show ¬ _
      unfold cmps
      simp only [List.mem_cons, List.not_mem_nil, or_false, not_or]
      exact ⟨h0, h1, h2, h3, h4, h5⟩
    clear h0 h1 h2 h3 h4 h5
    go_enter Tryz.func80, Tryz.ntmps80
    go_wp2_with fail
    refine HN.out _ ?_
    rintro w2 h2
    go_wp2_with fail
    exact ⟨rfl, .inr ⟨fun hh => by rw [HX.out]; exact HM.out, rfl, h2.out.1⟩⟩
  · have HN : Hid (Calls Tryz.prog 67 #[.pointer (some ⟨p.P, 0, none⟩)] w fun e w' => Threw 191 e ∧ Hid (Since p.P p.w0 w')) := by
      refine (next_any p i o w hp h).mono ?_
      rintro e w' (⟨hh, _, _⟩ | ⟨_, h2, h3⟩)
      · exact absurd hh hlt
      · exact ⟨h2, h3⟩
    have HLT := Lib.hid hlt
    clear hlt
    go_enter Tryz.func80, Tryz.ntmps80
    go_wp2_with fail
    refine HN.out.mono ?_
    rintro e w2 ⟨he, h2⟩
    unfold Threw at he
    subst he
    go_wp2_with fail
    exact ⟨rfl, .inr ⟨fun hh => absurd hh HLT.out, rfl, h2⟩⟩
end Go.Proofs.YtcdhkeahcliefaaGreatDoor.TokB
