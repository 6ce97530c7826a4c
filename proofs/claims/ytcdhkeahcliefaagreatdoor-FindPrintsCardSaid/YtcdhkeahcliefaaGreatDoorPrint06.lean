/- The parts of a path: plain; the document's Split. -/
import Derived.Test.YtcdhkeahcliefaaGreatDoorPrint03
import Derived.Test.YtcdhkeahcliefaaGreatDoorPrint05
namespace Go.Proofs.YtcdhkeahcliefaaGreatDoor.Path
open Go.ChangeShapes Go.WideShapes Go.ChangeAt Go.RowKit
open Go.Proofs.YtcdhkeahcliefaaGreatDoor.Kit Go.Proofs.YtcdhkeahcliefaaGreatDoor.Base Go.Proofs.YtcdhkeahcliefaaGreatDoor.Bld Go.Proofs.YtcdhkeahcliefaaGreatDoor.Name
set_option linter.unusedVariables false

abbrev PSt := List UInt8 × List (List UInt8)
def addP (st : PSt) : List (List UInt8) := if st.1 = [] ∨ st.1 = [46] then st.2 else st.2 ++ [st.1]
def stepP (st : PSt) (y : UInt8) : PSt := if y = 47 then ([], addP st) else (st.1 ++ [y], st.2)
def runP (l : List UInt8) : PSt := l.foldl stepP ([], [])
def partsOf (l : List UInt8) : List (List UInt8) := addP (runP l)
def errP (p : List UInt8) : Int := if p = [46, 46] then 0 else nameErr (str p)
def errsOf (ps : List (List UInt8)) : Int := ps.foldl (fun e p => if e = 0 then errP p else e) 0
theorem runP_snoc (l : List UInt8) (y : UInt8) : runP (l ++ [y]) = stepP (runP l) y := by
  unfold runP
  rw [List.foldl_append]
  rfl
theorem errsOf_snoc (ps : List (List UInt8)) (p : List UInt8) : errsOf (ps ++ [p]) = if errsOf ps = 0 then errP p else errsOf ps := by
  unfold errsOf
  rw [List.foldl_append]
  rfl
theorem addP_len (st : PSt) : (addP st).length ≤ st.2.length + 1 := by
  unfold addP
  split
  · omega
  · simp
/-- what a path's reader knows behind k bytes -/
structure PI (l : List UInt8) (k f : Nat) (st : PSt) : Prop where
  run : runP (l.take k) = st
  cur : (l.take k).drop f = st.1
  fk : f ≤ k
  len : st.2.length ≤ k
theorem pi_zero (l : List UInt8) : PI l 0 0 ([], []) := ⟨rfl, rfl, Nat.le_refl _, Nat.le_refl _⟩
theorem pi_byte {l : List UInt8} {k f : Nat} {st : PSt} (h : PI l k f st) (hk : k < l.length) (hy : l[k] ≠ 47) : PI l (k + 1) f (st.1 ++ [l[k]], st.2) := by
  refine ⟨?_, ?_, by have := h.fk; omega, by have := h.len; show st.2.length ≤ k + 1; omega⟩
  · rw [List.take_succ_eq_append_getElem hk, runP_snoc, h.run]
    unfold stepP
    rw [if_neg hy]
  · rw [List.take_succ_eq_append_getElem hk, List.drop_append_of_le_length (by have := h.fk; simp; omega), h.cur]
theorem pi_bar {l : List UInt8} {k f : Nat} {st : PSt} (h : PI l k f st) (hk : k < l.length) (hy : l[k] = 47) : PI l (k + 1) (k + 1) ([], addP st) := by
  refine ⟨?_, ?_, Nat.le_refl _, by have := h.len; have := addP_len st; show (addP st).length ≤ k + 1; omega⟩
  · rw [List.take_succ_eq_append_getElem hk, runP_snoc, h.run]
    unfold stepP
    rw [if_pos hy]
  · exact List.drop_eq_nil_of_le (by simp; omega)
theorem pi_end {l : List UInt8} {f : Nat} {st : PSt} (h : PI l l.length f st) : partsOf l = addP st := by
  have := h.run
  rw [List.take_length] at this
  unfold partsOf
  rw [this]
theorem addP_skip {st : PSt} (h : st.1 = [] ∨ st.1 = [46]) : addP st = st.2 := if_pos h
theorem addP_add {st : PSt} (h : ¬ (st.1 = [] ∨ st.1 = [46])) : addP st = st.2 ++ [st.1] := if_neg h
theorem str_extract (l : List UInt8) (i j : Nat) : (str l).extract i j = str ((l.take j).drop i) := by
  apply ByteArray.ext
  show ((str l).extract i j).data = _
  rw [ByteArray.data_extract]
  apply Array.ext'
  simp [str]
  try rw [List.drop_take]
/-- the texts, and the slice's own shape -/
def StrsF (w : World) (A : Option Addr) (c : Nat) (xs : List ByteArray) : Prop := Strs w A xs ∧ xs.length ≤ c ∧ ∀ ad, A = some ad → ad.spot = none
theorem StrsF.below {w w' : World} {A : Option Addr} {c : Nat} {xs : List ByteArray} (h : StrsF w A c xs) (hb : Below w.heap.size w w') : StrsF w' A c xs := ⟨h.1.below hb, h.2⟩
theorem owns_strsF {w : World} {base : Nat} {v : Value} {ps : List (List UInt8)} (h : w.ownsRow base 9 1 v ps.length (LexB.strs ps)) : ∃ A c, v = .slice A ps.length c ∧ StrsF w A c (ps.map str) := by
  have h2 := h
  obtain ⟨A, c, e, hs⟩ := owns_strs (base := base) (xs := ps.map str) (by rw [List.map_map]; exact h)
  refine ⟨A, c, e, hs, ?_⟩
  rcases h2.2 with ⟨e2, hn⟩ | ⟨g, cap, cur, e2, _, _, hle, _⟩
  · rw [e] at e2
    injection e2 with ea eb ec
    subst ea
    exact ⟨by simp [hn], fun ad h => by cases h⟩
  · rw [e] at e2
    injection e2 with ea eb ec
    subst ea ec
    exact ⟨by simpa using hle, fun ad h => by cases h; rfl⟩
/-- what Split answers -/
def SplitPost (er : Int) (ps : List (List UInt8)) (w : World) (e : Ending) (w' : World) : Prop :=
  (er ≠ 0 ∧ e = .returned (.tuple #[.slice none 0 0, .int .i64 er]) ∧ Hid (Below w.heap.size w w')) ∨
  (er = 0 ∧ ∃ A c, e = .returned (.tuple #[.slice A ps.length c, .int .i64 0]) ∧ Hid (Below w.heap.size w w') ∧ Hid (StrsF w' A c (ps.map str)))
/-- the list of parts so far -/
def Pl (Z : Nat) (w0 w : World) (v : Value) (ps : List (List UInt8)) : Prop := Since Z w0 w ∧ w.ownsRow Z 9 1 v ps.length (LexB.strs ps)
theorem Pl.next {Z : Nat} {w0 w w' : World} {v : Value} {ps : List (List UInt8)} (h : Pl Z w0 w v ps) (hb : Below w.heap.size w w') : Pl Z w0 w' v ps := ⟨h.1.next hb, owns_below h.2 hb⟩
theorem Pl.slice {Z : Nat} {w0 w : World} {v : Value} {ps : List (List UInt8)} (h : Pl Z w0 w v ps) : ∃ A c, v = .slice A ps.length c ∧ StrsF w A c (ps.map str) := owns_strsF h.2
theorem strs_snoc (ps : List (List UInt8)) (p : List UInt8) : LexB.strs (ps ++ [p]) = LexB.strs ps ++ [.string (str p)] := by simp [LexB.strs]
theorem str_ne {p a : List UInt8} (h : p ≠ a) : ¬ str p = str a := fun e => h (str_inj e)
set_option maxRecDepth 100000 in
set_option maxHeartbeats 3200000 in
theorem partsR_any (l : List UInt8) (w : World) (hl : l.length ≤ 1023) : Calls Tryz.prog 72 #[.string (str l)] w (SplitPost (errsOf (partsOf l)) (partsOf l) w) := by
  have HL := Lib.hid hl
  obtain ⟨S, hS⟩ : ∃ S, str l = S := ⟨_, rfl⟩
  have HS := Lib.hid hS
  obtain ⟨n, hn⟩ : ∃ n, S.size = n := ⟨_, rfl⟩
  have HN : Hid (l.length = n) := by rw [← hn, ← hS, str_size]; exact rfl
  have HNS := Lib.hid hn
  obtain ⟨Z, hZ⟩ : ∃ Z, w.heap.size = Z := ⟨_, rfl⟩
  have HZ := Lib.hid hZ
  rw [hS]
  have h1 : Hid (Pl Z w w (.slice none 0 0) []) := by rw [← hZ]; exact ⟨Since.refl w, rfl, .inl ⟨rfl, rfl⟩⟩
  clear hS hl hn hZ
  go_enter Tryz.func72, Tryz.ntmps72
  go_wp2_with fail
  go_loopg [4, 5, 6, 7] (n + 1) (fun g v e f i wr => ∃ (k a : Nat) (st : PSt) (ps : List (List UInt8)), g = n + 1 - k ∧ k ≤ n + 1 ∧ e = .int .i64 (errsOf ps) ∧ f = .int .i64 a ∧ i = .int .i64 k ∧ Hid (Pl Z w wr v ps) ∧ Hid ((k ≤ n ∧ PI l k a st ∧ ps = st.2) ∨ (k = n + 1 ∧ ps = partsOf l)))
  case atStart => exact ⟨0, 0, ([], []), [], rfl, Nat.zero_le _, rfl, rfl, rfl, h1, .inl ⟨Nat.zero_le _, pi_zero l, rfl⟩⟩
  case round =>
    clear h1
    obtain ⟨k, a, st, ps, rfl, hk, rfl, rfl, rfl, h1, hor⟩ := hrel
    have hn := HNS.out
    by_cases hlast : k = n + 1
    · have HP : Hid (ps = partsOf l) := by
        rcases hor.out with h | h
        · have := h.1; omega
        · exact h.2
      have hle : ¬ ((k : Int) ≤ (n : Int)) := by omega
      obtain ⟨er, her⟩ : ∃ er, errsOf ps = er := ⟨_, rfl⟩
      have HER : Hid (errsOf (partsOf l) = er) := by rw [← HP.out]; exact her
      rw [her]
      by_cases h0 : er = 0
      · subst h0
        obtain ⟨A, c, rfl, hst⟩ := h1.out.slice
        have HST := Lib.hid hst
        clear hst her hlast
        go_wp2_with fail
        go_ret2
        exact .inr ⟨HER.out, A, c, by rw [HP.out]; rfl, by rw [HZ.out]; exact h1.out.1.1, by rw [← HP.out]; exact HST⟩
      · have ne : (er != 0) = true := by rw [bne_iff_ne]; exact h0
        have H0 := Lib.hid h0
        clear h0 her hlast
        go_wp2_with fail
        go_ret2
        exact .inl ⟨by rw [HER.out]; exact H0.out, by rw [HER.out]; rfl, by rw [HZ.out]; exact h1.out.1.1⟩
    · have hkn : k ≤ n := by omega
      have HKN := Lib.hid hkn
      have HPI : Hid (PI l k a st ∧ ps = st.2) := by
        rcases hor.out with h | h
        · exact h.2
        · have := h.1; omega
      clear hor hlast hk
      obtain ⟨A, c, rfl, hsl⟩ := h1.out.slice
      clear hsl
      have hk9 : (k : Int) ≤ 1023 := by have := HL.out; have := HN.out; omega
      have k0 : (0 : Int) ≤ (k : Int) := by omega
      have kle : (k : Int) ≤ (n : Int) := by omega
      have kls : (k : Int) ≤ (S.size : Int) := by rw [hn]; exact kle
      have a0 : (0 : Int) ≤ (a : Int) := by omega
      have ak : (a : Int) ≤ (k : Int) := by have := HPI.out.1.fk; omega
      by_cases hlt : k < n
      · have hkl : k < l.length := by rw [HN.out]; exact hlt
        have hlti : (k : Int) < (n : Int) := by omega
        have hix : (Instr.index 9 (.string S) (.int .i64 k)).run Tryz.prog wr = .ok (.int .u8 (l[k].toNat : Int)) wr := by
          have hks : k < S.size := by rw [HNS.out]; exact hlt
          have e : S[k] = l[k] := by
            have := HS.out
            subst this
            simp [str]
            rfl
          rw [← e]
          go_simp
        by_cases hy : l[k] = 47
        · have HNEXT : Hid (∀ ps' : List (List UInt8), ps' = addP st → (k + 1 ≤ n ∧ PI l (k + 1) (k + 1) ([], addP st) ∧ ps' = addP st) ∨ (k + 1 = n + 1 ∧ ps' = partsOf l)) := fun ps' h => .inl ⟨hlt, pi_bar HPI.out.1 hkl hy, h⟩
          rw [hy] at hix
          rw [show ((47 : UInt8).toNat : Int) = 47 from rfl] at hix
          clear hy hkl hlt
          go_upto_region 8 with (fail)
          clear hix
          have HLEN : Hid (ps.length ≤ 1023) := by have h := HPI.out.1.len; rw [← HPI.out.2] at h; have := HN.out; have := HL.out; have := HKN.out; show _ ≤ _; omega
          have hcut : S.extract a k = str st.1 := by rw [← HS.out, str_extract, HPI.out.1.cur]
          have HA := Lib.hid HPI.out.1.fk
          go_upto_region 9 with (fail)
          clear hcut
          by_cases e : st.1 = []
          · have HPS : Hid (ps = addP st) := by show _ = _; rw [addP_skip (.inl e)]; exact HPI.out.2
            rw [e, show str [] = ⟨#[]⟩ from rfl]
            clear e
            go_wp2_with fail
            go_roundg (n + 1 - (k + 1))
            case measure => have := HKN.out; omega
            case rel => exact ⟨k + 1, k + 1, ([], addP st), ps, rfl, by have := HKN.out; omega, rfl, by go_num, by go_num, h1, HNEXT.out _ HPS.out⟩
          by_cases e1 : st.1 = [46]
          · have HPS : Hid (ps = addP st) := by show _ = _; rw [addP_skip (.inr e1)]; exact HPI.out.2
            rw [e1, show str [46] = ⟨#[46]⟩ from rfl]
            clear e e1
            go_wp2_with fail
            go_roundg (n + 1 - (k + 1))
            case measure => have := HKN.out; omega
            case rel => exact ⟨k + 1, k + 1, ([], addP st), ps, rfl, by have := HKN.out; omega, rfl, by go_num, by go_num, h1, HNEXT.out _ HPS.out⟩
          have HPS : Hid (ps ++ [st.1] = addP st) := by show _ = _; rw [addP_add (by rintro (h | h); exact e h; exact e1 h), HPI.out.2]
          by_cases e2 : st.1 = [46, 46]
          · have HE2 : Hid (errsOf (ps ++ [st.1]) = errsOf ps) := by
              show _ = _
              rw [errsOf_snoc]
              split
              · rename_i h; rw [h]; exact if_pos e2
              · rfl
            have HSE : Hid (str st.1 = ⟨#[46, 46]⟩) := by rw [e2]; exact rfl
            by_cases h0 : errsOf ps = 0
            · rw [h0, HSE.out]
              have H0 := Lib.hid h0
              clear e e1 e2 h0
              go_wp2_with (first | (at_builtin; go_loud (refine app_keep (v := .slice A ps.length c) el22 rfl (.tmp 45) (.tmp 47) rfl rfl h1 #[.string (⟨#[46, 46]⟩)] 1 1 rfl rfl (one_cell _ rfl) (by have := HLEN.out; omega) ?_); intro A7 c7 w7 h7 hk7))
              go_roundg (n + 1 - (k + 1))
              case measure => have := HKN.out; omega
              case rel => exact ⟨k + 1, k + 1, ([], addP st), ps ++ [st.1], rfl, by have := HKN.out; omega, by rw [HE2.out, H0.out], by go_num, by go_num, ⟨h7.out.1, by rw [List.length_append, strs_snoc, HSE.out]; exact h7.out.2⟩, HNEXT.out _ HPS.out⟩
            · rw [HSE.out]
              have t0 : (errsOf ps == 0) = false := beq_eq_false_iff_ne.2 h0
              clear e e1 e2 h0
              go_wp2_with (first | (at_builtin; go_loud (refine app_keep (v := .slice A ps.length c) el22 rfl (.tmp 45) (.tmp 47) rfl rfl h1 #[.string (⟨#[46, 46]⟩)] 1 1 rfl rfl (one_cell _ rfl) (by have := HLEN.out; omega) ?_); intro A7 c7 w7 h7 hk7))
              go_roundg (n + 1 - (k + 1))
              case measure => have := HKN.out; omega
              case rel => exact ⟨k + 1, k + 1, ([], addP st), ps ++ [st.1], rfl, by have := HKN.out; omega, by rw [HE2.out], by go_num, by go_num, ⟨h7.out.1, by rw [List.length_append, strs_snoc, HSE.out]; exact h7.out.2⟩, HNEXT.out _ HPS.out⟩
          obtain ⟨f0, f1, f2⟩ := facts (s := str st.1) (str_ne e) (str_ne e1) (str_ne e2)
          by_cases h0 : errsOf ps = 0
          · have HE2 : Hid (errsOf (ps ++ [st.1]) = nameErr (str st.1)) := by show _ = _; rw [errsOf_snoc, if_pos h0]; exact if_neg e2
            rw [h0]
            clear e e1 e2 h0
            go_wp2_with fail
            refine (ref_any (str st.1) _).mono ?_
            rintro e w2 ⟨rfl, hb2⟩
            have h2 : Hid (Pl Z w w2 (.slice A ps.length c) ps) := h1.out.next hb2.out
            clear h1 hb2
            go_wp2_with (first | (at_builtin; go_loud (refine app_keep (v := .slice A ps.length c) el22 rfl (.tmp 45) (.tmp 47) rfl rfl h2 #[.string (str st.1)] 1 1 rfl rfl (one_cell _ rfl) (by have := HLEN.out; omega) ?_); intro A7 c7 w7 h7 hk7))
            go_roundg (n + 1 - (k + 1))
            case measure => have := HKN.out; omega
            case rel => exact ⟨k + 1, k + 1, ([], addP st), ps ++ [st.1], rfl, by have := HKN.out; omega, by rw [HE2.out], by go_num, by go_num, ⟨h7.out.1, by rw [List.length_append, strs_snoc]; exact h7.out.2⟩, HNEXT.out _ HPS.out⟩
          · have HE2 : Hid (errsOf (ps ++ [st.1]) = errsOf ps) := by show _ = _; rw [errsOf_snoc, if_neg h0]
            have t0 : (errsOf ps == 0) = false := beq_eq_false_iff_ne.2 h0
            clear e e1 e2 h0
            go_wp2_with (first | (at_builtin; go_loud (refine app_keep (v := .slice A ps.length c) el22 rfl (.tmp 45) (.tmp 47) rfl rfl h1 #[.string (str st.1)] 1 1 rfl rfl (one_cell _ rfl) (by have := HLEN.out; omega) ?_); intro A7 c7 w7 h7 hk7))
            go_roundg (n + 1 - (k + 1))
            case measure => have := HKN.out; omega
            case rel => exact ⟨k + 1, k + 1, ([], addP st), ps ++ [st.1], rfl, by have := HKN.out; omega, by rw [HE2.out], by go_num, by go_num, ⟨h7.out.1, by rw [List.length_append, strs_snoc]; exact h7.out.2⟩, HNEXT.out _ HPS.out⟩
        · have HPI2 := Lib.hid (pi_byte HPI.out.1 hkl hy)
          have t47 : ((l[k].toNat : Int) != 47) = true := by
            rw [bne_iff_ne]
            intro h
            exact hy (by apply UInt8.toNat_inj.1; show l[k].toNat = 47; omega)
          have HLT := Lib.hid hlt
          generalize l[k] = y at *
          clear hy hkl hlt
          go_wp2_with fail
          go_roundg (n + 1 - (k + 1))
          case measure => have := HKN.out; omega
          case rel => exact ⟨k + 1, a, (st.1 ++ [y], st.2), ps, rfl, by have := HKN.out; omega, rfl, rfl, by go_num, h1, .inl ⟨HLT.out, HPI2.out, HPI.out.2⟩⟩
      · have hke : k = n := by omega
        have HNEXT : Hid (∀ ps' : List (List UInt8), ps' = addP st → (k + 1 ≤ n ∧ PI l (k + 1) (k + 1) ([], addP st) ∧ ps' = addP st) ∨ (k + 1 = n + 1 ∧ ps' = partsOf l)) := fun ps' h => .inr ⟨by omega, by rw [h]; exact (pi_end (by have h := HPI.out.1; rw [hke, ← HN.out] at h; exact h)).symm⟩
        have hlti : ¬ ((k : Int) < (n : Int)) := by omega
        clear hke hlt
        go_upto_region 8 with (fail)
        have HLEN : Hid (ps.length ≤ 1023) := by have h := HPI.out.1.len; rw [← HPI.out.2] at h; have := HN.out; have := HL.out; have := HKN.out; show _ ≤ _; omega
        have hcut : S.extract a k = str st.1 := by rw [← HS.out, str_extract, HPI.out.1.cur]
        have HA := Lib.hid HPI.out.1.fk
        go_upto_region 9 with (fail)
        clear hcut
        by_cases e : st.1 = []
        · have HPS : Hid (ps = addP st) := by show _ = _; rw [addP_skip (.inl e)]; exact HPI.out.2
          rw [e, show str [] = ⟨#[]⟩ from rfl]
          clear e
          go_wp2_with fail
          go_roundg (n + 1 - (k + 1))
          case measure => have := HKN.out; omega
          case rel => exact ⟨k + 1, k + 1, ([], addP st), ps, rfl, by have := HKN.out; omega, rfl, by go_num, by go_num, h1, HNEXT.out _ HPS.out⟩
        by_cases e1 : st.1 = [46]
        · have HPS : Hid (ps = addP st) := by show _ = _; rw [addP_skip (.inr e1)]; exact HPI.out.2
          rw [e1, show str [46] = ⟨#[46]⟩ from rfl]
          clear e e1
          go_wp2_with fail
          go_roundg (n + 1 - (k + 1))
          case measure => have := HKN.out; omega
          case rel => exact ⟨k + 1, k + 1, ([], addP st), ps, rfl, by have := HKN.out; omega, rfl, by go_num, by go_num, h1, HNEXT.out _ HPS.out⟩
        have HPS : Hid (ps ++ [st.1] = addP st) := by show _ = _; rw [addP_add (by rintro (h | h); exact e h; exact e1 h), HPI.out.2]
        by_cases e2 : st.1 = [46, 46]
        · have HE2 : Hid (errsOf (ps ++ [st.1]) = errsOf ps) := by
            show _ = _
            rw [errsOf_snoc]
            split
            · rename_i h; rw [h]; exact if_pos e2
            · rfl
          have HSE : Hid (str st.1 = ⟨#[46, 46]⟩) := by rw [e2]; exact rfl
          by_cases h0 : errsOf ps = 0
          · rw [h0, HSE.out]
            have H0 := Lib.hid h0
            clear e e1 e2 h0
            go_wp2_with (first | (at_builtin; go_loud (refine app_keep (v := .slice A ps.length c) el22 rfl (.tmp 45) (.tmp 47) rfl rfl h1 #[.string (⟨#[46, 46]⟩)] 1 1 rfl rfl (one_cell _ rfl) (by have := HLEN.out; omega) ?_); intro A7 c7 w7 h7 hk7))
            go_roundg (n + 1 - (k + 1))
            case measure => have := HKN.out; omega
            case rel => exact ⟨k + 1, k + 1, ([], addP st), ps ++ [st.1], rfl, by have := HKN.out; omega, by rw [HE2.out, H0.out], by go_num, by go_num, ⟨h7.out.1, by rw [List.length_append, strs_snoc, HSE.out]; exact h7.out.2⟩, HNEXT.out _ HPS.out⟩
          · rw [HSE.out]
            have t0 : (errsOf ps == 0) = false := beq_eq_false_iff_ne.2 h0
            clear e e1 e2 h0
            go_wp2_with (first | (at_builtin; go_loud (refine app_keep (v := .slice A ps.length c) el22 rfl (.tmp 45) (.tmp 47) rfl rfl h1 #[.string (⟨#[46, 46]⟩)] 1 1 rfl rfl (one_cell _ rfl) (by have := HLEN.out; omega) ?_); intro A7 c7 w7 h7 hk7))
            go_roundg (n + 1 - (k + 1))
            case measure => have := HKN.out; omega
            case rel => exact ⟨k + 1, k + 1, ([], addP st), ps ++ [st.1], rfl, by have := HKN.out; omega, by rw [HE2.out], by go_num, by go_num, ⟨h7.out.1, by rw [List.length_append, strs_snoc, HSE.out]; exact h7.out.2⟩, HNEXT.out _ HPS.out⟩
        obtain ⟨f0, f1, f2⟩ := facts (s := str st.1) (str_ne e) (str_ne e1) (str_ne e2)
        by_cases h0 : errsOf ps = 0
        · have HE2 : Hid (errsOf (ps ++ [st.1]) = nameErr (str st.1)) := by show _ = _; rw [errsOf_snoc, if_pos h0]; exact if_neg e2
          rw [h0]
          clear e e1 e2 h0
          go_wp2_with fail
          refine (ref_any (str st.1) _).mono ?_
          rintro e w2 ⟨rfl, hb2⟩
          have h2 : Hid (Pl Z w w2 (.slice A ps.length c) ps) := h1.out.next hb2.out
          clear h1 hb2
          go_wp2_with (first | (at_builtin; go_loud (refine app_keep (v := .slice A ps.length c) el22 rfl (.tmp 45) (.tmp 47) rfl rfl h2 #[.string (str st.1)] 1 1 rfl rfl (one_cell _ rfl) (by have := HLEN.out; omega) ?_); intro A7 c7 w7 h7 hk7))
          go_roundg (n + 1 - (k + 1))
          case measure => have := HKN.out; omega
          case rel => exact ⟨k + 1, k + 1, ([], addP st), ps ++ [st.1], rfl, by have := HKN.out; omega, by rw [HE2.out], by go_num, by go_num, ⟨h7.out.1, by rw [List.length_append, strs_snoc]; exact h7.out.2⟩, HNEXT.out _ HPS.out⟩
        · have HE2 : Hid (errsOf (ps ++ [st.1]) = errsOf ps) := by show _ = _; rw [errsOf_snoc, if_neg h0]
          have t0 : (errsOf ps == 0) = false := beq_eq_false_iff_ne.2 h0
          clear e e1 e2 h0
          go_wp2_with (first | (at_builtin; go_loud (refine app_keep (v := .slice A ps.length c) el22 rfl (.tmp 45) (.tmp 47) rfl rfl h1 #[.string (str st.1)] 1 1 rfl rfl (one_cell _ rfl) (by have := HLEN.out; omega) ?_); intro A7 c7 w7 h7 hk7))
          go_roundg (n + 1 - (k + 1))
          case measure => have := HKN.out; omega
          case rel => exact ⟨k + 1, k + 1, ([], addP st), ps ++ [st.1], rfl, by have := HKN.out; omega, by rw [HE2.out], by go_num, by go_num, ⟨h7.out.1, by rw [List.length_append, strs_snoc]; exact h7.out.2⟩, HNEXT.out _ HPS.out⟩
end Go.Proofs.YtcdhkeahcliefaaGreatDoor.Path
