/- The document's parts. -/
import Derived.Test.YtcdhkeahcliefaaGreatDoorPrint33
namespace Go.Proofs.YtcdhkeahcliefaaGreatDoor.RefE
open Go.ChangeShapes Go.WideShapes Go.ChangeAt Go.RowKit
open Go.Proofs.YtcdhkeahcliefaaGreatDoor.Kit Go.Proofs.YtcdhkeahcliefaaGreatDoor.Base Go.Proofs.YtcdhkeahcliefaaGreatDoor.Term Go.Proofs.YtcdhkeahcliefaaGreatDoor.Syn Go.Proofs.YtcdhkeahcliefaaGreatDoor.Gram Go.Proofs.YtcdhkeahcliefaaGreatDoor.TokB Go.Proofs.YtcdhkeahcliefaaGreatDoor.RefA Go.Proofs.YtcdhkeahcliefaaGreatDoor.RefB Go.Proofs.YtcdhkeahcliefaaGreatDoor.RefC Go.Proofs.YtcdhkeahcliefaaGreatDoor.RefD
set_option linter.unusedVariables false

theorem joint_ok {st : List Int} {x : W} {r : List W} {acc : List Wd} (h : x ∈ [wOr, wAnd]) : partsF false st (x :: r) acc = partsF true st r (acc ++ [Wd.mk x 1]) := parts_joint (by simpa using h)
theorem none_ok {st : List Int} {x : W} {r : List W} {acc : List Wd} (h : x ∉ [wOr, wAnd]) (h3 : x ≠ wShut ∨ st = []) : partsF false st (x :: r) acc = .error 191 := parts_other (fun e => h (by simp [e])) (fun e => h (by simp [e])) h3
theorem operand_at (A : Option Addr) (c : Nat) (ws : List W) (i : Nat) (w : World) (hs : Hid (Strs w A (ws.map str))) (hi : i < ws.length) (hn : ws.length ≤ 1024) (hc : ws.length ≤ c) (hw : ∀ x ∈ ws, x.length ≤ 1023) (x : W) (hx : ws[i] = x) (n : Nat) (hnn : ws.length = n) :
    Calls Tryz.prog 42 #[.slice A n c, .int .i64 i] w (OpPost x (ws.drop (i + 1)) w) := by
  subst hx hnn
  exact operand_any A c ws i w hs hi hn hc hw
def pres : List W := [wNot, wHas, wOpen]
theorem pre_iff {x : W} : x ∈ pres ↔ (x = wNot ∨ x = wHas ∨ x = wOpen) := by simp [pres]
theorem parts_want (want : Bool) (st : List Int) (acc : List Wd) : partsF want st [] acc = if want = true ∨ st ≠ [] then .error 191 else .ok acc := by
  rw [partsF.eq_def]
set_option maxRecDepth 100000 in
set_option maxHeartbeats 6400000 in
theorem parts_any (A : Option Addr) (c : Nat) (ws : List W) (w : World) (hs : Hid (Strs w A (ws.map str))) (hn : ws.length ≤ 1024) (hc : ws.length ≤ c) (hw : Hid (∀ x ∈ ws, x.length ≤ 1023)) :
    Calls Tryz.prog 21 #[.slice A ws.length c] w (PartsPost (partsF true [] ws []) w) := by
  obtain ⟨R, hR⟩ : ∃ R, partsF true [] ws [] = R := ⟨_, rfl⟩
  have HR := Lib.hid hR
  rw [hR]
  obtain ⟨n, hn1⟩ : ∃ n, ws.length = n := ⟨_, rfl⟩
  have HN := Lib.hid hn1
  have HN9 : Hid (n ≤ 1024) := by rw [← hn1]; exact hn
  have HCC : Hid (ws.length ≤ c) := hc
  obtain ⟨Z, hZ⟩ : ∃ Z, w.heap.size = Z := ⟨_, rfl⟩
  have HZ := Lib.hid hZ
  rw [hn1]
  have h1 : Hid (Ps Z w w none 0 [] none 0 []) := by rw [← hZ]; exact ⟨Since.refl w, World.ownsRow_nil _ _ _ _, World.ownsRow_nil _ _ _ _⟩
  clear hR hn1 hn hc hZ
  go_enter Tryz.func21, Tryz.ntmps21
  go_wp2_with fail
  go_loopg [4, 5, 6, 7] n (fun g v s b i wr => ∃ (k : Nat) (want : Bool) (st : List Int) (acc : List Wd) (Al : Option Addr) (cl : Nat) (As : Option Addr) (cs : Nat), g = n - k ∧ k ≤ n ∧ v = .slice Al acc.length cl ∧ s = .slice As st.length cs ∧ b = .bool want ∧ i = .int .i64 k ∧
    Hid (Ps Z w wr Al cl acc As cs st) ∧ Hid (partsF want st (ws.drop k) acc = R) ∧ Hid (acc.length ≤ k) ∧ Hid (st.length ≤ 16))
  case atStart => exact ⟨0, true, [], [], none, 0, none, 0, rfl, Nat.zero_le _, rfl, rfl, rfl, rfl, h1, HR, Nat.le_refl _, by show 0 ≤ 16; omega⟩
  case round =>
    obtain ⟨k, want, st, acc, Al, cl, As, cs, rfl, hk, rfl, rfl, rfl, rfl, hp, hr, hal, hst⟩ := hrel
    have HKN := Lib.hid hk
    have k9 : (k : Int) ≤ 1024 := by have := HN9.out; omega
    have k0 : (0 : Int) ≤ (k : Int) := by omega
    have HAL : Hid (acc.length ≤ 1024) := by have := hal.out; have := HN9.out; show _ ≤ _; omega
    by_cases hlt : k < n
    · have hlti : (k : Int) < (n : Int) := by omega
      have HLT := Lib.hid hlt
      have hkl : k < ws.length := by rw [HN.out]; exact hlt
      have HKL := Lib.hid hkl
      obtain ⟨x, hx⟩ : ∃ x, ws[k] = x := ⟨_, rfl⟩
      have HX := Lib.hid (fun (h : k < ws.length) => show ws[k] = x from hx)
      have HDR : Hid (ws.drop k = x :: ws.drop (k + 1)) := by show _ = _; rw [List.drop_eq_getElem_cons hkl]; exact congrArg (fun q => q :: ws.drop (k + 1)) hx
      obtain ⟨ad, hA, hc0⟩ := hs.out k (by simpa using hkl)
      have hc1 : wr.cell? (ad.add k) = some (.string (str x)) := by
        have h0 : w.cell? (ad.add k) = some (.string (str x)) := by rw [← hx]; simp only [List.getElem_map] at hc0; exact hc0
        exact (hp.out.1.1.cell (by rw [← HZ.out]; exact World.block_lt_of_cell? w _ h0)).trans h0
      subst hA
      clear hc0 hx hkl hlt hk
      cases want
      · -- behind a unit
        by_cases hj : x ∈ [wOr, wAnd]
        · have HJ := Lib.hid hj
          have HR2 : Hid (partsF true st (ws.drop (k + 1)) (acc ++ [Wd.mk x 1]) = R) := by show _ = _; rw [← hr.out, HDR.out, joint_ok hj]
          clear hj
          go_wp2_with fail
          refine (lit_yes x [wOr, wAnd] HJ.out (by decide) wr).mono ?_
          rintro e w2 ⟨rfl, rfl⟩
          go_upto_region 20 with (fail)
          refine gen_world (fun w' => Hid (Ps Z w w' Al cl acc As cs st)) (hp.out.next ((Below.refl _ _).alloc (Nat.le_refl _) _)) ?_
          clear hc1 hp
          rintro w2 hp2
          go_wp2_with (first | (at_builtin; go_loud (refine app_keep (v := .slice Al acc.length cl) el34 rfl (.tmp 62) (.tmp 65) rfl rfl (Ps.words hp2) #[.string (str x), .int .i64 1] 1 1 rfl rfl (one_word x 1) (by have := HAL.out; omega) ?_); intro A7 c7 w7 h7 hk7))
          go_roundg (n - (k + 1))
          case measure => have := HLT.out; omega
          case rel => exact ⟨k + 1, true, st, acc ++ [Wd.mk x 1], A7, c7, As, cs, rfl, HLT.out, by rw [List.length_append]; rfl, rfl, rfl, by go_num, hp2.out.pushW h7.out hk7.out, HR2, by have := hal.out; show _ ≤ _; rw [List.length_append]; exact Nat.succ_le_succ this, hst⟩
        · have HJ := Lib.hid hj
          by_cases hsh : x = wShut
          · subst hsh
            cases st with
            | nil =>
              have HR2 : Hid (R = .error 191) := by show _ = _; rw [← hr.out, HDR.out]; exact none_ok hj (.inr rfl)
              rw [show ([] : List Int).length = 0 from rfl]
              rw [show str wShut = ⟨#[41]⟩ from rfl] at hc1
              clear hj
              go_wp2_with fail
              refine (lit_no wShut [wOr, wAnd] HJ.out (by decide) wr).mono ?_
              rintro e w2 ⟨rfl, rfl⟩
              go_wp2_with fail
              go_ret2
              exact .inl ⟨_, HR2.out, rfl, by rw [HZ.out]; exact hp.out.1.1.alloc hp.out.1.2 _⟩
            | cons q st =>
              have HR2 : Hid (partsF false (unaryF st) (ws.drop (k + 1)) (acc ++ [Wd.mk wShut 4]) = R) := by show _ = _; rw [← hr.out, HDR.out, parts_shut]
              obtain ⟨ad2, hA2, _, hcs⟩ := hp.out.2.2.top
              have HA2 := Lib.hid hA2
              have HST : Hid (st.length ≤ 15) := by have := hst.out; simp at this; show _ ≤ _; omega
              obtain ⟨m, hm⟩ : ∃ m, st.length = m := ⟨_, rfl⟩
              have HM := Lib.hid hm
              rw [show (q :: st).length = st.length + 1 from rfl, hm]
              have m9 : (m : Int) ≤ 15 := by have := HST.out; omega
              have m0 : (0 : Int) < (m : Int) + 1 := by omega
              have m1 : (0 : Int) ≤ (m : Int) := by omega
              have W2 : (m : Int) + 1 - 1 = (m : Int) := by omega
              have WW : IntKind.i64.wrap (m : Int) = (m : Int) := IntWalk.i64_in _ (by omega)
              have em2 : (m : Int) ≤ (cs : Int) := by omega
              have em3 : (m : Int) ≤ (m : Int) + 1 := by omega
              rw [show str wShut = ⟨#[41]⟩ from rfl] at hc1
              clear hj hm hcs
              subst hA2
              go_wp2_with fail
              refine (lit_no wShut [wOr, wAnd] HJ.out (by decide) wr).mono ?_
              rintro e w2 ⟨rfl, rfl⟩
              go_upto_region 23 with (fail)
              refine gen_world (fun w' => Hid (Ps Z w w' Al cl acc (some ad2) cs (q :: st))) (hp.out.next ((Below.refl _ _).alloc (Nat.le_refl _) _)) ?_
              clear hc1 hp
              rintro w2 hp2
              go_upto_region 24 with (first | (at_builtin; go_loud (refine app_keep (v := .slice Al acc.length cl) el34 rfl (.tmp 79) (.tmp 82) rfl rfl (Ps.words hp2) #[.string ⟨#[41]⟩, .int .i64 4] 1 1 rfl rfl (one_word wShut 4) (by have := HAL.out; omega) ?_); intro A7 c7 w7 h7 hk7))
              have hp3 : Hid (Ps Z w w7 A7 c7 (acc ++ [Wd.mk wShut 4]) (some ad2) cs (q :: st)) := hp2.out.pushW h7.out hk7.out
              clear hp2 h7 hk7
              refine gen_world (fun w' => Hid (Ps Z w w' A7 c7 (acc ++ [Wd.mk wShut 4]) (some ad2) cs (q :: st))) hp3 ?_
              clear hp3
              rintro w3 hp3
              have hU := Lib.hid (unary_any Z (some ad2) cs st w3 hp3.out.2.2.pop (by have := HST.out; omega))
              rw [HM.out] at hU
              go_wp2_with fail
              refine hU.out.mono ?_
              rintro e w4 ⟨rfl, hS4, rfl⟩
              go_wp2_with fail
              go_roundg (n - (k + 1))
              case measure => have := HLT.out; omega
              case rel => exact ⟨k + 1, false, unaryF st, acc ++ [Wd.mk wShut 4], A7, c7, some ad2, cs, rfl, HLT.out, by rw [List.length_append]; rfl, rfl, rfl, by go_num, hp3.out.cut hS4.out, HR2, by have := hal.out; show _ ≤ _; rw [List.length_append]; exact Nat.succ_le_succ this, by have h1 := unary_len st; have := HST.out; show _ ≤ _; omega⟩
          · have HR2 : Hid (R = .error 191) := by show _ = _; rw [← hr.out, HDR.out]; exact none_ok hj (.inl hsh)
            have hne := ne_list hsh
            rw [show wShut = [41] from rfl] at hne
            clear hj hsh
            go_wp2_with fail
            refine (lit_no x [wOr, wAnd] HJ.out (by decide) wr).mono ?_
            rintro e w2 ⟨rfl, rfl⟩
            go_wp2_with fail
            go_ret2
            exact .inl ⟨_, HR2.out, rfl, by rw [HZ.out]; exact hp.out.1.1.alloc hp.out.1.2 _⟩
      · -- a unit must come
        by_cases hj : x ∈ pres
        · have HJ := Lib.hid hj
          by_cases h16 : st.length = 16
          · have HR2 : Hid (R = .error 192) := by show _ = _; rw [← hr.out, HDR.out]; exact parts_deep (pre_iff.1 hj) h16
            rw [h16]
            clear hj h16
            go_wp2_with fail
            refine (lit_yes x pres HJ.out (by decide) wr).mono ?_
            rintro e w2 ⟨rfl, rfl⟩
            go_wp2_with fail
            go_ret2
            exact .inl ⟨_, HR2.out, rfl, by rw [HZ.out]; exact hp.out.1.1.alloc hp.out.1.2 _⟩
          · have hr2 := parts_pre (acc := acc) (r := ws.drop (k + 1)) (pre_iff.1 hj) h16
            have HST : Hid (st.length ≤ 15) := by have := hst.out; show _ ≤ _; omega
            have s16 : ((st.length : Int) == 16) = false := beq_eq_false_iff_ne.2 (by omega)
            clear hj h16
            by_cases ho : x = wOpen
            · have HR2 : Hid (partsF true (3 :: st) (ws.drop (k + 1)) (acc ++ [Wd.mk x 3]) = R) := by show _ = _; rw [← hr.out, HDR.out, hr2, if_pos ho]
              subst ho
              rw [show str wOpen = ⟨#[40]⟩ from rfl] at hc1
              clear hr2
              go_wp2_with fail
              refine (lit_yes wOpen pres HJ.out (by decide) wr).mono ?_
              rintro e w2 ⟨rfl, rfl⟩
              go_upto_region 33 with (fail)
              clear s16
              refine gen_world (fun w' => Hid (Ps Z w w' Al cl acc As cs st)) (hp.out.next ((Below.refl _ _).alloc (Nat.le_refl _) _)) ?_
              clear hc1 hp
              rintro w2 hp2
              go_upto_region 34 with (first | (at_builtin; go_loud (refine app_keep (v := .slice Al acc.length cl) el34 rfl (.tmp 102) (.tmp 106) rfl rfl (Ps.words hp2) #[.string ⟨#[40]⟩, .int .i64 3] 1 1 rfl rfl (one_word wOpen 3) (by have := HAL.out; omega) ?_); intro A7 c7 w7 h7 hk7))
              have hp3 : Hid (Ps Z w w7 A7 c7 (acc ++ [Wd.mk wOpen 3]) As cs st) := hp2.out.pushW h7.out hk7.out
              clear hp2 h7 hk7
              refine gen_world (fun w' => Hid (Ps Z w w' A7 c7 (acc ++ [Wd.mk wOpen 3]) As cs st)) hp3 ?_
              clear hp3
              rintro w3 hp3
              go_wp2_with (first | (at_builtin; go_loud (refine app_keep (v := .slice As st.length cs) el106 rfl (.tmp 108) (.tmp 110) rfl rfl (Ps.stack hp3) #[.int .i64 3] 1 1 rfl rfl (one_cell _ rfl) (by have := HST.out; omega) ?_); intro A8 c8 w8 h8 hk8))
              go_roundg (n - (k + 1))
              case measure => have := HLT.out; omega
              case rel => exact ⟨k + 1, true, 3 :: st, acc ++ [Wd.mk wOpen 3], A7, c7, A8, c8, rfl, HLT.out, by rw [List.length_append]; rfl, rfl, rfl, by go_num, hp3.out.pushS h8.out hk8.out, HR2, by have := hal.out; show _ ≤ _; rw [List.length_append]; exact Nat.succ_le_succ this, by have := HST.out; show st.length + 1 ≤ 16; omega⟩
            · have HR2 : Hid (partsF true (2 :: st) (ws.drop (k + 1)) (acc ++ [Wd.mk x 2]) = R) := by show _ = _; rw [← hr.out, HDR.out, hr2, if_neg ho]
              have hne := ne_list ho
              rw [show wOpen = [40] from rfl] at hne
              clear hr2 ho
              go_wp2_with fail
              refine (lit_yes x pres HJ.out (by decide) wr).mono ?_
              rintro e w2 ⟨rfl, rfl⟩
              go_upto_region 33 with (fail)
              clear s16 hne
              refine gen_world (fun w' => Hid (Ps Z w w' Al cl acc As cs st)) (hp.out.next ((Below.refl _ _).alloc (Nat.le_refl _) _)) ?_
              clear hc1 hp
              rintro w2 hp2
              go_upto_region 34 with (first | (at_builtin; go_loud (refine app_keep (v := .slice Al acc.length cl) el34 rfl (.tmp 102) (.tmp 106) rfl rfl (Ps.words hp2) #[.string (str x), .int .i64 2] 1 1 rfl rfl (one_word x 2) (by have := HAL.out; omega) ?_); intro A7 c7 w7 h7 hk7))
              have hp3 : Hid (Ps Z w w7 A7 c7 (acc ++ [Wd.mk x 2]) As cs st) := hp2.out.pushW h7.out hk7.out
              clear hp2 h7 hk7
              refine gen_world (fun w' => Hid (Ps Z w w' A7 c7 (acc ++ [Wd.mk x 2]) As cs st)) hp3 ?_
              clear hp3
              rintro w3 hp3
              go_wp2_with (first | (at_builtin; go_loud (refine app_keep (v := .slice As st.length cs) el106 rfl (.tmp 108) (.tmp 110) rfl rfl (Ps.stack hp3) #[.int .i64 2] 1 1 rfl rfl (one_cell _ rfl) (by have := HST.out; omega) ?_); intro A8 c8 w8 h8 hk8))
              go_roundg (n - (k + 1))
              case measure => have := HLT.out; omega
              case rel => exact ⟨k + 1, true, 2 :: st, acc ++ [Wd.mk x 2], A7, c7, A8, c8, rfl, HLT.out, by rw [List.length_append]; rfl, rfl, rfl, by go_num, hp3.out.pushS h8.out hk8.out, HR2, by have := hal.out; show _ ≤ _; rw [List.length_append]; exact Nat.succ_le_succ this, by have := HST.out; show st.length + 1 ≤ 16; omega⟩
        · have HJ := Lib.hid hj
          obtain ⟨lf, hlf⟩ : ∃ lf, leaf x (ws.drop (k + 1)) = lf := ⟨_, rfl⟩
          have HLF := Lib.hid hlf
          have HOP := Lib.hid (fun w2 (hp2 : Hid (Ps Z w w2 Al cl acc As cs st)) => operand_at (some ad) c ws k w2 (hs.out.below (by rw [HZ.out]; exact hp2.out.1.1)) HKL.out (by rw [HN.out]; exact HN9.out) HCC.out hw.out x (HX.out HKL.out) n HN.out)
          clear hj hlf
          go_wp2_with fail
          refine (lit_no x pres HJ.out (by decide) wr).mono ?_
          rintro e w2 ⟨rfl, rfl⟩
          go_upto_region 8 with (fail)
          refine gen_world (fun w' => Hid (Ps Z w w' Al cl acc As cs st)) (hp.out.next ((Below.refl _ _).alloc (Nat.le_refl _) _)) ?_
          clear hc1 hp
          rintro w2 hp2
          go_wp2_with fail
          refine (HOP.out w2 hp2).mono ?_
          clear HOP
          rintro e w3 ⟨hb3, (⟨t, kk, hle, rfl⟩ | ⟨er, mm, hle, he0, rfl⟩)⟩
          · have hp3 : Hid (Ps Z w w3 Al cl acc As cs st) := hp2.out.next hb3.out
            have HKK := Lib.hid (leaf_take hle)
            have HKK2 : Hid (kk ≤ n - (k + 1)) := by have := HKK.out.1; rw [List.length_drop, HN.out] at this; exact this
            have HR2 : Hid (partsF false (unaryF st) ((ws.drop (k + 1)).drop kk) (acc ++ wordsOf x ((ws.drop (k + 1)).take kk)) = R) := by
              show _ = _
              rw [← hr.out, HDR.out]
              exact (parts_leaf (fun h => HJ.out (pre_iff.2 h)) hle).symm
            clear hle hb3 hp2
            go_upto_region 11 with (fail)
            have hp2 := hp3
            clear hp3
            go_wp2_with (first | (at_builtin; go_loud (refine app_keep (v := .slice Al acc.length cl) el34 rfl (.tmp 32) (.tmp 35) rfl rfl (Ps.words hp2) #[.string (str x), .int .i64 5] 1 1 rfl rfl (one_word x 5) (by have := HAL.out; omega) ?_); intro A7 c7 w7 h7 hk7))
            have hp3 : Hid (Ps Z w w7 A7 c7 (acc ++ [Wd.mk x 5]) As cs st) := hp2.out.pushW h7.out hk7.out
            clear hp2 h7 hk7
            have kk9 : (kk : Int) ≤ 1024 := by have := HKK2.out; have := HN9.out; omega
            have kk0 : (0 : Int) ≤ (kk : Int) := by omega
            go_loopg [4, 7, 12] kk (fun g v i q wr => ∃ (j : Nat) (A8 : Option Addr) (c8 : Nat) (ac : List Wd), g = kk - j ∧ j ≤ kk ∧ v = .slice A8 ac.length c8 ∧ i = .int .i64 ((k + j : Nat) : Int) ∧ q = .int .i64 j ∧ Hid (ac = acc ++ wordsOf x ((ws.drop (k + 1)).take j)) ∧ Hid (Ps Z w wr A8 c8 ac As cs st))
            case atStart => exact ⟨0, A7, c7, acc ++ [Wd.mk x 5], rfl, Nat.zero_le _, by rw [List.length_append]; rfl, rfl, rfl, rfl, hp3⟩
            case round =>
              obtain ⟨j, A8, c8, ac, rfl, hj, rfl, rfl, rfl, hac, hp4⟩ := hrel
              have HJK := Lib.hid hj
              have j9 : (j : Int) ≤ 1024 := by omega
              have j0 : (0 : Int) ≤ (j : Int) := by omega
              by_cases hjl : j < kk
              · have hji : (j : Int) < (kk : Int) := by omega
                have HJL := Lib.hid hjl
                have HKJ : Hid (k + j + 1 < n) := by have := HKK2.out; show _ < _; omega
                have hkj : k + j + 1 < ws.length := by rw [HN.out]; exact HKJ.out
                obtain ⟨y, hy⟩ : ∃ y, ws[k + j + 1] = y := ⟨_, rfl⟩
                have HTK : Hid (wordsOf x ((ws.drop (k + 1)).take (j + 1)) = wordsOf x ((ws.drop (k + 1)).take j) ++ [⟨y, 6⟩]) := by
                  show _ = _
                  rw [words_take (show j < (ws.drop (k + 1)).length from by rw [List.length_drop]; omega), List.getElem_drop]
                  congr 3
                  rw [← hy]
                  congr 1
                  omega
                obtain ⟨ad3, hA3, hc3⟩ := hs.out (k + j + 1) (by simpa using hkj)
                cases hA3
                have hc4 : wr.cell? (ad.add (k + j + 1)) = some (.string (str y)) := by
                  have h0 : w.cell? (ad.add (k + j + 1)) = some (.string (str y)) := by rw [← hy]; simp only [List.getElem_map] at hc3; exact hc3
                  exact (hp4.out.1.1.cell (by rw [← HZ.out]; exact World.block_lt_of_cell? w _ h0)).trans h0
                have hc5 : wr.cell? ⟨ad.block, ad.off + (k + j + 1), none⟩ = some (.string (str y)) := by rw [← add_lit]; exact hc4
                have HACL : Hid (ac.length ≤ 2048) := by
                  have h1 := HAL.out
                  rw [hac.out, List.length_append]
                  unfold wordsOf
                  have h2 := HN9.out
                  have h3 := HKJ.out
                  show _ ≤ _
                  simp only [List.length_cons, List.length_map, List.length_take]
                  omega
                have kj9 : (k : Int) + (j : Int) + 1 ≤ 1024 := by have := HKJ.out; have := HN9.out; omega
                have kjn : (k : Int) + (j : Int) + 1 < (n : Int) := by have := HKJ.out; omega
                have kj0 : (0 : Int) ≤ (k : Int) + (j : Int) + 1 := by omega
                clear hc3 hy hkj hjl hj
                go_wp2_with (first | (at_builtin; go_loud (refine app_keep (v := .slice A8 ac.length c8) el34 rfl (.tmp 44) (.tmp 50) rfl rfl (Ps.words hp4) #[.string (str y), .int .i64 6] 1 1 rfl rfl (one_word y 6) (by have := HACL.out; omega) ?_); intro A9 c9 w9 h9 hk9))
                go_roundg (kk - (j + 1))
                case measure => have := HJL.out; omega
                case rel => exact ⟨j + 1, A9, c9, ac ++ [Wd.mk y 6], rfl, HJL.out, by rw [List.length_append]; rfl, by go_num, by go_num, by show _ = _; rw [HTK.out, ← List.append_assoc, ← hac.out], hp4.out.pushW h9.out hk9.out⟩
              · have hji : ¬ ((j : Int) < (kk : Int)) := by omega
                obtain rfl : j = kk := by omega
                have HST : Hid (st.length ≤ 16) := hst
                have hU := Lib.hid (unary_any Z As cs st wr hp4.out.2.2 (by have := HST.out; omega))
                have HKM : Hid (k + j + 1 ≤ n) := by have := HKK2.out; have := HLT.out; show _ ≤ _; omega
                have HR3 : Hid (partsF false (unaryF st) (ws.drop (k + j + 1)) ac = R) := by
                  show _ = _
                  rw [hac.out, ← HR2.out, List.drop_drop, show k + 1 + j = k + j + 1 from by omega]
                have HACL : Hid (ac.length ≤ k + j + 1) := by
                  have h1 := hal.out
                  rw [hac.out, List.length_append]
                  unfold wordsOf
                  show _ ≤ _
                  simp only [List.length_cons, List.length_map, List.length_take]
                  omega
                clear hjl hj
                go_wp2_with fail
                refine hU.out.mono ?_
                rintro e w4 ⟨rfl, hS4, rfl⟩
                go_wp2_with fail
                go_roundg (n - (k + j + 1))
                case measure => have := HKM.out; omega
                case rel => exact ⟨k + j + 1, false, unaryF st, ac, A8, c8, As, cs, rfl, HKM.out, rfl, rfl, rfl, by go_num, hp4.out.cut hS4.out, HR3, HACL, by have h1 := unary_len st; have := HST.out; show _ ≤ _; omega⟩
          · have HR2 : Hid (R = .error er) := by
              show _ = _
              rw [← hr.out, HDR.out]
              exact parts_bad (fun h => HJ.out (pre_iff.2 h)) hle
            have t0 : (er != 0) = true := by rw [bne_iff_ne]; exact he0
            have HB : Hid (Below Z w w3) := (hp2.out.next hb3.out).1.1
            clear hle he0
            go_wp2_with fail
            go_ret2
            exact .inl ⟨_, HR2.out, rfl, by rw [HZ.out]; exact HB⟩
    · have hlti : ¬ ((k : Int) < (n : Int)) := by omega
      have HRN : Hid (R = if want = true ∨ st ≠ [] then .error 191 else .ok acc) := by
        show _ = _
        rw [← hr.out, List.drop_eq_nil_of_le (by rw [HN.out]; omega), parts_want]
      clear hlt hk
      cases want
      · cases st with
        | nil =>
          have HR2 : Hid (R = .ok acc) := by show _ = _; rw [HRN.out]; exact if_neg (by simp)
          rw [show ([] : List Int).length = 0 from rfl]
          go_wp2_with fail
          go_ret2
          exact .inr ⟨_, _, _, HR2.out, rfl, by rw [HZ.out]; exact hp.out.1.1, hp.out.done⟩
        | cons q st =>
          have HR2 : Hid (R = .error 191) := by show _ = _; rw [HRN.out]; exact if_pos (.inr (by simp))
          rw [show (q :: st).length = st.length + 1 from rfl]
          have s0 : (0 : Int) < (st.length : Int) + 1 := by omega
          go_wp2_with fail
          go_ret2
          exact .inl ⟨_, HR2.out, rfl, by rw [HZ.out]; exact hp.out.1.1⟩
      · have HR2 : Hid (R = .error 191) := by show _ = _; rw [HRN.out]; exact if_pos (.inl rfl)
        go_wp2_with fail
        go_ret2
        exact .inl ⟨_, HR2.out, rfl, by rw [HZ.out]; exact hp.out.1.1⟩
end Go.Proofs.YtcdhkeahcliefaaGreatDoor.RefE
