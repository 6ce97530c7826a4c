/- The program's words of a line: Words. -/
import Derived.Test.YtcdhkeahcliefaaGreatDoorPrint09
import Derived.Test.YtcdhkeahcliefaaGreatDoorPrint23
import Derived.Lib.OthersKept
import Derived.WalkMore
import Derived.Deep.CutBlock
namespace Go.Proofs.YtcdhkeahcliefaaGreatDoor.LexG
open Go.ChangeShapes Go.WideShapes Go.ChangeAt Go.RowKit
open Go.Proofs.YtcdhkeahcliefaaGreatDoor.Kit Go.Proofs.YtcdhkeahcliefaaGreatDoor.Base Go.Proofs.YtcdhkeahcliefaaGreatDoor.Bld Go.Proofs.YtcdhkeahcliefaaGreatDoor.Lex Go.Proofs.YtcdhkeahcliefaaGreatDoor.LexB Go.Proofs.YtcdhkeahcliefaaGreatDoor.LexF Go.Proofs.YtcdhkeahcliefaaGreatDoor.Runes Go.Proofs.YtcdhkeahcliefaaGreatDoor.LexR
set_option linter.unusedVariables false

theorem start_rm (w : World) (S : ByteArray) : Rm ⟨w.heap.size, w.heap.size + 1, S, 0⟩ w.heap.size w (((w.alloc (.cells #[.int .i64 0, .slice none 0 0, .slice none 0 0, .int .i64 0] 95))).alloc (.stringIter S 0)) lx0 := by
  have hb := (Blk.new w #[.int .i64 0, .slice none 0 0, .slice none 0 0, .int .i64 0] 95).alloc (.stringIter S 0)
  have h1 : Since w.heap.size w (((w.alloc (.cells #[.int .i64 0, .slice none 0 0, .slice none 0 0, .int .i64 0] 95))).alloc (.stringIter S 0)) := ((Since.refl w).alloc _).alloc _
  refine ⟨.slice none 0 0, .slice none 0 0, ⟨h1, ?_⟩, Nat.le_refl _, hb, ⟨rfl, .inl ⟨rfl, rfl⟩⟩, ⟨rfl, .inl ⟨rfl, rfl⟩⟩⟩
  show ((w.alloc _).heap.push _)[w.heap.size + 1]? = _
  have e : (w.alloc (.cells #[.int .i64 0, .slice none 0 0, .slice none 0 0, .int .i64 0] 95)).heap.size = w.heap.size + 1 := by simp
  rw [← e, Array.getElem?_push_size]
theorem Rm.iter {z k i j P : Nat} {S : ByteArray} {w w0 : World} {s : Lx} (h : Rm ⟨z, k, S, i⟩ P w0 w s) (hz : z ≤ k) : Rm ⟨z, k, S, j⟩ P w0 (w.iterAt k S j) s := by
  obtain ⟨vw, vs, h1, h2, h3, h4, h5⟩ := h
  have hk : ∀ (b : Nat) (o : Obj), o ≠ .stringIter S i → w.heap[b]? = some o → (w.iterAt k S j).heap[b]? = some o := fun b o hne hb => by
    have e : k ≠ b := fun e => by
      subst e
      have h := h1.2
      rw [show w.heap[k]? = some (.stringIter S i) from h] at hb
      exact hne (Option.some.inj hb).symm
    simp only [World.iterAt]
    rw [Array.getElem?_setIfInBounds_ne e]
    exact hb
  have hown : ∀ {e size n : Nat} {v : Value} {xs : List Value}, w.ownsRow z e size v n xs → (w.iterAt k S j).ownsRow z e size v n xs := fun {e size n v xs} h => by
    refine ⟨h.1, ?_⟩
    rcases h.2 with h0 | ⟨g, cap, cur, hv, hb, hg, r⟩
    · exact .inl h0
    · exact .inr ⟨g, cap, cur, hv, hb, hk g _ (fun h => by cases h) hg, r⟩
  refine ⟨vw, vs, ⟨⟨h1.1.1.trans ⟨rfl, rfl, rfl, by simp [World.iterAt], fun b hb => ?_⟩, ?_⟩, ?_⟩, h2, hk P _ (fun h => by cases h) h3, hown h4, hown h5⟩
  · simp only [World.iterAt]
    rw [Array.getElem?_setIfInBounds_ne (by have : b < z := hb; omega)]
  · have := h1.1.2
    simp only [World.iterAt, Array.size_setIfInBounds]
    exact this
  · exact Lib.iterAt_heap w k S i j h1.2

open Go.Proofs.YtcdhkeahcliefaaGreatDoor.LexE (WordsPost words_strs lexed_end lexed_ok lexed_bad lexed_in pos_run)
set_option maxRecDepth 100000 in
set_option maxHeartbeats 6400000 in
theorem words_any (l : List UInt8) (w : World) (hl : l.length ≤ 1023) (hT : Hid (Lib.Utf8Tabs 0 1 w)) : Calls Tryz.prog 18 #[.string (str l)] w (WordsPost l w) := by
  have HL := Lib.hid hl
  have hsz : (str l).size = l.length := str_size l
  have hsz1 : decide ((65536 : Int) < ((str l).size : Int)) = false := decide_eq_false (by omega)
  obtain ⟨S, hS⟩ : ∃ S, str l = S := ⟨_, rfl⟩
  have HS := Lib.hid hS
  obtain ⟨n, hn⟩ : ∃ n, S.size = n := ⟨_, rfl⟩
  have HN : Hid (l.length = n) := by rw [← hn, ← hS, hsz]; exact rfl
  have HNS := Lib.hid hn
  rw [hS] at hsz1
  rw [hn] at hsz1
  obtain ⟨Z, hZ⟩ : ∃ Z, w.heap.size = Z := ⟨_, rfl⟩
  have HZ := Lib.hid hZ
  rw [hS]
  clear hsz hS hl
  go_enter Tryz.func18, Tryz.ntmps18
  go_wp2_with fail
  go_step3
  go_wp2_with fail
  go_step3
  go_wp2_with fail
  clear hn hsz1 hZ
  refine gen_world (fun w' => Hid (Rm ⟨Z, Z + 1, S, 0⟩ Z w w' lx0)) ?_ ?_
  · have h := start_rm w S
    rw [HZ.out] at h
    exact h
  rintro w1 h1
  go_loopg [] n (fun g wr => ∃ (k : Nat), g = n - k ∧ k ≤ n ∧ Hid (Rm ⟨Z, Z + 1, S, k⟩ Z w wr (runS lx0 (l.take k))) ∧ Hid ((runS lx0 (l.take k)).bad = false ∧ (runS lx0 (l.take k)).pos ≤ 6))
  case atStart => exact ⟨0, rfl, Nat.zero_le _, h1, rfl, Nat.zero_le _⟩
  case round =>
    clear h1 w1
    obtain ⟨k, rfl, hk, h1, hpb⟩ := hrel
    by_cases hlt : k < n
    · have hkl : k < l.length := by rw [HN.out]; exact hlt
      obtain ⟨c, q, own, R⟩ := ru_ex l k hkl
      have HR := Lib.hid R
      have hik : wr.heap[Z + 1]? = some (.stringIter (str l) k) := by
        obtain ⟨vw, vs, h⟩ := h1.out
        have := h.1.2
        rw [HS.out]
        exact this
      have hnx : (Instr.next (.pointer (some ⟨Z + 1, 0, none⟩)) true 0).run Tryz.prog wr = .ok (.tuple #[.bool true, .int .i64 k, .int .i32 c]) (wr.iterAt (Z + 1) S (k + q)) := by
        have h := ru_next (ty := 0) R hik
        rw [HS.out] at h
        exact h
      have hq := R.fit
      have hq1 := R.pos
      have HLT := Lib.hid hlt
      clear hik R hkl
      go_upto_region 6 with (fail)
      refine gen_world (fun w' => Hid (Rm ⟨Z, Z + 1, S, k + q⟩ Z w w' (runS lx0 (l.take k)))) ?_ ?_
      · exact Rm.iter h1.out (Nat.le_succ Z)
      rintro wz hz
      clear hnx h1
      have hsi := hz.out.since
      have hdec := ru_dec HR.out (w := wz) (Utf8Tabs_below hT.out (by rw [HZ.out]; exact hsi.1.1))
      rw [HS.out] at hdec
      have HD := Lib.hid hdec
      have hq9 : k + q ≤ n := by rw [← HN.out]; exact hq
      have HKQ := Lib.hid hq9
      have hkn : (k : Int) ≤ (S.size : Int) := by rw [HNS.out]; omega
      have hk0 : (0 : Int) ≤ (k : Int) := by omega
      have W : IntKind.i64.wrap ((k : Int) + (q : Int)) = (k : Int) + (q : Int) := IntWalk.i64_in _ (by have := HL.out; have := HN.out; omega)
      have hq2 : (k : Int) ≤ (k : Int) + (q : Int) := by omega
      have hq3 : (k : Int) + (q : Int) ≤ (S.size : Int) := by rw [HNS.out]; omega
      have hq4 : (0 : Int) ≤ (k : Int) + (q : Int) := by omega
      have htn : ((k : Int) + (q : Int)).toNat = k + q := by omega
      clear hdec hsi hq hq1 hlt
      go_wp2_with fail
      refine HD.out.mono ?_
      rintro e w2 ⟨rfl, hb2⟩
      have h2 : Hid (Rm ⟨Z, Z + 1, S, k + q⟩ Z w w2 (runS lx0 (l.take k))) := hz.out.next hb2.out
      clear hz hb2
      go_upto_region 9 with (fail)
      rw [show S.extract k (k + q) = str own from by rw [← HS.out]; exact HR.out.sub]
      have HNX : Hid (runS lx0 (l.take (k + q)) = runS (runS lx0 (l.take k)) own) := by
        show _ = _
        rw [HR.out.app, runS_append]
      have HBAD : Hid ((runS (runS lx0 (l.take k)) own).bad = true → lexed l = none) := fun h => by
        have e := runS_append lx0 (l.take (k + q)) (l.drop (k + q))
        rw [List.take_append_drop, HNX.out, runS_bad h] at e
        exact lexed_bad (by rw [e]; exact h)
      have HCOM : Hid ((∀ r, runS (runS lx0 (l.take k)) (own ++ r) = { runS lx0 (l.take k) with pos := 7 }) → lexed l = some (runS lx0 (l.take k)).words) := fun h => by
        have e := runS_append lx0 (l.take k) (own ++ l.drop (k + q))
        rw [← List.append_assoc, ← HR.out.app, List.take_append_drop, h] at e
        have := lexed_ok (l := l) (by rw [e]; exact .inr (.inr rfl)) (by rw [e]; exact hpb.out.1)
        rw [this, e]
      have HSM := Lib.hid (show Sm (runS lx0 (l.take k)) from by
        have h := (small_run (l.take k)).1
        have := HL.out
        rw [List.length_take] at h
        unfold Sm
        omega)
      have HG := Lib.hid (fun h5 : (runS lx0 (l.take k)).pos = 5 => (small_run (l.take k)).2 h5 hpb.out.1)
      have HB : Hid ((runS lx0 (l.take k)).bad = false) := hpb.out.1
      have hp6 := hpb.out.2
      have HOWN := Lib.hid HR.out.isOwn
      have HSZ : Hid ((str own).size = own.length) := str_size own
      have HO4 : Hid (own.length ≤ 4) := by have := HR.out.len; have := HR.out.q4; show _ ≤ _; omega
      have HC9 := Lib.hid HR.out.c9
      have HQ1 := Lib.hid HR.out.pos
      clear hpb HR HD htn hq4 hq3 hq2 W hkn hk0
      generalize runS lx0 (l.take k) = s at *
      obtain ⟨vw2, vs2, hv2⟩ := h2.out
      have HV2 := Lib.hid hv2
      clear hv2
      have hp7 : s.pos = 0 ∨ s.pos = 1 ∨ s.pos = 2 ∨ s.pos = 3 ∨ s.pos = 4 ∨ s.pos = 5 ∨ s.pos = 6 := by omega
      clear hp6
      rcases hp7 with hp | hp | hp | hp | hp | hp | hp
      · have c0 : w2.cell? ⟨Z, 0, none⟩ = some (.int .i64 0) := by rw [HV2.out.2.2.1.cell 0, hp]; rfl
        have g0 := HV2.out.2.2.1.frozen 0
        have HP := Lib.hid hp
        clear hp
        have hbt := between_run HP.out HB.out HOWN.out
        by_cases h35 : c = 35
        · rw [if_pos h35] at hbt
          have HX := Lib.hid (HCOM.out hbt)
          have e35 : ((c : Int) == 35) = true := eqt h35
          clear hbt h35
          obtain ⟨A, cc, rfl, hst⟩ := words_strs HV2.out.2.2.2.2
          have c2 : w2.cell? ⟨Z, 2, none⟩ = some (.slice A s.words.length cc) := (HV2.out.2.2.1.cell 2).trans rfl
          have g2 := HV2.out.2.2.1.frozen 2
          have HST := Lib.hid hst
          clear hst
          go_wp2_with fail
          go_ret2
          exact .inr ⟨_, _, _, HX.out, rfl, by rw [HZ.out]; exact HV2.out.1.1.1, HST⟩
        have e35 : ((c : Int) == 35) = false := eqf h35
        rw [if_neg h35] at hbt
        by_cases h34 : c = 34
        · rw [if_pos h34] at hbt
          have HBR := Lib.hid hbt
          have e34 : ((c : Int) == 34) = true := eqt h34
          clear hbt h35 h34
          go_wp2_with fail
          go_roundg (n - (k + q))
          case measure => have := HKQ.out; have := HQ1.out; omega
          case rel => exact ⟨k + q, rfl, HKQ.out, by rw [HNX.out, HBR.out]; exact ⟨_, _, HV2.out.setPos 2⟩, by rw [HNX.out, HBR.out]; exact ⟨HB.out, by show (2 : Nat) ≤ 6; decide⟩⟩
        have e34 : ((c : Int) == 34) = false := eqf h34
        rw [if_neg h34] at hbt
        cases hbl : isBlank c
        · rw [if_neg (by rw [hbl]; simp)] at hbt
          have HT := Lib.hid hbt
          have HBL := Lib.hid hbl
          clear hbt h35 h34 hbl
          go_upto_region 18 with (first | (go_at_call 32; refine (blank_any c _).mono ?_; rintro e w3 ⟨rfl, rfl⟩; rw [HBL.out]))
          refine gen_world (fun w' => Hid (Rm ⟨Z, Z + 1, S, k + q⟩ Z w w' { s with pos := 1 })) ?_ ?_
          · exact ⟨_, _, HV2.out.setPos 1⟩
          rintro w3 h3
          have HSM3 : Hid (Sm { s with pos := 1 }) := HSM.out
          have HB3 : Hid (({ s with pos := 1 } : Lx).bad = false) := HB.out
          have HP3 : Hid (({ s with pos := 1 } : Lx).pos = 1) := rfl
          clear c0 g0 e34 e35 HP HV2 h2 HSM HB
          generalize ({ s with pos := 1 } : Lx) = t at *
          cases hbl : isBlank c
          · have HBL := Lib.hid hbl
            have hbr := bare_run HP3.out HB3.out HOWN.out hbl
            clear hbl
            obtain ⟨vw, vs, hv⟩ := h3.out
            have HV := Lib.hid hv
            have c1 : w3.cell? ⟨Z, 1, none⟩ = some vw := (hv.2.2.1.cell 1).trans rfl
            have g1 := hv.2.2.1.frozen 1
            clear hv
            cases hb0 : isBarred c
            · have HB0 := Lib.hid hb0
              by_cases h34 : c = 34
              · rw [if_pos (by rw [h34]; simp)] at hbr
                have HX := Lib.hid (HBAD.out (by rw [HT.out]; exact hbr))
                have e34 : ((c : Int) == 34) = true := eqt h34
                clear hbr hb0 h34
                go_wp2_with fail
                refine (blank_any c _).mono ?_
                rintro e w4 ⟨rfl, rfl⟩
                rw [HBL.out]
                go_wp2_with fail
                refine (barred_any c _).mono ?_
                rintro e w4 ⟨rfl, rfl⟩
                rw [HB0.out]
                go_wp2_with fail
                go_ret2
                exact .inl ⟨HX.out, rfl, by rw [HZ.out]; exact HV.out.1.1.1⟩
              have e34 : ((c : Int) == 34) = false := eqf h34
              by_cases h92 : c = 92
              · rw [if_pos (by rw [h92]; simp)] at hbr
                have HX := Lib.hid (HBAD.out (by rw [HT.out]; exact hbr))
                have e92 : ((c : Int) == 92) = true := eqt h92
                clear hbr hb0 h34 h92
                go_wp2_with fail
                refine (blank_any c _).mono ?_
                rintro e w4 ⟨rfl, rfl⟩
                rw [HBL.out]
                go_wp2_with fail
                refine (barred_any c _).mono ?_
                rintro e w4 ⟨rfl, rfl⟩
                rw [HB0.out]
                go_wp2_with fail
                go_ret2
                exact .inl ⟨HX.out, rfl, by rw [HZ.out]; exact HV.out.1.1.1⟩
              have e92 : ((c : Int) == 92) = false := eqf h92
              rw [if_neg (by simp [hb0, h34, h92])] at hbr
              have HBR := Lib.hid hbr
              clear hbr hb0 h34 h92
              go_wp2_with fail
              refine (blank_any c _).mono ?_
              rintro e w4 ⟨rfl, rfl⟩
              rw [HBL.out]
              go_wp2_with fail
              refine (barred_any c _).mono ?_
              rintro e w4 ⟨rfl, rfl⟩
              rw [HB0.out]
              go_wp2_with (first | (at_builtin; go_loud (refine app_str (v := vw) rfl (.tmp 77) (.tmp 78) rfl rfl (RmV.raw HV) (str own) rfl (by have := HSM3.out; unfold Sm at this; have := HSZ.out; have := HO4.out; omega) ?_); intro A7 c7 w7 h7 hk7; have d1 : w7.cell? ⟨Z, 1, none⟩ = some vw := ((hk7.out.blk HV.out.2.2.1 (by decide)).cell 1).trans rfl; have f1 := (hk7.out.blk HV.out.2.2.1 (by decide)).frozen 1))
              go_roundg (n - (k + q))
              case measure => have := HKQ.out; have := HQ1.out; omega
              case rel => exact ⟨k + q, rfl, HKQ.out, by rw [HNX.out, HT.out, HBR.out]; exact ⟨_, _, HV.out.push own (by rw [HSZ.out]) (by unfold Lib.strCells; rw [str_list]; rfl) h7.out hk7.out⟩, by rw [HNX.out, HT.out, HBR.out]; exact ⟨HB3.out, by show t.pos ≤ 6; rw [HP3.out]; decide⟩⟩
            · have HB0 := Lib.hid hb0
              rw [if_pos (by simp [hb0])] at hbr
              have HX := Lib.hid (HBAD.out (by rw [HT.out]; exact hbr))
              clear hbr hb0
              go_wp2_with fail
              refine (blank_any c _).mono ?_
              rintro e w4 ⟨rfl, rfl⟩
              rw [HBL.out]
              go_wp2_with fail
              refine (barred_any c _).mono ?_
              rintro e w4 ⟨rfl, rfl⟩
              rw [HB0.out]
              go_wp2_with fail
              go_ret2
              exact .inl ⟨HX.out, rfl, by rw [HZ.out]; exact HV.out.1.1.1⟩
          · have HBL := Lib.hid hbl
            have HBR := Lib.hid (bare_blank HP3.out HB3.out HOWN.out hbl)
            clear hbl
            go_wp2_with fail
            refine (blank_any c _).mono ?_
            rintro e w4 ⟨rfl, rfl⟩
            rw [HBL.out]
            go_wp2_with fail
            refine (end_any ⟨Z, Z + 1, S, k + q⟩ Z 0 w _ t h3 HSM3).mono ?_
            rintro e w4 ⟨rfl, h4⟩
            go_wp2_with fail
            go_roundg (n - (k + q))
            case measure => have := HKQ.out; have := HQ1.out; omega
            case rel => exact ⟨k + q, rfl, HKQ.out, by rw [HNX.out, HT.out, HBR.out]; exact h4.out, by rw [HNX.out, HT.out, HBR.out]; exact ⟨HB3.out, Nat.zero_le _⟩⟩
        · rw [if_pos hbl] at hbt
          have HBR := Lib.hid hbt
          have HBL := Lib.hid hbl
          clear hbt h35 h34 hbl
          go_wp2_with fail
          refine (blank_any c _).mono ?_
          rintro e w4 ⟨rfl, rfl⟩
          rw [HBL.out]
          go_wp2_with fail
          go_roundg (n - (k + q))
          case measure => have := HKQ.out; have := HQ1.out; omega
          case rel => exact ⟨k + q, rfl, HKQ.out, by rw [HNX.out, HBR.out]; exact h2.out, by rw [HNX.out, HBR.out]; exact ⟨HB.out, by rw [HP.out]; decide⟩⟩
      · have c0 : w2.cell? ⟨Z, 0, none⟩ = some (.int .i64 1) := by rw [HV2.out.2.2.1.cell 0, hp]; rfl
        have g0 := HV2.out.2.2.1.frozen 0
        have HP := Lib.hid hp
        clear hp
        cases hbl : isBlank c
        · have HBL := Lib.hid hbl
          have hbr := bare_run HP.out HB.out HOWN.out hbl
          clear hbl
          obtain ⟨vw, vs, hv⟩ := h2.out
          have HV := Lib.hid hv
          have c1 : w2.cell? ⟨Z, 1, none⟩ = some vw := (hv.2.2.1.cell 1).trans rfl
          have g1 := hv.2.2.1.frozen 1
          clear hv
          cases hb0 : isBarred c
          · have HB0 := Lib.hid hb0
            by_cases h34 : c = 34
            · rw [if_pos (by rw [h34]; simp)] at hbr
              have HX := Lib.hid (HBAD.out (by exact hbr))
              have e34 : ((c : Int) == 34) = true := eqt h34
              clear hbr hb0 h34
              go_wp2_with fail
              refine (blank_any c _).mono ?_
              rintro e w4 ⟨rfl, rfl⟩
              rw [HBL.out]
              go_wp2_with fail
              refine (barred_any c _).mono ?_
              rintro e w4 ⟨rfl, rfl⟩
              rw [HB0.out]
              go_wp2_with fail
              go_ret2
              exact .inl ⟨HX.out, rfl, by rw [HZ.out]; exact HV.out.1.1.1⟩
            have e34 : ((c : Int) == 34) = false := eqf h34
            by_cases h92 : c = 92
            · rw [if_pos (by rw [h92]; simp)] at hbr
              have HX := Lib.hid (HBAD.out (by exact hbr))
              have e92 : ((c : Int) == 92) = true := eqt h92
              clear hbr hb0 h34 h92
              go_wp2_with fail
              refine (blank_any c _).mono ?_
              rintro e w4 ⟨rfl, rfl⟩
              rw [HBL.out]
              go_wp2_with fail
              refine (barred_any c _).mono ?_
              rintro e w4 ⟨rfl, rfl⟩
              rw [HB0.out]
              go_wp2_with fail
              go_ret2
              exact .inl ⟨HX.out, rfl, by rw [HZ.out]; exact HV.out.1.1.1⟩
            have e92 : ((c : Int) == 92) = false := eqf h92
            rw [if_neg (by simp [hb0, h34, h92])] at hbr
            have HBR := Lib.hid hbr
            clear hbr hb0 h34 h92
            go_wp2_with fail
            refine (blank_any c _).mono ?_
            rintro e w4 ⟨rfl, rfl⟩
            rw [HBL.out]
            go_wp2_with fail
            refine (barred_any c _).mono ?_
            rintro e w4 ⟨rfl, rfl⟩
            rw [HB0.out]
            go_wp2_with (first | (at_builtin; go_loud (refine app_str (v := vw) rfl (.tmp 77) (.tmp 78) rfl rfl (RmV.raw HV) (str own) rfl (by have := HSM.out; unfold Sm at this; have := HSZ.out; have := HO4.out; omega) ?_); intro A7 c7 w7 h7 hk7; have d1 : w7.cell? ⟨Z, 1, none⟩ = some vw := ((hk7.out.blk HV.out.2.2.1 (by decide)).cell 1).trans rfl; have f1 := (hk7.out.blk HV.out.2.2.1 (by decide)).frozen 1))
            go_roundg (n - (k + q))
            case measure => have := HKQ.out; have := HQ1.out; omega
            case rel => exact ⟨k + q, rfl, HKQ.out, by rw [HNX.out, HBR.out]; exact ⟨_, _, HV.out.push own (by rw [HSZ.out]) (by unfold Lib.strCells; rw [str_list]; rfl) h7.out hk7.out⟩, by rw [HNX.out, HBR.out]; exact ⟨HB.out, by show s.pos ≤ 6; rw [HP.out]; decide⟩⟩
          · have HB0 := Lib.hid hb0
            rw [if_pos (by simp [hb0])] at hbr
            have HX := Lib.hid (HBAD.out (by exact hbr))
            clear hbr hb0
            go_wp2_with fail
            refine (blank_any c _).mono ?_
            rintro e w4 ⟨rfl, rfl⟩
            rw [HBL.out]
            go_wp2_with fail
            refine (barred_any c _).mono ?_
            rintro e w4 ⟨rfl, rfl⟩
            rw [HB0.out]
            go_wp2_with fail
            go_ret2
            exact .inl ⟨HX.out, rfl, by rw [HZ.out]; exact HV.out.1.1.1⟩
        · have HBL := Lib.hid hbl
          have HBR := Lib.hid (bare_blank HP.out HB.out HOWN.out hbl)
          clear hbl
          go_wp2_with fail
          refine (blank_any c _).mono ?_
          rintro e w4 ⟨rfl, rfl⟩
          rw [HBL.out]
          go_wp2_with fail
          refine (end_any ⟨Z, Z + 1, S, k + q⟩ Z 0 w _ s h2 HSM).mono ?_
          rintro e w4 ⟨rfl, h4⟩
          go_wp2_with fail
          go_roundg (n - (k + q))
          case measure => have := HKQ.out; have := HQ1.out; omega
          case rel => exact ⟨k + q, rfl, HKQ.out, by rw [HNX.out, HBR.out]; exact h4.out, by rw [HNX.out, HBR.out]; exact ⟨HB.out, Nat.zero_le _⟩⟩
      · have c0 : w2.cell? ⟨Z, 0, none⟩ = some (.int .i64 2) := by rw [HV2.out.2.2.1.cell 0, hp]; rfl
        have g0 := HV2.out.2.2.1.frozen 0
        have HP := Lib.hid hp
        clear hp
        have HFIT := Lib.hid (iq_run (.inl HP.out) HB.out HOWN.out)
        have HQP := Lib.hid (iq_pos (.inl HP.out) (c := c) (own := own))
        go_wp2_with fail
        refine (iq_2 ⟨Z, Z + 1, S, k + q⟩ Z c own w _ s HP.out HC9.out HO4.out h2 HSM).mono ?_
        rintro e w4 (⟨hn, rfl, h4⟩ | ⟨t, hn, rfl, h4⟩)
        · have HX := Lib.hid (HBAD.out (by have h := HFIT.out; rw [hn] at h; exact h))
          clear c0 hn
          go_wp2_with fail
          go_ret2
          exact .inl ⟨HX.out, rfl, by rw [HZ.out]; exact h4.out.1.1⟩
        · have HBR : Hid (runS s own = t) := by have h := HFIT.out; rw [hn] at h; exact h
          have HTP := Lib.hid (HQP.out t hn)
          clear c0 hn
          go_wp2_with fail
          go_roundg (n - (k + q))
          case measure => have := HKQ.out; have := HQ1.out; omega
          case rel => exact ⟨k + q, rfl, HKQ.out, by rw [HNX.out, HBR.out]; exact h4.out, by rw [HNX.out, HBR.out]; exact ⟨HTP.out.1.trans HB.out, HTP.out.2⟩⟩
      · have c0 : w2.cell? ⟨Z, 0, none⟩ = some (.int .i64 3) := by rw [HV2.out.2.2.1.cell 0, hp]; rfl
        have g0 := HV2.out.2.2.1.frozen 0
        have HP := Lib.hid hp
        clear hp
        have HFIT := Lib.hid (iq_run (.inr (.inl HP.out)) HB.out HOWN.out)
        have HQP := Lib.hid (iq_pos (.inr (.inl HP.out)) (c := c) (own := own))
        go_wp2_with fail
        refine (iq_3 ⟨Z, Z + 1, S, k + q⟩ Z c own w _ s HP.out HC9.out HO4.out h2 HSM).mono ?_
        rintro e w4 (⟨hn, rfl, h4⟩ | ⟨t, hn, rfl, h4⟩)
        · have HX := Lib.hid (HBAD.out (by have h := HFIT.out; rw [hn] at h; exact h))
          clear c0 hn
          go_wp2_with fail
          go_ret2
          exact .inl ⟨HX.out, rfl, by rw [HZ.out]; exact h4.out.1.1⟩
        · have HBR : Hid (runS s own = t) := by have h := HFIT.out; rw [hn] at h; exact h
          have HTP := Lib.hid (HQP.out t hn)
          clear c0 hn
          go_wp2_with fail
          go_roundg (n - (k + q))
          case measure => have := HKQ.out; have := HQ1.out; omega
          case rel => exact ⟨k + q, rfl, HKQ.out, by rw [HNX.out, HBR.out]; exact h4.out, by rw [HNX.out, HBR.out]; exact ⟨HTP.out.1.trans HB.out, HTP.out.2⟩⟩
      · have c0 : w2.cell? ⟨Z, 0, none⟩ = some (.int .i64 4) := by rw [HV2.out.2.2.1.cell 0, hp]; rfl
        have g0 := HV2.out.2.2.1.frozen 0
        have HP := Lib.hid hp
        clear hp
        have HFIT := Lib.hid (iq_run (.inr (.inr (.inl HP.out))) HB.out HOWN.out)
        have HQP := Lib.hid (iq_pos (.inr (.inr (.inl HP.out))) (c := c) (own := own))
        go_wp2_with fail
        refine (iq_4 ⟨Z, Z + 1, S, k + q⟩ Z c own w _ s HP.out HC9.out HO4.out h2 HSM).mono ?_
        rintro e w4 (⟨hn, rfl, h4⟩ | ⟨t, hn, rfl, h4⟩)
        · have HX := Lib.hid (HBAD.out (by have h := HFIT.out; rw [hn] at h; exact h))
          clear c0 hn
          go_wp2_with fail
          go_ret2
          exact .inl ⟨HX.out, rfl, by rw [HZ.out]; exact h4.out.1.1⟩
        · have HBR : Hid (runS s own = t) := by have h := HFIT.out; rw [hn] at h; exact h
          have HTP := Lib.hid (HQP.out t hn)
          clear c0 hn
          go_wp2_with fail
          go_roundg (n - (k + q))
          case measure => have := HKQ.out; have := HQ1.out; omega
          case rel => exact ⟨k + q, rfl, HKQ.out, by rw [HNX.out, HBR.out]; exact h4.out, by rw [HNX.out, HBR.out]; exact ⟨HTP.out.1.trans HB.out, HTP.out.2⟩⟩
      · have c0 : w2.cell? ⟨Z, 0, none⟩ = some (.int .i64 5) := by rw [HV2.out.2.2.1.cell 0, hp]; rfl
        have g0 := HV2.out.2.2.1.frozen 0
        have HP := Lib.hid hp
        clear hp
        have HFIT := Lib.hid (iq_run (.inr (.inr (.inr HP.out))) HB.out HOWN.out)
        have HQP := Lib.hid (iq_pos (.inr (.inr (.inr HP.out))) (c := c) (own := own))
        go_wp2_with fail
        refine (iq_5 ⟨Z, Z + 1, S, k + q⟩ Z c own w _ s HP.out HC9.out HO4.out h2 HSM (Lib.hid (HG.out HP.out))).mono ?_
        rintro e w4 (⟨hn, rfl, h4⟩ | ⟨t, hn, rfl, h4⟩)
        · have HX := Lib.hid (HBAD.out (by have h := HFIT.out; rw [hn] at h; exact h))
          clear c0 hn
          go_wp2_with fail
          go_ret2
          exact .inl ⟨HX.out, rfl, by rw [HZ.out]; exact h4.out.1.1⟩
        · have HBR : Hid (runS s own = t) := by have h := HFIT.out; rw [hn] at h; exact h
          have HTP := Lib.hid (HQP.out t hn)
          clear c0 hn
          go_wp2_with fail
          go_roundg (n - (k + q))
          case measure => have := HKQ.out; have := HQ1.out; omega
          case rel => exact ⟨k + q, rfl, HKQ.out, by rw [HNX.out, HBR.out]; exact h4.out, by rw [HNX.out, HBR.out]; exact ⟨HTP.out.1.trans HB.out, HTP.out.2⟩⟩
      · have c0 : w2.cell? ⟨Z, 0, none⟩ = some (.int .i64 6) := by rw [HV2.out.2.2.1.cell 0, hp]; rfl
        have g0 := HV2.out.2.2.1.frozen 0
        have HP := Lib.hid hp
        clear hp
        have hbh := behind_run HP.out HB.out HOWN.out
        cases hbl : isBlank c
        · rw [if_neg (by rw [hbl]; simp)] at hbh
          have HX := Lib.hid (HBAD.out hbh)
          have HBL := Lib.hid hbl
          clear hbh hbl
          go_wp2_with fail
          refine (blank_any c _).mono ?_
          rintro e w4 ⟨rfl, rfl⟩
          rw [HBL.out]
          go_wp2_with fail
          go_ret2
          exact .inl ⟨HX.out, rfl, by rw [HZ.out]; exact HV2.out.1.1.1⟩
        · rw [if_pos hbl] at hbh
          have HBR := Lib.hid hbh
          have HBL := Lib.hid hbl
          clear hbh hbl
          go_wp2_with fail
          refine (blank_any c _).mono ?_
          rintro e w4 ⟨rfl, rfl⟩
          rw [HBL.out]
          go_wp2_with fail
          go_roundg (n - (k + q))
          case measure => have := HKQ.out; have := HQ1.out; omega
          case rel => exact ⟨k + q, rfl, HKQ.out, by rw [HNX.out, HBR.out]; exact ⟨_, _, HV2.out.setPos 0⟩, by rw [HNX.out, HBR.out]; exact ⟨HB.out, Nat.zero_le _⟩⟩
    · have hkn : k = n := by omega
      have htk : l.take k = l := List.take_of_length_le (by have := HN.out; omega)
      rw [htk] at h1 hpb
      have hik : wr.heap[Z + 1]? = some (.stringIter S n) := by
        obtain ⟨vw, vs, h⟩ := h1.out
        have := h.1.2
        rw [hkn] at this
        exact this
      have hnx := Lib.run_next_end_at (P := Tryz.prog) wr (Z + 1) S n 0 hik (by rw [HNS.out]; omega)
      have HSM := Lib.hid (show Sm (runS lx0 l) from by
        have h := (small_run l).1
        have := HL.out
        unfold Sm
        omega)
      have PE := Lib.hid (fun (h : (runS lx0 l).pos = 1) (hb : (runS lx0 l).bad = false) => lexed_end h hb)
      have PO := Lib.hid (fun h (hb : (runS lx0 l).bad = false) => lexed_ok (l := l) h hb)
      have PI := Lib.hid (fun h => lexed_in (l := l) h)
      have HB := Lib.hid hpb.out.1
      have hp6 := hpb.out.2
      clear hik htk hkn hpb
      generalize runS lx0 l = s at *
      obtain ⟨vw, vs, hv⟩ := h1.out
      obtain ⟨A, cc, rfl, hst⟩ := words_strs hv.2.2.2.2
      have HST := Lib.hid hst
      have HV := Lib.hid hv
      clear hv hst
      have hp7 : s.pos = 0 ∨ s.pos = 1 ∨ s.pos = 2 ∨ s.pos = 3 ∨ s.pos = 4 ∨ s.pos = 5 ∨ s.pos = 6 := by omega
      clear hp6
      rcases hp7 with hp | hp | hp | hp | hp | hp | hp
      · have c0 : wr.cell? ⟨Z, 0, none⟩ = some (.int .i64 0) := by rw [HV.out.2.2.1.cell 0, hp]; rfl
        have g0 := HV.out.2.2.1.frozen 0
        have HP := Lib.hid hp
        clear hp
        have HX := Lib.hid (PO.out (.inl HP.out) HB.out)
        have c2 : wr.cell? ⟨Z, 2, none⟩ = some (.slice A s.words.length cc) := (HV.out.2.2.1.cell 2).trans rfl
        have g2 := HV.out.2.2.1.frozen 2
        go_wp2_with fail
        go_ret2
        exact .inr ⟨_, _, _, HX.out, rfl, by rw [HZ.out]; exact HV.out.1.1.1, HST⟩
      · have c0 : wr.cell? ⟨Z, 0, none⟩ = some (.int .i64 1) := by rw [HV.out.2.2.1.cell 0, hp]; rfl
        have g0 := HV.out.2.2.1.frozen 0
        have HP := Lib.hid hp
        clear hp
        have HX := Lib.hid (PE.out HP.out HB.out)
        go_wp2_with fail
        refine (end_any ⟨Z, Z + 1, S, k⟩ Z 0 w _ s h1 HSM).mono ?_
        rintro e w2 ⟨rfl, h2⟩
        obtain ⟨vw2, vs2, hv2⟩ := h2.out
        obtain ⟨A2, cc2, rfl, hst2⟩ := words_strs hv2.2.2.2.2
        have d2 : w2.cell? ⟨Z, 2, none⟩ = some (.slice A2 (endsS s).words.length cc2) := (hv2.2.2.1.cell 2).trans rfl
        have e2 := hv2.2.2.1.frozen 2
        have HV2 := Lib.hid hv2
        have HST2 := Lib.hid hst2
        clear hv2 hst2 c0 g0
        go_wp2_with fail
        go_ret2
        exact .inr ⟨_, _, _, HX.out, rfl, by rw [HZ.out]; exact HV2.out.1.1.1, HST2⟩
      · have c0 : wr.cell? ⟨Z, 0, none⟩ = some (.int .i64 2) := by rw [HV.out.2.2.1.cell 0, hp]; rfl
        have g0 := HV.out.2.2.1.frozen 0
        have HP := Lib.hid hp
        clear hp
        have HX := Lib.hid (PI.out (.inl HP.out))
        go_wp2_with fail
        go_ret2
        exact .inl ⟨HX.out, rfl, by rw [HZ.out]; exact HV.out.1.1.1⟩
      · have c0 : wr.cell? ⟨Z, 0, none⟩ = some (.int .i64 3) := by rw [HV.out.2.2.1.cell 0, hp]; rfl
        have g0 := HV.out.2.2.1.frozen 0
        have HP := Lib.hid hp
        clear hp
        have HX := Lib.hid (PI.out (.inr (.inl HP.out)))
        go_wp2_with fail
        go_ret2
        exact .inl ⟨HX.out, rfl, by rw [HZ.out]; exact HV.out.1.1.1⟩
      · have c0 : wr.cell? ⟨Z, 0, none⟩ = some (.int .i64 4) := by rw [HV.out.2.2.1.cell 0, hp]; rfl
        have g0 := HV.out.2.2.1.frozen 0
        have HP := Lib.hid hp
        clear hp
        have HX := Lib.hid (PI.out (.inr (.inr (.inl HP.out))))
        go_wp2_with fail
        go_ret2
        exact .inl ⟨HX.out, rfl, by rw [HZ.out]; exact HV.out.1.1.1⟩
      · have c0 : wr.cell? ⟨Z, 0, none⟩ = some (.int .i64 5) := by rw [HV.out.2.2.1.cell 0, hp]; rfl
        have g0 := HV.out.2.2.1.frozen 0
        have HP := Lib.hid hp
        clear hp
        have HX := Lib.hid (PI.out (.inr (.inr (.inr HP.out))))
        go_wp2_with fail
        go_ret2
        exact .inl ⟨HX.out, rfl, by rw [HZ.out]; exact HV.out.1.1.1⟩
      · have c0 : wr.cell? ⟨Z, 0, none⟩ = some (.int .i64 6) := by rw [HV.out.2.2.1.cell 0, hp]; rfl
        have g0 := HV.out.2.2.1.frozen 0
        have HP := Lib.hid hp
        clear hp
        have HX := Lib.hid (PO.out (.inr (.inl HP.out)) HB.out)
        have c2 : wr.cell? ⟨Z, 2, none⟩ = some (.slice A s.words.length cc) := (HV.out.2.2.1.cell 2).trans rfl
        have g2 := HV.out.2.2.1.frozen 2
        go_wp2_with fail
        go_ret2
        exact .inr ⟨_, _, _, HX.out, rfl, by rw [HZ.out]; exact HV.out.1.1.1, HST⟩
end Go.Proofs.YtcdhkeahcliefaaGreatDoor.LexG
