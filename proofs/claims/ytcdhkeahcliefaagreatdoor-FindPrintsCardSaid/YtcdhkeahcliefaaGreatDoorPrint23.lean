/- The document's words of a line: Words. -/
import Derived.Test.YtcdhkeahcliefaaGreatDoorPrint22
namespace Go.Proofs.YtcdhkeahcliefaaGreatDoor.LexE
open Go.ChangeShapes Go.WideShapes Go.ChangeAt Go.RowKit
open Go.Proofs.YtcdhkeahcliefaaGreatDoor.Kit Go.Proofs.YtcdhkeahcliefaaGreatDoor.Base Go.Proofs.YtcdhkeahcliefaaGreatDoor.Bld Go.Proofs.YtcdhkeahcliefaaGreatDoor.Lex Go.Proofs.YtcdhkeahcliefaaGreatDoor.LexB Go.Proofs.YtcdhkeahcliefaaGreatDoor.LexC Go.Proofs.YtcdhkeahcliefaaGreatDoor.LexD
set_option linter.unusedVariables false

/-- what Words answers -/
def WordsPost (l : List UInt8) (w : World) (e : Ending) (w' : World) : Prop :=
  (lexed l = none ∧ e = .returned (.tuple #[.slice none 0 0, .int .i64 160]) ∧ Hid (Below w.heap.size w w')) ∨
  (∃ ws A c, lexed l = some ws ∧ e = .returned (.tuple #[.slice A ws.length c, .int .i64 0]) ∧ Hid (Below w.heap.size w w') ∧ Hid (Strs w' A (ws.map str)))
theorem pos_run (l : List UInt8) : (runS lx0 l).pos ≤ 7 := by
  have key : ∀ (s : Lx) (l : List UInt8), s.pos ≤ 7 → (runS s l).pos ≤ 7 := by
    intro s l
    induction l generalizing s with
    | nil => exact fun h => h
    | cons c l ih =>
      intro h
      show (if s.bad then s else runS (nextS s c) l).pos ≤ 7
      by_cases hb : s.bad = true
      · rw [if_pos hb]; exact h
      · rw [if_neg hb]; exact ih _ (pos_next h)
  exact key lx0 l (by decide)
theorem words_strs {Z : Nat} {w : World} {vs : Value} {ws : List (List UInt8)} (h : w.ownsRow Z 9 1 vs ws.length (strs ws)) : ∃ A c, vs = .slice A ws.length c ∧ Strs w A (ws.map str) := by
  refine owns_strs (base := Z) ?_
  rw [List.map_map]
  exact h
theorem lexed_end {l : List UInt8} (h1 : (runS lx0 l).pos = 1) (hb : (runS lx0 l).bad = false) : lexed l = some (endsS (runS lx0 l)).words := by
  unfold lexed
  simp only [h1, if_true]
  rw [if_neg]
  show ¬ ((runS lx0 l).bad = true ∨ (runS lx0 l).pos = 2 ∨ (runS lx0 l).pos = 3 ∨ (runS lx0 l).pos = 4 ∨ (runS lx0 l).pos = 5)
  rw [hb, h1]
  simp
theorem lexed_ok {l : List UInt8} (h1 : (runS lx0 l).pos = 0 ∨ (runS lx0 l).pos = 6 ∨ (runS lx0 l).pos = 7) (hb : (runS lx0 l).bad = false) : lexed l = some (runS lx0 l).words := by
  unfold lexed
  have hn : ¬ (runS lx0 l).pos = 1 := by omega
  simp only [hn, if_false]
  rw [if_neg]
  rw [hb]
  simp
  omega
theorem lexed_bad {l : List UInt8} (hb : (runS lx0 l).bad = true) : lexed l = none := by
  unfold lexed
  by_cases h1 : (runS lx0 l).pos = 1
  · simp only [h1, if_true]
    rw [if_pos]
    exact .inl hb
  · simp only [h1, if_false]
    rw [if_pos]
    exact .inl hb
theorem lexed_in {l : List UInt8} (h : (runS lx0 l).pos = 2 ∨ (runS lx0 l).pos = 3 ∨ (runS lx0 l).pos = 4 ∨ (runS lx0 l).pos = 5) : lexed l = none := by
  unfold lexed
  have hn : ¬ (runS lx0 l).pos = 1 := by omega
  simp only [hn, if_false]
  rw [if_pos (.inr h)]
theorem start_rd (w : World) : Rd w.heap.size w.heap.size w (w.alloc (.cells #[.int .i64 0, .slice none 0 0, .slice none 0 0, .int .i64 0, .bool false] 104)) lx0 :=
  ⟨.slice none 0 0, .slice none 0 0, (Since.refl w).alloc _, Nat.le_refl _, Blk.new _ _ _, ⟨rfl, .inl ⟨rfl, rfl⟩⟩, ⟨rfl, .inl ⟨rfl, rfl⟩⟩⟩
set_option maxRecDepth 100000 in
set_option maxHeartbeats 6400000 in
theorem wordsR_any (l : List UInt8) (w : World) (hl : l.length ≤ 1023) : Calls Tryz.prog 20 #[.string (str l)] w (WordsPost l w) := by
  have HL := Lib.hid hl
  have hsz : (str l).size = l.length := str_size l
  have hsz1 : ¬ ((65536 : Int) < ((str l).size : Int)) := by omega
  obtain ⟨S, hS⟩ : ∃ S, str l = S := ⟨_, rfl⟩
  have HS := Lib.hid hS
  obtain ⟨n, hn⟩ : ∃ n, S.size = n := ⟨_, rfl⟩
  have HN : Hid (l.length = n) := by rw [← hn, ← hS, hsz]; exact rfl
  have HNS := Lib.hid hn
  rw [hS] at hsz1
  rw [hn] at hsz1
  obtain ⟨Z, hZ⟩ : ∃ Z, w.heap.size = Z := ⟨_, rfl⟩
  have HZ := Lib.hid hZ
  rw [hS]
  clear hsz hS hl
  go_enter Tryz.func20, Tryz.ntmps20
  go_upto_region 4 with (fail)
  clear hn hsz1 hZ
  refine gen_world (fun w' => Hid (Rd Z Z w w' lx0)) ?_ ?_
  · have h := start_rd w
    rw [HZ.out] at h
    exact h
  rintro w1 h1
  go_wp2_with fail
  go_loopg [5] n (fun g i wr => ∃ (k : Nat), g = n - k ∧ k ≤ n ∧ i = .int .i64 k ∧ Hid (Rd Z Z w wr (runS lx0 (l.take k))))
  case atStart => exact ⟨0, rfl, Nat.zero_le _, rfl, h1⟩
  case round =>
    clear h1 w1
    obtain ⟨k, rfl, hk, rfl, h1⟩ := hrel
    have hn := HNS.out
    have hk9 : (k : Int) ≤ 1023 := by have := HL.out; have := HN.out; omega
    have k0 : (0 : Int) ≤ (k : Int) := by omega
    obtain ⟨vw, vs, hv⟩ := h1.out
    have c4 : wr.cell? ⟨Z, 4, none⟩ = some (.bool (runS lx0 (l.take k)).bad) := (hv.2.2.1.cell 4).trans rfl
    clear hv
    by_cases hgo : k < n ∧ (runS lx0 (l.take k)).bad = false
    · obtain ⟨hlt, hb⟩ := hgo
      have hlti : (k : Int) < (n : Int) := by omega
      have HLT := Lib.hid hlt
      have HB := Lib.hid hb
      rw [hb] at c4
      have hkl : k < l.length := by rw [HN.out]; exact hlt
      have hix : ∀ w, (Instr.index 9 (.string S) (.int .i64 k)).run Tryz.prog w = .ok (.int .u8 (l[k].toNat : Int)) w := fun w => by
        have hks : k < S.size := by rw [HNS.out]; exact hlt
        have e : S[k] = l[k] := by
          have := HS.out
          subst this
          simp [str]
          rfl
        rw [← e]
        go_simp
      have HIX := Lib.hid hix
      have HSN : Hid (runS lx0 (l.take (k + 1)) = nextS (runS lx0 (l.take k)) l[k]) := by
        show _ = _
        rw [List.take_succ_eq_append_getElem hkl, runS_snoc hb]
      generalize l[k] = y at *
      have h1s := Lib.hid (show Sm (runS lx0 (l.take k)) from by
        have h := (small_run (l.take k)).1
        have := HL.out
        rw [List.length_take] at h
        unfold Sm
        omega)
      have h1g := Lib.hid (fun h5 : (runS lx0 (l.take k)).pos = 5 => (small_run (l.take k)).2 h5 HB.out)
      have h17 := Lib.hid (pos_run (l.take k))
      generalize runS lx0 (l.take k) = s at *
      clear hkl hix hlt hb hk
      have hixw := HIX.out wr
      go_wp2_with fail
      refine (next_any Z Z w wr s y h17.out h1 h1s h1g).mono ?_
      rintro e w2 ⟨rfl, h2⟩
      clear c4
      go_wp2_with fail
      go_roundg (n - (k + 1))
      case measure => have := HLT.out; omega
      case rel => exact ⟨k + 1, rfl, HLT.out, by go_num, by rw [HSN.out]; exact h2⟩
    · have HF : Hid (runS lx0 (l.take k) = runS lx0 l) := by
        show _ = _
        by_cases hb : (runS lx0 (l.take k)).bad = true
        · have e := runS_append lx0 (l.take k) (l.drop k)
          rw [List.take_append_drop, runS_bad hb] at e
          exact e.symm
        · have hkn : ¬ k < n := fun h => hgo ⟨h, by simpa using hb⟩
          rw [List.take_of_length_le (by have := HN.out; omega)]
      have HGO := Lib.hid hgo
      have HB0 : Hid (k < n → (runS lx0 l).bad = true) := fun h => by
        rw [← HF.out]
        cases hb : (runS lx0 (l.take k)).bad
        · exact absurd ⟨h, hb⟩ HGO.out
        · rfl
      rw [HF.out] at h1 c4
      have h17 := Lib.hid (pos_run l)
      have HSM := Lib.hid (show Sm (runS lx0 l) from by
        have h := (small_run l).1
        have := HL.out
        unfold Sm
        omega)
      have PE := Lib.hid (fun (h : (runS lx0 l).pos = 1) (hb : (runS lx0 l).bad = false) => lexed_end h hb)
      have PO := Lib.hid (fun h (hb : (runS lx0 l).bad = false) => lexed_ok (l := l) h hb)
      have PB := Lib.hid (fun (hb : (runS lx0 l).bad = true) => lexed_bad hb)
      have PI := Lib.hid (fun h => lexed_in (l := l) h)
      generalize runS lx0 l = s at *
      obtain ⟨vw, vs, hv⟩ := h1.out
      obtain ⟨A, c, rfl, hst⟩ := words_strs hv.2.2.2.2
      have HST := Lib.hid hst
      have HV := Lib.hid hv
      clear hst
      have hp : s.pos = 0 ∨ s.pos = 1 ∨ s.pos = 2 ∨ s.pos = 3 ∨ s.pos = 4 ∨ s.pos = 5 ∨ s.pos = 6 ∨ s.pos = 7 := by have := h17.out; omega
      clear hgo HGO HF
      have HKN := Lib.hid hk
      clear hk
      by_cases hlt : k < n
      · have hlti : (k : Int) < (n : Int) := by omega
        have hb := HB0.out hlt
        have c4' : wr.cell? ⟨Z, 4, none⟩ = some (.bool true) := by rw [c4, hb]
        have HBT := Lib.hid hb
        clear c4 hb hlt
        clear hv
        rcases hp with hp | hp | hp | hp | hp | hp | hp | hp
        · have c0 : wr.cell? ⟨Z, 0, none⟩ = some (.int .i64 0) := by rw [HV.out.2.2.1.cell 0, hp]; rfl
          have c2 : wr.cell? ⟨Z, 2, none⟩ = some (.slice A s.words.length c) := (HV.out.2.2.1.cell 2).trans rfl
          have HX := Lib.hid (PB.out HBT.out)
          clear hp
          go_wp2_with fail
          go_ret2
          exact .inl ⟨HX.out, rfl, by rw [HZ.out]; exact HV.out.1.1⟩
        · have c0 : wr.cell? ⟨Z, 0, none⟩ = some (.int .i64 1) := by rw [HV.out.2.2.1.cell 0, hp]; rfl
          have c2 : wr.cell? ⟨Z, 2, none⟩ = some (.slice A s.words.length c) := (HV.out.2.2.1.cell 2).trans rfl
          have HP1 := Lib.hid hp
          clear hp
          go_wp2_with fail
          refine (ends_any Z Z w wr s h1 HSM).mono ?_
          rintro e w2 ⟨rfl, h2⟩
          obtain ⟨vw2, vs2, hv2⟩ := h2.out
          obtain ⟨A2, cc2, rfl, hst2⟩ := words_strs hv2.2.2.2.2
          have d0 : w2.cell? ⟨Z, 0, none⟩ = some (.int .i64 1) := by rw [hv2.2.2.1.cell 0]; show some (Value.int .i64 (s.pos : Int)) = _; rw [HP1.out]; rfl
          have d2 : w2.cell? ⟨Z, 2, none⟩ = some (.slice A2 (endsS s).words.length cc2) := (hv2.2.2.1.cell 2).trans rfl
          have d4 : w2.cell? ⟨Z, 4, none⟩ = some (.bool true) := by rw [hv2.2.2.1.cell 4]; show some (Value.bool s.bad) = _; rw [HBT.out]
          have HV2 := Lib.hid hv2
          have HST2 := Lib.hid hst2
          clear hv2 hst2 c0 c2 c4'
          go_wp2_with fail
          go_ret2
          exact .inl ⟨PB.out HBT.out, rfl, by rw [HZ.out]; exact HV2.out.1.1⟩
        · have c0 : wr.cell? ⟨Z, 0, none⟩ = some (.int .i64 2) := by rw [HV.out.2.2.1.cell 0, hp]; rfl
          have c2 : wr.cell? ⟨Z, 2, none⟩ = some (.slice A s.words.length c) := (HV.out.2.2.1.cell 2).trans rfl
          have HX := Lib.hid (PB.out HBT.out)
          clear hp
          go_wp2_with fail
          go_ret2
          exact .inl ⟨HX.out, rfl, by rw [HZ.out]; exact HV.out.1.1⟩
        · have c0 : wr.cell? ⟨Z, 0, none⟩ = some (.int .i64 3) := by rw [HV.out.2.2.1.cell 0, hp]; rfl
          have c2 : wr.cell? ⟨Z, 2, none⟩ = some (.slice A s.words.length c) := (HV.out.2.2.1.cell 2).trans rfl
          have HX := Lib.hid (PB.out HBT.out)
          clear hp
          go_wp2_with fail
          go_ret2
          exact .inl ⟨HX.out, rfl, by rw [HZ.out]; exact HV.out.1.1⟩
        · have c0 : wr.cell? ⟨Z, 0, none⟩ = some (.int .i64 4) := by rw [HV.out.2.2.1.cell 0, hp]; rfl
          have c2 : wr.cell? ⟨Z, 2, none⟩ = some (.slice A s.words.length c) := (HV.out.2.2.1.cell 2).trans rfl
          have HX := Lib.hid (PB.out HBT.out)
          clear hp
          go_wp2_with fail
          go_ret2
          exact .inl ⟨HX.out, rfl, by rw [HZ.out]; exact HV.out.1.1⟩
        · have c0 : wr.cell? ⟨Z, 0, none⟩ = some (.int .i64 5) := by rw [HV.out.2.2.1.cell 0, hp]; rfl
          have c2 : wr.cell? ⟨Z, 2, none⟩ = some (.slice A s.words.length c) := (HV.out.2.2.1.cell 2).trans rfl
          have HX := Lib.hid (PB.out HBT.out)
          clear hp
          go_wp2_with fail
          go_ret2
          exact .inl ⟨HX.out, rfl, by rw [HZ.out]; exact HV.out.1.1⟩
        · have c0 : wr.cell? ⟨Z, 0, none⟩ = some (.int .i64 6) := by rw [HV.out.2.2.1.cell 0, hp]; rfl
          have c2 : wr.cell? ⟨Z, 2, none⟩ = some (.slice A s.words.length c) := (HV.out.2.2.1.cell 2).trans rfl
          have HX := Lib.hid (PB.out HBT.out)
          clear hp
          go_wp2_with fail
          go_ret2
          exact .inl ⟨HX.out, rfl, by rw [HZ.out]; exact HV.out.1.1⟩
        · have c0 : wr.cell? ⟨Z, 0, none⟩ = some (.int .i64 7) := by rw [HV.out.2.2.1.cell 0, hp]; rfl
          have c2 : wr.cell? ⟨Z, 2, none⟩ = some (.slice A s.words.length c) := (HV.out.2.2.1.cell 2).trans rfl
          have HX := Lib.hid (PB.out HBT.out)
          clear hp
          go_wp2_with fail
          go_ret2
          exact .inl ⟨HX.out, rfl, by rw [HZ.out]; exact HV.out.1.1⟩
      · have hlti : ¬ ((k : Int) < (n : Int)) := by omega
        clear hlt hv
        cases hb : s.bad
        · have c4' : wr.cell? ⟨Z, 4, none⟩ = some (.bool false) := by rw [c4, hb]
          have HBT := Lib.hid hb
          clear c4 hb
          rcases hp with hp | hp | hp | hp | hp | hp | hp | hp
          · have c0 : wr.cell? ⟨Z, 0, none⟩ = some (.int .i64 0) := by rw [HV.out.2.2.1.cell 0, hp]; rfl
            have c2 : wr.cell? ⟨Z, 2, none⟩ = some (.slice A s.words.length c) := (HV.out.2.2.1.cell 2).trans rfl
            have HX := Lib.hid (PO.out (by omega) HBT.out)
            clear hp
            go_wp2_with fail
            go_ret2
            exact .inr ⟨s.words, A, c, HX.out, rfl, by rw [HZ.out]; exact HV.out.1.1, HST.out⟩
          · have c0 : wr.cell? ⟨Z, 0, none⟩ = some (.int .i64 1) := by rw [HV.out.2.2.1.cell 0, hp]; rfl
            have c2 : wr.cell? ⟨Z, 2, none⟩ = some (.slice A s.words.length c) := (HV.out.2.2.1.cell 2).trans rfl
            have HP1 := Lib.hid hp
            clear hp
            go_wp2_with fail
            refine (ends_any Z Z w wr s h1 HSM).mono ?_
            rintro e w2 ⟨rfl, h2⟩
            obtain ⟨vw2, vs2, hv2⟩ := h2.out
            obtain ⟨A2, cc2, rfl, hst2⟩ := words_strs hv2.2.2.2.2
            have d0 : w2.cell? ⟨Z, 0, none⟩ = some (.int .i64 1) := by rw [hv2.2.2.1.cell 0]; show some (Value.int .i64 (s.pos : Int)) = _; rw [HP1.out]; rfl
            have d2 : w2.cell? ⟨Z, 2, none⟩ = some (.slice A2 (endsS s).words.length cc2) := (hv2.2.2.1.cell 2).trans rfl
            have d4 : w2.cell? ⟨Z, 4, none⟩ = some (.bool false) := by rw [hv2.2.2.1.cell 4]; show some (Value.bool s.bad) = _; rw [HBT.out]
            have HV2 := Lib.hid hv2
            have HST2 := Lib.hid hst2
            clear hv2 hst2 c0 c2 c4'
            go_wp2_with fail
            go_ret2
            exact .inr ⟨(endsS s).words, A2, cc2, PE.out HP1.out HBT.out, rfl, by rw [HZ.out]; exact HV2.out.1.1, HST2.out⟩
          · have c0 : wr.cell? ⟨Z, 0, none⟩ = some (.int .i64 2) := by rw [HV.out.2.2.1.cell 0, hp]; rfl
            have c2 : wr.cell? ⟨Z, 2, none⟩ = some (.slice A s.words.length c) := (HV.out.2.2.1.cell 2).trans rfl
            have HX := Lib.hid (PI.out (by omega))
            clear hp
            go_wp2_with fail
            go_ret2
            exact .inl ⟨HX.out, rfl, by rw [HZ.out]; exact HV.out.1.1⟩
          · have c0 : wr.cell? ⟨Z, 0, none⟩ = some (.int .i64 3) := by rw [HV.out.2.2.1.cell 0, hp]; rfl
            have c2 : wr.cell? ⟨Z, 2, none⟩ = some (.slice A s.words.length c) := (HV.out.2.2.1.cell 2).trans rfl
            have HX := Lib.hid (PI.out (by omega))
            clear hp
            go_wp2_with fail
            go_ret2
            exact .inl ⟨HX.out, rfl, by rw [HZ.out]; exact HV.out.1.1⟩
          · have c0 : wr.cell? ⟨Z, 0, none⟩ = some (.int .i64 4) := by rw [HV.out.2.2.1.cell 0, hp]; rfl
            have c2 : wr.cell? ⟨Z, 2, none⟩ = some (.slice A s.words.length c) := (HV.out.2.2.1.cell 2).trans rfl
            have HX := Lib.hid (PI.out (by omega))
            clear hp
            go_wp2_with fail
            go_ret2
            exact .inl ⟨HX.out, rfl, by rw [HZ.out]; exact HV.out.1.1⟩
          · have c0 : wr.cell? ⟨Z, 0, none⟩ = some (.int .i64 5) := by rw [HV.out.2.2.1.cell 0, hp]; rfl
            have c2 : wr.cell? ⟨Z, 2, none⟩ = some (.slice A s.words.length c) := (HV.out.2.2.1.cell 2).trans rfl
            have HX := Lib.hid (PI.out (by omega))
            clear hp
            go_wp2_with fail
            go_ret2
            exact .inl ⟨HX.out, rfl, by rw [HZ.out]; exact HV.out.1.1⟩
          · have c0 : wr.cell? ⟨Z, 0, none⟩ = some (.int .i64 6) := by rw [HV.out.2.2.1.cell 0, hp]; rfl
            have c2 : wr.cell? ⟨Z, 2, none⟩ = some (.slice A s.words.length c) := (HV.out.2.2.1.cell 2).trans rfl
            have HX := Lib.hid (PO.out (by omega) HBT.out)
            clear hp
            go_wp2_with fail
            go_ret2
            exact .inr ⟨s.words, A, c, HX.out, rfl, by rw [HZ.out]; exact HV.out.1.1, HST.out⟩
          · have c0 : wr.cell? ⟨Z, 0, none⟩ = some (.int .i64 7) := by rw [HV.out.2.2.1.cell 0, hp]; rfl
            have c2 : wr.cell? ⟨Z, 2, none⟩ = some (.slice A s.words.length c) := (HV.out.2.2.1.cell 2).trans rfl
            have HX := Lib.hid (PO.out (by omega) HBT.out)
            clear hp
            go_wp2_with fail
            go_ret2
            exact .inr ⟨s.words, A, c, HX.out, rfl, by rw [HZ.out]; exact HV.out.1.1, HST.out⟩
        · have c4' : wr.cell? ⟨Z, 4, none⟩ = some (.bool true) := by rw [c4, hb]
          have HBT := Lib.hid hb
          clear c4 hb
          rcases hp with hp | hp | hp | hp | hp | hp | hp | hp
          · have c0 : wr.cell? ⟨Z, 0, none⟩ = some (.int .i64 0) := by rw [HV.out.2.2.1.cell 0, hp]; rfl
            have c2 : wr.cell? ⟨Z, 2, none⟩ = some (.slice A s.words.length c) := (HV.out.2.2.1.cell 2).trans rfl
            have HX := Lib.hid (PB.out HBT.out)
            clear hp
            go_wp2_with fail
            go_ret2
            exact .inl ⟨HX.out, rfl, by rw [HZ.out]; exact HV.out.1.1⟩
          · have c0 : wr.cell? ⟨Z, 0, none⟩ = some (.int .i64 1) := by rw [HV.out.2.2.1.cell 0, hp]; rfl
            have c2 : wr.cell? ⟨Z, 2, none⟩ = some (.slice A s.words.length c) := (HV.out.2.2.1.cell 2).trans rfl
            have HP1 := Lib.hid hp
            clear hp
            go_wp2_with fail
            refine (ends_any Z Z w wr s h1 HSM).mono ?_
            rintro e w2 ⟨rfl, h2⟩
            obtain ⟨vw2, vs2, hv2⟩ := h2.out
            obtain ⟨A2, cc2, rfl, hst2⟩ := words_strs hv2.2.2.2.2
            have d0 : w2.cell? ⟨Z, 0, none⟩ = some (.int .i64 1) := by rw [hv2.2.2.1.cell 0]; show some (Value.int .i64 (s.pos : Int)) = _; rw [HP1.out]; rfl
            have d2 : w2.cell? ⟨Z, 2, none⟩ = some (.slice A2 (endsS s).words.length cc2) := (hv2.2.2.1.cell 2).trans rfl
            have d4 : w2.cell? ⟨Z, 4, none⟩ = some (.bool true) := by rw [hv2.2.2.1.cell 4]; show some (Value.bool s.bad) = _; rw [HBT.out]
            have HV2 := Lib.hid hv2
            have HST2 := Lib.hid hst2
            clear hv2 hst2 c0 c2 c4'
            go_wp2_with fail
            go_ret2
            exact .inl ⟨PB.out HBT.out, rfl, by rw [HZ.out]; exact HV2.out.1.1⟩
          · have c0 : wr.cell? ⟨Z, 0, none⟩ = some (.int .i64 2) := by rw [HV.out.2.2.1.cell 0, hp]; rfl
            have c2 : wr.cell? ⟨Z, 2, none⟩ = some (.slice A s.words.length c) := (HV.out.2.2.1.cell 2).trans rfl
            have HX := Lib.hid (PB.out HBT.out)
            clear hp
            go_wp2_with fail
            go_ret2
            exact .inl ⟨HX.out, rfl, by rw [HZ.out]; exact HV.out.1.1⟩
          · have c0 : wr.cell? ⟨Z, 0, none⟩ = some (.int .i64 3) := by rw [HV.out.2.2.1.cell 0, hp]; rfl
            have c2 : wr.cell? ⟨Z, 2, none⟩ = some (.slice A s.words.length c) := (HV.out.2.2.1.cell 2).trans rfl
            have HX := Lib.hid (PB.out HBT.out)
            clear hp
            go_wp2_with fail
            go_ret2
            exact .inl ⟨HX.out, rfl, by rw [HZ.out]; exact HV.out.1.1⟩
          · have c0 : wr.cell? ⟨Z, 0, none⟩ = some (.int .i64 4) := by rw [HV.out.2.2.1.cell 0, hp]; rfl
            have c2 : wr.cell? ⟨Z, 2, none⟩ = some (.slice A s.words.length c) := (HV.out.2.2.1.cell 2).trans rfl
            have HX := Lib.hid (PB.out HBT.out)
            clear hp
            go_wp2_with fail
            go_ret2
            exact .inl ⟨HX.out, rfl, by rw [HZ.out]; exact HV.out.1.1⟩
          · have c0 : wr.cell? ⟨Z, 0, none⟩ = some (.int .i64 5) := by rw [HV.out.2.2.1.cell 0, hp]; rfl
            have c2 : wr.cell? ⟨Z, 2, none⟩ = some (.slice A s.words.length c) := (HV.out.2.2.1.cell 2).trans rfl
            have HX := Lib.hid (PB.out HBT.out)
            clear hp
            go_wp2_with fail
            go_ret2
            exact .inl ⟨HX.out, rfl, by rw [HZ.out]; exact HV.out.1.1⟩
          · have c0 : wr.cell? ⟨Z, 0, none⟩ = some (.int .i64 6) := by rw [HV.out.2.2.1.cell 0, hp]; rfl
            have c2 : wr.cell? ⟨Z, 2, none⟩ = some (.slice A s.words.length c) := (HV.out.2.2.1.cell 2).trans rfl
            have HX := Lib.hid (PB.out HBT.out)
            clear hp
            go_wp2_with fail
            go_ret2
            exact .inl ⟨HX.out, rfl, by rw [HZ.out]; exact HV.out.1.1⟩
          · have c0 : wr.cell? ⟨Z, 0, none⟩ = some (.int .i64 7) := by rw [HV.out.2.2.1.cell 0, hp]; rfl
            have c2 : wr.cell? ⟨Z, 2, none⟩ = some (.slice A s.words.length c) := (HV.out.2.2.1.cell 2).trans rfl
            have HX := Lib.hid (PB.out HBT.out)
            clear hp
            go_wp2_with fail
            go_ret2
            exact .inl ⟨HX.out, rfl, by rw [HZ.out]; exact HV.out.1.1⟩
end Go.Proofs.YtcdhkeahcliefaaGreatDoor.LexE
