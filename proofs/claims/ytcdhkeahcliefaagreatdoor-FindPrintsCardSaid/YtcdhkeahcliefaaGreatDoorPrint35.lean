/- The document's cut. The document's forms in memory. -/
import Derived.Test.YtcdhkeahcliefaaGreatDoorPrint34
import Derived.Test.YtcdhkeahcliefaaGreatDoorPrint33
import Derived.Deep.AppendLies
/- The document's cut. -/
namespace Go.Proofs.YtcdhkeahcliefaaGreatDoor.RefF
open Go.ChangeShapes Go.WideShapes Go.ChangeAt Go.RowKit
open Go.Proofs.YtcdhkeahcliefaaGreatDoor.Kit Go.Proofs.YtcdhkeahcliefaaGreatDoor.Base Go.Proofs.YtcdhkeahcliefaaGreatDoor.Term Go.Proofs.YtcdhkeahcliefaaGreatDoor.Syn Go.Proofs.YtcdhkeahcliefaaGreatDoor.Gram Go.Proofs.YtcdhkeahcliefaaGreatDoor.GramB Go.Proofs.YtcdhkeahcliefaaGreatDoor.TokB Go.Proofs.YtcdhkeahcliefaaGreatDoor.RefD
open Go.Proofs.YtcdhkeahcliefaaGreatDoor.Tok (str_beq)
set_option linter.unusedVariables false

theorem info34 : (Tryz.prog.info? 34).map (fun i => (i.zero, i.size, i.bytes)) = some (some (.slice none 0 0), 1, 24) := by kernel_rfl
theorem el74 : El 74 34 1 24 := el_of Tryz.underlying74 info34 rfl (by decide) (by decide)
def subA (b o c f : Nat) : Option Addr := if c = f then some ⟨b, o, none⟩ else some ⟨b, o + f * 2, none⟩
/-- some of the words -/
theorem words_sub {w : World} {b o c : Nat} {l : List Wd} (h : WordsAt w (some ⟨b, o, none⟩) c l) (f k : Nat) (hf : f ≤ k) (hk : k ≤ l.length) : WordsAt w (subA b o c f) (c - f) ((l.take k).drop f) := by
  have hlen : ((l.take k).drop f).length = k - f := by rw [List.length_drop, List.length_take]; omega
  refine ⟨by rw [hlen]; have := h.1; omega, fun i hi => ?_⟩
  rw [hlen] at hi
  obtain ⟨b', o', e, h1, h2⟩ := h.2 (f + i) (by omega)
  cases e
  have hg : ((l.take k).drop f)[i]'(by rw [hlen]; exact hi) = l[f + i]'(by omega) := by rw [List.getElem_drop, List.getElem_take]
  rw [hg]
  unfold subA
  rw [if_neg (by have := h.1; omega)]
  refine ⟨_, _, rfl, ?_, ?_⟩
  · rw [show o + f * 2 + i * 2 = o + (f + i) * 2 from by omega]; exact h1
  · rw [show o + f * 2 + i * 2 + 1 = o + (f + i) * 2 + 1 from by omega]; exact h2
theorem words_some {w : World} {A : Option Addr} {c : Nat} {l : List Wd} (h : WordsAt w A c l) (h0 : 1 ≤ l.length) : ∃ b o, A = some ⟨b, o, none⟩ := by
  obtain ⟨b, o, e, _⟩ := h.2 0 (by omega)
  exact ⟨b, o, e⟩
/-- slices of words in memory -/
def PiecesAt (w : World) (vs : List Value) (ps : List (List Wd)) : Prop := vs.length = ps.length ∧ ∀ i (h : i < ps.length), ∃ A c, vs[i]? = some (.slice A ps[i].length c) ∧ WordsAt w A c ps[i]
theorem PiecesAt.below {w w' : World} {vs : List Value} {ps : List (List Wd)} (h : PiecesAt w vs ps) (hb : Below w.heap.size w w') : PiecesAt w' vs ps := ⟨h.1, fun i hi => by
  obtain ⟨A, c, e, hw⟩ := h.2 i hi
  exact ⟨A, c, e, hw.below hb⟩⟩
theorem PiecesAt.push {w : World} {vs : List Value} {ps : List (List Wd)} (h : PiecesAt w vs ps) {A : Option Addr} {c : Nat} {l : List Wd} (hl : WordsAt w A c l) : PiecesAt w (vs ++ [.slice A l.length c]) (ps ++ [l]) := by
  refine ⟨by rw [List.length_append, List.length_append, h.1]; rfl, fun i hi => ?_⟩
  by_cases hlt : i < ps.length
  · obtain ⟨A', c', e, hw⟩ := h.2 i hlt
    refine ⟨A', c', ?_, ?_⟩
    · rw [List.getElem?_append_left (by rw [h.1]; exact hlt), List.getElem_append_left hlt]; exact e
    · rw [List.getElem_append_left hlt]; exact hw
  · have hi2 : i = ps.length := by rw [List.length_append] at hi; simp at hi; omega
    subst hi2
    refine ⟨A, c, ?_, ?_⟩
    · rw [List.getElem?_append_right (by rw [h.1]; exact Nat.le_refl _), h.1, Nat.sub_self]; simp
    · rw [List.getElem_append_right (Nat.le_refl _)]; simp; exact hl
/-- the pieces under way -/
def Cs (Z : Nat) (w0 w : World) (A : Option Addr) (c : Nat) (ps : List (List Wd)) : Prop := Since Z w0 w ∧ ∃ vs, w.ownsRow Z 34 1 (.slice A ps.length c) ps.length vs ∧ PiecesAt w0 vs ps
def CutPost (ps : List (List Wd)) (w : World) (e : Ending) (w' : World) : Prop := ∃ A c, e = .returned (.slice A ps.length c) ∧ Hid (Cs w.heap.size w w' A c ps)
theorem Cs.next {Z : Nat} {w0 w w' : World} {A : Option Addr} {c : Nat} {ps : List (List Wd)} (h : Cs Z w0 w A c ps) (hb : Below w.heap.size w w') : Cs Z w0 w' A c ps := by
  obtain ⟨h1, vs, h2, h3⟩ := h
  exact ⟨h1.next hb, vs, owns_below h2 hb, h3⟩
set_option maxRecDepth 100000 in
set_option maxHeartbeats 6400000 in
theorem cut_any (kw : W) (A : Option Addr) (c : Nat) (l : List Wd) (w : World) (hs : Hid (WordsAt w A c l)) (h0 : 1 ≤ l.length) (hn : l.length ≤ 2048) :
    Calls Tryz.prog 22 #[.slice A l.length c, .string (str kw)] w (CutPost (cutP kw 0 [] l) w) := by
  obtain ⟨b, o, hA⟩ := words_some hs.out h0
  subst hA
  obtain ⟨R, hR⟩ : ∃ R, cutP kw 0 [] l = R := ⟨_, rfl⟩
  have HR := Lib.hid hR
  rw [hR]
  obtain ⟨n, hn1⟩ : ∃ n, l.length = n := ⟨_, rfl⟩
  have HN := Lib.hid hn1
  have HN9 : Hid (n ≤ 2048) := by rw [← hn1]; exact hn
  have HNC : Hid (n ≤ c) := by rw [← hn1]; exact hs.out.1
  obtain ⟨Z, hZ⟩ : ∃ Z, w.heap.size = Z := ⟨_, rfl⟩
  have HZ := Lib.hid hZ
  rw [hn1]
  have h1 : Hid (Cs Z w w none 0 []) := by rw [← hZ]; exact ⟨Since.refl w, [], World.ownsRow_nil _ _ _ _, rfl, fun i hi => absurd hi (Nat.not_lt_zero i)⟩
  clear hR hn1 hn hZ h0
  go_enter Tryz.func22, Tryz.ntmps22
  go_wp2_with fail
  go_loopg [5, 6, 7, 8] n (fun g v a d i wr => ∃ (k f : Nat) (dp : Int) (done : List (List Wd)) (A2 : Option Addr) (c2 : Nat), g = n - k ∧ k ≤ n ∧ f ≤ k ∧ v = .slice A2 done.length c2 ∧ a = .int .i64 f ∧ d = .int .i64 dp ∧ i = .int .i64 k ∧
    Hid (Cs Z w wr A2 c2 done) ∧ Hid (R = done ++ cutP kw dp ((l.take k).drop f) (l.drop k)) ∧ Hid (done.length ≤ k ∧ -4096 ≤ dp + (k : Int) ∧ dp ≤ (k : Int)))
  case atStart => exact ⟨0, 0, 0, [], none, 0, rfl, Nat.zero_le _, Nat.le_refl _, rfl, rfl, rfl, rfl, h1, HR.out.symm, Nat.le_refl _, by decide, by decide⟩
  case round =>
    obtain ⟨k, f, dp, done, A2, c2, rfl, hk, hfk, rfl, rfl, rfl, rfl, hp, hr, hd⟩ := hrel
    have HKN := Lib.hid hk
    have HFK := Lib.hid hfk
    have k9 : (k : Int) ≤ 2048 := by have := HN9.out; omega
    have k0 : (0 : Int) ≤ (k : Int) := by omega
    have f0 : (0 : Int) ≤ (f : Int) := by omega
    have fk : (f : Int) ≤ (k : Int) := by omega
    have kc : (k : Int) ≤ (c : Int) := by have := HNC.out; omega
    have dp1 : dp ≤ 2048 := by have := hd.out.2.2; omega
    have dp0 : -8192 ≤ dp := by have := hd.out.2.1; omega
    have HDL : Hid (done.length ≤ 2048) := by have := hd.out.1; have := HN9.out; show _ ≤ _; omega
    obtain ⟨A3, hA3⟩ : ∃ A3, subA b o c f = A3 := ⟨_, rfl⟩
    have hra : (if c = f then some { block := b, off := o } else some { block := b, off := o + f * 2 }) = A3 := hA3
    have hsr : Hid (WordsAt wr (some ⟨b, o, none⟩) c l) := hs.out.below (by rw [HZ.out]; exact hp.out.1.1)
    by_cases hlt : k < n
    · have hlti : (k : Int) < (n : Int) := by omega
      have HLT := Lib.hid hlt
      have hkl : k < l.length := by rw [HN.out]; exact hlt
      obtain ⟨b', o', e, c1, c2'⟩ := hsr.out.2 k hkl
      cases e
      have HDR : Hid (l.drop k = l[k] :: l.drop (k + 1)) := List.drop_eq_getElem_cons hkl
      have HTK : Hid ((l.take (k + 1)).drop f = (l.take k).drop f ++ [l[k]]) := by
        show _ = _
        rw [List.take_succ_eq_append_getElem hkl, List.drop_append_of_le_length (by rw [List.length_take]; omega)]
      have HMM : Hid (((l.take k).drop f).length = k - f) := by show _ = _; rw [List.length_drop, List.length_take]; omega
      have HW3 : Hid (WordsAt w A3 (c - f) ((l.take k).drop f)) := by rw [← hA3]; exact words_sub hs.out f k hfk (by omega)
      obtain ⟨s, p, hsp⟩ : ∃ s p, l[k] = ⟨s, p⟩ := ⟨_, _, rfl⟩
      rw [hsp] at c1 c2' HDR HTK
      have c1 : wr.cell? ⟨b, o + k * 2, none⟩ = some (.string (str s)) := c1
      have c2' : wr.cell? ⟨b, o + k * 2 + 1, none⟩ = some (.int .i64 p) := c2'
      generalize (l.take k).drop f = cur at *
      clear hsp hkl hlt hk hfk hA3 hsr
      by_cases q3 : p = 3
      · have HR2 : Hid (R = done ++ cutP kw (dp + 1) ((l.take (k + 1)).drop f) (l.drop (k + 1))) := by
          show _ = _
          rw [hr.out, HDR.out, HTK.out, q3, cut_step (fun h => absurd (show (3 : Int) = 1 from h.1) (by decide))]
          rfl
        subst q3
        have WD : IntKind.i64.wrap (dp + 1) = dp + 1 := IntWalk.i64_in _ (by omega)
        go_wp2_with fail
        go_roundg (n - (k + 1))
        case measure => have := HLT.out; omega
        case rel => exact ⟨k + 1, f, dp + 1, done, A2, c2, rfl, HLT.out, by have := HFK.out; omega, rfl, rfl, rfl, by go_num, hp, HR2, by have := hd.out.1; omega, by have := hd.out.2; omega, by have := hd.out.2; omega⟩
      by_cases q4 : p = 4
      · have HR2 : Hid (R = done ++ cutP kw (dp - 1) ((l.take (k + 1)).drop f) (l.drop (k + 1))) := by
          show _ = _
          rw [hr.out, HDR.out, HTK.out, q4, cut_step (fun h => absurd (show (4 : Int) = 1 from h.1) (by decide))]
          rfl
        subst q4
        have WD : IntKind.i64.wrap (dp - 1) = dp - 1 := IntWalk.i64_in _ (by omega)
        clear q3
        go_wp2_with fail
        go_roundg (n - (k + 1))
        case measure => have := HLT.out; omega
        case rel => exact ⟨k + 1, f, dp - 1, done, A2, c2, rfl, HLT.out, by have := HFK.out; omega, rfl, rfl, rfl, by go_num, hp, HR2, by have := hd.out.1; omega, by have := hd.out.2; omega, by have := hd.out.2; omega⟩
      have p3 : (p == 3) = false := beq_eq_false_iff_ne.2 q3
      have p4 : (p == 4) = false := beq_eq_false_iff_ne.2 q4
      have hsd : stepD dp p = dp := by unfold stepD; rw [if_neg q3, if_neg q4]
      by_cases q1 : p = 1 ∧ s = kw ∧ dp = 0
      · obtain ⟨rfl, rfl, rfl⟩ := q1
        have HR2 : Hid (R = (done ++ [cur]) ++ cutP s 0 ((l.take (k + 1)).drop (k + 1)) (l.drop (k + 1))) := by
          show _ = _
          have hnil : (l.take (k + 1)).drop (k + 1) = [] := List.drop_eq_nil_of_le (by rw [List.length_take]; omega)
          rw [hr.out, HDR.out, cut_at, hnil]
          simp
        have hcmp : ((str s).toList == (str s).toList) = true := beq_iff_eq.2 rfl
        obtain ⟨m3, hm3⟩ : ∃ m3, k - f = m3 := ⟨_, rfl⟩
        have HM3 := Lib.hid (HMM.out.trans hm3)
        obtain ⟨vs, hown, hpa⟩ := hp.out.2
        have HOWN : Hid (Since Z w wr ∧ wr.ownsRow Z 34 1 (.slice A2 done.length c2) done.length vs) := ⟨hp.out.1, hown⟩
        have HPA := Lib.hid hpa
        clear q3 q4 p3 p4 hsd hown hpa
        go_wp2_with (first | (at_builtin; go_loud (refine app_keep (v := .slice A2 done.length c2) el74 rfl (.tmp 50) (.tmp 55) rfl rfl HOWN #[.slice A3 m3 (c - f)] 1 1 rfl rfl (one_cell _ rfl) (by have := HDL.out; omega) ?_); intro A7 c7 w7 h7 hk7))
        go_roundg (n - (k + 1))
        case measure => have := HLT.out; omega
        case rel => exact ⟨k + 1, k + 1, 0, done ++ [cur], A7, c7, rfl, HLT.out, Nat.le_refl _, by rw [List.length_append]; rfl, by go_num, rfl, by go_num, ⟨h7.out.1, _, by rw [List.length_append]; exact h7.out.2, by have h := HPA.out.push HW3.out; rw [HM3.out] at h; exact h⟩, HR2, by have := hd.out.1; rw [List.length_append]; exact Nat.succ_le_succ this, by omega, by omega⟩
      · have HR2 : Hid (R = done ++ cutP kw dp ((l.take (k + 1)).drop f) (l.drop (k + 1))) := by
          show _ = _
          rw [hr.out, HDR.out, HTK.out, cut_step (by show ¬ (p = 1 ∧ s = kw ∧ stepD dp p = 0); rw [hsd]; exact q1)]
          show done ++ cutP kw (stepD dp p) _ _ = _
          rw [hsd]
        have HQ := Lib.hid q1
        clear q3 q4 q1 hsd
        by_cases r1 : p = 1
        · subst r1
          have hcmp := str_beq s kw
          by_cases r2 : s = kw
          · have r3 : (dp == 0) = false := beq_eq_false_iff_ne.2 (fun h => HQ.out ⟨rfl, r2, h⟩)
            rw [show (s == kw) = true from beq_iff_eq.2 r2] at hcmp
            clear r2
            go_wp2_with fail
            go_roundg (n - (k + 1))
            case measure => have := HLT.out; omega
            case rel => exact ⟨k + 1, f, dp, done, A2, c2, rfl, HLT.out, by have := HFK.out; omega, rfl, rfl, rfl, by go_num, hp, HR2, by have := hd.out.1; omega, by have := hd.out.2; omega, by have := hd.out.2; omega⟩
          · rw [show (s == kw) = false from beq_eq_false_iff_ne.2 r2] at hcmp
            clear r2
            go_wp2_with fail
            go_roundg (n - (k + 1))
            case measure => have := HLT.out; omega
            case rel => exact ⟨k + 1, f, dp, done, A2, c2, rfl, HLT.out, by have := HFK.out; omega, rfl, rfl, rfl, by go_num, hp, HR2, by have := hd.out.1; omega, by have := hd.out.2; omega, by have := hd.out.2; omega⟩
        · have p1 : (p == 1) = false := beq_eq_false_iff_ne.2 r1
          clear r1
          go_wp2_with fail
          go_roundg (n - (k + 1))
          case measure => have := HLT.out; omega
          case rel => exact ⟨k + 1, f, dp, done, A2, c2, rfl, HLT.out, by have := HFK.out; omega, rfl, rfl, rfl, by go_num, hp, HR2, by have := hd.out.1; omega, by have := hd.out.2; omega, by have := hd.out.2; omega⟩
    · have hlti : ¬ ((k : Int) < (n : Int)) := by omega
      obtain rfl : k = n := by omega
      have HW3 : Hid (WordsAt w A3 (c - f) ((l.take k).drop f)) := by rw [← hA3]; exact words_sub hs.out f k hfk (by rw [HN.out]; exact Nat.le_refl _)
      have HMM : Hid (((l.take k).drop f).length = k - f) := by show _ = _; rw [List.length_drop, List.length_take, HN.out]; omega
      have HR2 : Hid (R = done ++ [(l.take k).drop f]) := by
        show _ = _
        have hnil : l.drop k = [] := List.drop_eq_nil_of_le (by rw [HN.out]; exact Nat.le_refl _)
        rw [hr.out, hnil]
        rfl
      obtain ⟨m3, hm3⟩ : ∃ m3, k - f = m3 := ⟨_, rfl⟩
      have HM3 := Lib.hid (HMM.out.trans hm3)
      obtain ⟨vs, hown, hpa⟩ := hp.out.2
      have HOWN : Hid (Since Z w wr ∧ wr.ownsRow Z 34 1 (.slice A2 done.length c2) done.length vs) := ⟨hp.out.1, hown⟩
      have HPA := Lib.hid hpa
      generalize (l.take k).drop f = cur at *
      clear hlt hk hfk hA3 hsr hown hpa
      go_wp2_with (first | (at_builtin; go_loud (refine app_keep (v := .slice A2 done.length c2) el74 rfl (.tmp 59) (.tmp 63) rfl rfl HOWN #[.slice A3 m3 (c - f)] 1 1 rfl rfl (one_cell _ rfl) (by have := HDL.out; omega) ?_); intro A7 c7 w7 h7 hk7))
      go_ret
      exact ⟨A7, c7, by rw [HR2.out, List.length_append]; rfl, by rw [HZ.out, HR2.out]; exact ⟨h7.out.1, _, by rw [List.length_append]; exact h7.out.2, by have h := HPA.out.push HW3.out; rw [HM3.out] at h; exact h⟩⟩
end Go.Proofs.YtcdhkeahcliefaaGreatDoor.RefF
/- The document's forms in memory. -/
namespace Go.Proofs.YtcdhkeahcliefaaGreatDoor.RefG
open Go.ChangeShapes Go.WideShapes Go.ChangeAt Go.RowKit
open Go.Proofs.YtcdhkeahcliefaaGreatDoor.Kit Go.Proofs.YtcdhkeahcliefaaGreatDoor.Base Go.Proofs.YtcdhkeahcliefaaGreatDoor.Term Go.Proofs.YtcdhkeahcliefaaGreatDoor.Syn Go.Proofs.YtcdhkeahcliefaaGreatDoor.Gram Go.Proofs.YtcdhkeahcliefaaGreatDoor.GramB Go.Proofs.YtcdhkeahcliefaaGreatDoor.RefD
set_option linter.unusedVariables false

theorem info39 : (Tryz.prog.info? 39).map (fun i => (i.zero, i.size, i.bytes)) = some (some (.agg #[.string ⟨#[]⟩, .slice none 0 0, .slice none 0 0]), 3, 64) := by kernel_rfl
theorem el37 : El 37 39 3 64 := el_of Tryz.underlying37 info39 rfl (by decide) (by decide)
abbrev Fm := W × Value × Value
/-- a form's three cells -/
def Cell3 (w : World) (b o : Nat) (f : Fm) : Prop := w.cell? ⟨b, o, none⟩ = some (.string (str f.1)) ∧ w.cell? ⟨b, o + 1, none⟩ = some f.2.1 ∧ w.cell? ⟨b, o + 2, none⟩ = some f.2.2
def StrsIn (S : Nat → Prop) (w : World) (A : Option Addr) (l : List W) : Prop := ∀ i (h : i < l.length), ∃ b o, A = some ⟨b, o, none⟩ ∧ S b ∧ w.cell? ⟨b, o + i, none⟩ = some (.string (str l[i]))
/-- a slice's forms -/
def FormsIn (S : Nat → Prop) (w : World) (A : Option Addr) (fs : List Fm) : Prop := ∀ i (h : i < fs.length), ∃ b o, A = some ⟨b, o, none⟩ ∧ S b ∧ Cell3 w b (o + i * 3) fs[i]
/-- f is the form of t in the world w; what it holds lies in blocks of S -/
inductive FormIs (S : Nat → Prop) (w : World) : W → Value → Value → Term → Prop where
  | leaf {x r t} (A c) (h : leaf x r = .ok (t, r.length)) (hw : ∀ y ∈ r, y.length ≤ 1023) (hs : StrsIn S w A (x :: r)) : FormIs S w [] (.slice none 0 0) (.slice A (r.length + 1) c) t
  | not {t} (A c) (f : Fm) (h : FormIs S w f.1 f.2.1 f.2.2 t) (hc : FormsIn S w A [f]) : FormIs S w wNot (.slice A 1 c) (.slice none 0 0) (.not t)
  | has {t} (A c) (f : Fm) (h : FormIs S w f.1 f.2.1 f.2.2 t) (hc : FormsIn S w A [f]) : FormIs S w wHas (.slice A 1 c) (.slice none 0 0) (.has t)
  | both (A c) (fs : List Fm) (l : List Term) (hn : fs.length = l.length) (hc : FormsIn S w A fs) (hl : ∀ (i : Nat) (f : Fm) (t : Term), fs[i]? = some f → l[i]? = some t → FormIs S w f.1 f.2.1 f.2.2 t) : FormIs S w wAnd (.slice A l.length c) (.slice none 0 0) (.both l)
  | either (A c) (fs : List Fm) (l : List Term) (hn : fs.length = l.length) (hc : FormsIn S w A fs) (hl : ∀ (i : Nat) (f : Fm) (t : Term), fs[i]? = some f → l[i]? = some t → FormIs S w f.1 f.2.1 f.2.2 t) : FormIs S w wOr (.slice A l.length c) (.slice none 0 0) (.either l)
/-- f is a form of t -/
def FIs (S : Nat → Prop) (w : World) (f : Fm) (t : Term) : Prop := FormIs S w f.1 f.2.1 f.2.2 t
theorem cell_far {C : Nat → Prop} {w w' : World} (h : Chg C w w') {b o : Nat} {v : Value} (hn : ¬ C b) (hc : w.cell? ⟨b, o, none⟩ = some v) : w'.cell? ⟨b, o, none⟩ = some v := chg_cell h hn hc
theorem Cell3.chg {C : Nat → Prop} {w w' : World} {b o : Nat} {f : Fm} (h : Cell3 w b o f) (hb : Chg C w w') (hn : ¬ C b) : Cell3 w' b o f := ⟨cell_far hb hn h.1, cell_far hb hn h.2.1, cell_far hb hn h.2.2⟩
theorem FormsIn.chg {S C : Nat → Prop} {w w' : World} {A : Option Addr} {fs : List Fm} (h : FormsIn S w A fs) (hb : Chg C w w') (hS : ∀ k, S k → ¬ C k) : FormsIn S w' A fs := fun i hi => by
  obtain ⟨b, o, e, hs, hc⟩ := h i hi
  exact ⟨b, o, e, hs, hc.chg hb (hS b hs)⟩
theorem StrsIn.chg {S C : Nat → Prop} {w w' : World} {A : Option Addr} {l : List W} (h : StrsIn S w A l) (hb : Chg C w w') (hS : ∀ k, S k → ¬ C k) : StrsIn S w' A l := fun i hi => by
  obtain ⟨b, o, e, hs, hc⟩ := h i hi
  exact ⟨b, o, e, hs, cell_far hb (hS b hs) hc⟩
theorem FormsIn.mono {S T : Nat → Prop} {w : World} {A : Option Addr} {fs : List Fm} (h : FormsIn S w A fs) (hST : ∀ k, k < w.heap.size → S k → T k) : FormsIn T w A fs := fun i hi => by
  obtain ⟨b, o, e, hs, hc⟩ := h i hi
  exact ⟨b, o, e, hST b (World.block_lt_of_cell? w _ hc.1) hs, hc⟩
theorem StrsIn.mono {S T : Nat → Prop} {w : World} {A : Option Addr} {l : List W} (h : StrsIn S w A l) (hST : ∀ k, k < w.heap.size → S k → T k) : StrsIn T w A l := fun i hi => by
  obtain ⟨b, o, e, hs, hc⟩ := h i hi
  exact ⟨b, o, e, hST b (World.block_lt_of_cell? w _ hc) hs, hc⟩
theorem FormIs.chg {S C : Nat → Prop} {w w' : World} {op : W} {vu vw : Value} {t : Term} (h : FormIs S w op vu vw t) (hb : Chg C w w') (hS : ∀ k, S k → ¬ C k) : FormIs S w' op vu vw t := by
  induction h with
  | leaf A c h hw hs => exact .leaf A c h hw (hs.chg hb hS)
  | not A c f h hc ih => exact .not A c f ih (hc.chg hb hS)
  | has A c f h hc ih => exact .has A c f ih (hc.chg hb hS)
  | both A c fs l hn hc hl ih => exact .both A c fs l hn (hc.chg hb hS) ih
  | either A c fs l hn hc hl ih => exact .either A c fs l hn (hc.chg hb hS) ih
theorem FormIs.mono {S T : Nat → Prop} {w : World} {op : W} {vu vw : Value} {t : Term} (h : FormIs S w op vu vw t) (hST : ∀ k, k < w.heap.size → S k → T k) : FormIs T w op vu vw t := by
  induction h with
  | leaf A c h hw hs => exact .leaf A c h hw (hs.mono hST)
  | not A c f h hc ih => exact .not A c f ih (hc.mono hST)
  | has A c f h hc ih => exact .has A c f ih (hc.mono hST)
  | both A c fs l hn hc hl ih => exact .both A c fs l hn (hc.mono hST) ih
  | either A c fs l hn hc hl ih => exact .either A c fs l hn (hc.mono hST) ih
theorem FIs.later {S : Nat → Prop} {w w' : World} {f : Fm} {t : Term} (h : FIs S w f t) (hb : Below w.heap.size w w') : FIs S w' f t := FormIs.chg h (Chg.of_below (S := fun _ => False) hb) (fun _ _ h => h)
/-- the values of a form -/
def fval (f : Fm) : Value := .agg #[.string (str f.1), f.2.1, f.2.2]
def fcells (fs : List Fm) : List Value := fs.flatMap fun f => [.string (str f.1), f.2.1, f.2.2]
theorem fcells_append (a b : List Fm) : fcells (a ++ b) = fcells a ++ fcells b := by simp [fcells]
theorem fcells_len (l : List Fm) : (fcells l).length = l.length * 3 := by
  induction l with
  | nil => rfl
  | cons f l ih =>
    show (_ :: _ :: _ :: fcells l).length = _
    simp only [List.length_cons, ih]
    omega
theorem fcells_at (l : List Fm) : ∀ i (h : i < l.length), (fcells l)[i * 3]? = some (.string (str l[i].1)) ∧ (fcells l)[i * 3 + 1]? = some l[i].2.1 ∧ (fcells l)[i * 3 + 2]? = some l[i].2.2 := by
  induction l with
  | nil => intro i h; exact absurd h (Nat.not_lt_zero i)
  | cons f l ih =>
    intro i h
    have e : fcells (f :: l) = Value.string (str f.1) :: f.2.1 :: f.2.2 :: fcells l := rfl
    rw [e]
    cases i with
    | zero => exact ⟨rfl, rfl, rfl⟩
    | succ i =>
      rw [show (i + 1) * 3 = i * 3 + 1 + 1 + 1 from by omega]
      simp only [List.getElem?_cons_succ, List.getElem_cons_succ]
      exact ih i (by simpa using h)
/-- what slices a form has -/
theorem form_slices {S : Nat → Prop} {w : World} {op : W} {vu vw : Value} {t : Term} (h : FormIs S w op vu vw t) : (∃ A n c, vu = .slice A n c) ∧ (∃ A n c, vw = .slice A n c) := by
  cases h <;> exact ⟨⟨_, _, _, rfl⟩, ⟨_, _, _, rfl⟩⟩
/-- an or, or something else -/
theorem form_or {S : Nat → Prop} {w : World} {op : W} {vu vw : Value} {t : Term} (h : FormIs S w op vu vw t) : (∃ A c fs l, op = wOr ∧ vu = .slice A l.length c ∧ vw = .slice none 0 0 ∧ t = .either l ∧ fs.length = l.length ∧ FormsIn S w A fs ∧ ∀ (i : Nat) (f : Fm) (t : Term), fs[i]? = some f → l[i]? = some t → FormIs S w f.1 f.2.1 f.2.2 t) ∨ (op ≠ wOr ∧ flatE t = [t]) := by
  cases h with
  | leaf A c h hw hs => exact .inr ⟨by decide, by
      have := (leaf_fine h).2.2
      unfold flatE
      split
      · exact absurd rfl (this _)
      · rfl⟩
  | not A c f h hc => exact .inr ⟨by decide, rfl⟩
  | has A c f h hc => exact .inr ⟨by decide, rfl⟩
  | both A c fs l hn hc hl => exact .inr ⟨by decide, rfl⟩
  | either A c fs l hn hc hl => exact .inl ⟨A, c, fs, l, rfl, rfl, rfl, rfl, hn, hc, hl⟩
theorem form_and {S : Nat → Prop} {w : World} {op : W} {vu vw : Value} {t : Term} (h : FormIs S w op vu vw t) : (∃ A c fs l, op = wAnd ∧ vu = .slice A l.length c ∧ vw = .slice none 0 0 ∧ t = .both l ∧ fs.length = l.length ∧ FormsIn S w A fs ∧ ∀ (i : Nat) (f : Fm) (t : Term), fs[i]? = some f → l[i]? = some t → FormIs S w f.1 f.2.1 f.2.2 t) ∨ (op ≠ wAnd ∧ flatB t = [t]) := by
  cases h with
  | leaf A c h hw hs => exact .inr ⟨by decide, by
      have := (leaf_fine h).2.1
      unfold flatB
      split
      · exact absurd rfl (this _)
      · rfl⟩
  | not A c f h hc => exact .inr ⟨by decide, rfl⟩
  | has A c f h hc => exact .inr ⟨by decide, rfl⟩
  | both A c fs l hn hc hl => exact .inl ⟨A, c, fs, l, rfl, rfl, rfl, rfl, hn, hc, hl⟩
  | either A c fs l hn hc hl => exact .inr ⟨by decide, rfl⟩
theorem owns_forms {w : World} {Z n c : Nat} {A : Option Addr} {fs : List Fm} (h : w.ownsRow Z 39 3 (.slice A n c) n (fcells fs)) : FormsIn (fun k => Z ≤ k) w A fs := fun i hi => by
  obtain ⟨A', c', e, hc⟩ := owns_slice h
  cases e
  obtain ⟨h1, h2, h3⟩ := fcells_at fs i hi
  obtain ⟨ad, e1, q1⟩ := hc _ _ h1
  obtain ⟨ad2, e2, q2⟩ := hc _ _ h2
  obtain ⟨ad3, e3, q3⟩ := hc _ _ h3
  rw [e1] at e2 e3
  cases e2
  cases e3
  rcases h.2 with ⟨h0, hn⟩ | ⟨g, cap, cur, hv, hb, _⟩
  · rw [e1] at h0; cases h0
  · rw [e1] at hv
    injection hv with hv _ _
    cases hv
    rw [add_block] at q1 q2 q3
    exact ⟨g, 0, e1, hb, by rw [Nat.zero_add]; exact q1, by rw [Nat.zero_add]; exact q2, by rw [Nat.zero_add]; exact q3⟩
/-- forms appended, as one step of a region that draws -/
theorem step_forms {ops : Array Oper} {o : Oper} {a : Act} {K : Act → World → Prop} {Q : Exit → Act → World → Prop} {E0 : Prop} {w : World} (hgd : o.guard = none) (s x : Operand)
    (ho : o.op = .call { callee := .builtin .append, args := #[s, x], argTypes := #[37, 37] }) {Z n c : Nat} {A : Option Addr} {xs : List Value} (hs : a.eval s = .slice A n c) (H : Hid (w.ownsRow Z 39 3 (.slice A n c) n xs ∧ Z ≤ w.heap.size))
    (ad : Addr) (m c' : Nat) (news : List Value) (hx : a.eval x = .slice (some ad) m c') (hm : Hid (0 < m)) (hcs : news.length = m * 3) (hnews : Hid (∀ j u, news[j]? = some u → w.cell? (ad.add j) = some u)) (hone : Hid (∀ u ∈ news, u.oneCell' = true)) (hb : Hid (n + m ≤ 4096))
    (hK : ∀ g c7 w', Hid (w'.ownsRow Z 39 3 (.slice (some ⟨g, 0, none⟩) (n + m) c7) (n + m) (xs ++ news)) → Hid (Chg (fun k => (Value.slice A n c).ownBlock = some k) w w') → K (a.put o.dst (.slice (some ⟨g, 0, none⟩) (n + m) c7)) w') :
    if Region.wanted o (yielded ops a.tmps) = true then Oper.wp Tryz.prog o a w K Q else E0 := by
  obtain ⟨i, z, h1, h2, h3, h4, h5, h6, h7, h8⟩ := el37
  have hb2 := hb.out
  refine step_append_lies _ hgd s x 37 ho Z 39 i z 3 64 h1 h2 h3 h4 h5 h6 h7 (.slice A n c) n xs hs H.out.1 ad m c' news hx hcs hnews.out hone.out hm.out (by unfold maxLen; omega) (by omega) H.out.2 _ rfl ?_
  intro g cap w' hown' hgrow _ _
  exact hK g cap w' hown' ⟨hgrow.os, hgrow.tape, hgrow.output, hgrow.size, fun k hk hn => hgrow.block k hk (fun e => hn e.symm)⟩
theorem list_forms {ops : Array Oper} {rest : List Oper} {o : Oper} {a : Act} {Q : Exit → Act → World → Prop} {w : World} (hgd : o.guard = none) (s x : Operand)
    (ho : o.op = .call { callee := .builtin .append, args := #[s, x], argTypes := #[37, 37] }) {Z n c : Nat} {A : Option Addr} {xs : List Value} (hs : a.eval s = .slice A n c) (H : Hid (w.ownsRow Z 39 3 (.slice A n c) n xs ∧ Z ≤ w.heap.size))
    (ad : Addr) (m c' : Nat) (news : List Value) (hx : a.eval x = .slice (some ad) m c') (hm : Hid (0 < m)) (hcs : news.length = m * 3) (hnews : Hid (∀ j u, news[j]? = some u → w.cell? (ad.add j) = some u)) (hone : Hid (∀ u ∈ news, u.oneCell' = true)) (hb : Hid (n + m ≤ 4096))
    (hK : ∀ g c7 w', Hid (w'.ownsRow Z 39 3 (.slice (some ⟨g, 0, none⟩) (n + m) c7) (n + m) (xs ++ news)) → Hid (Chg (fun k => (Value.slice A n c).ownBlock = some k) w w') → wpList Tryz.prog ops Q rest (a.put o.dst (.slice (some ⟨g, 0, none⟩) (n + m) c7)) w') :
    wpList Tryz.prog ops Q (o :: rest) a w := by
  obtain ⟨i, z, h1, h2, h3, h4, h5, h6, h7, h8⟩ := el37
  have hb2 := hb.out
  refine wpList_append_lies _ hgd s x 37 ho Z 39 i z 3 64 h1 h2 h3 h4 h5 h6 h7 (.slice A n c) n xs hs H.out.1 ad m c' news hx hcs hnews.out hone.out hm.out (by unfold maxLen; omega) (by omega) H.out.2 _ rfl ?_
  intro g cap w' hown' hgrow _ _
  exact hK g cap w' hown' ⟨hgrow.os, hgrow.tape, hgrow.output, hgrow.size, fun k hk hn => hgrow.block k hk (fun e => hn e.symm)⟩
theorem forms_news {S : Nat → Prop} {w : World} {b o : Nat} {fs : List Fm} (h : FormsIn S w (some ⟨b, o, none⟩) fs) : ∀ j u, (fcells fs)[j]? = some u → w.cell? ((⟨b, o, none⟩ : Addr).add j) = some u := fun j u hu => by
  have hj : j < fs.length * 3 := by rw [← fcells_len]; exact (List.getElem?_eq_some_iff.1 hu).1
  obtain ⟨b', o', e, _, h1, h2, h3⟩ := h (j / 3) (by omega)
  cases e
  obtain ⟨q1, q2, q3⟩ := fcells_at fs (j / 3) (by omega)
  rw [add_off]
  have hr : j % 3 = 0 ∨ j % 3 = 1 ∨ j % 3 = 2 := by omega
  rcases hr with hr | hr | hr
  · have ej : j / 3 * 3 = j := by omega
    rw [ej] at q1 h1
    rw [q1] at hu
    cases hu
    exact h1
  · have ej : j / 3 * 3 + 1 = j := by omega
    rw [ej] at q2
    rw [show o + j / 3 * 3 + 1 = o + j from by omega] at h2
    rw [q2] at hu
    cases hu
    exact h2
  · have ej : j / 3 * 3 + 2 = j := by omega
    rw [ej] at q3
    rw [show o + j / 3 * 3 + 2 = o + j from by omega] at h3
    rw [q3] at hu
    cases hu
    exact h3
theorem forms_one {fs : List Fm} (h : ∀ f ∈ fs, (∃ A n c, f.2.1 = .slice A n c) ∧ (∃ A n c, f.2.2 = .slice A n c)) : ∀ u ∈ fcells fs, u.oneCell' = true := fun u hu => by
  unfold fcells at hu
  obtain ⟨f, hf, hu⟩ := List.mem_flatMap.1 hu
  obtain ⟨⟨A, n, c, h1⟩, ⟨A', n', c', h2⟩⟩ := h f hf
  rw [h1, h2] at hu
  simp at hu
  rcases hu with rfl | rfl | rfl <;> rfl
/-- a list of forms that grows in a form's own cell -/
def Js (w2 wr : World) (B Z : Nat) (op : W) (A : Option Addr) (c : Nat) (ds : List Fm) : Prop :=
  Chg (fun k => k = B) w2 wr ∧ w2.heap.size = Z ∧ B < Z ∧ Blk wr B #[.string (str op), .slice A ds.length c, .slice none 0 0] 39 ∧ wr.ownsRow Z 39 3 (.slice A ds.length c) ds.length (fcells ds) ∧ Z ≤ wr.heap.size
theorem Js.next {w2 wr w' : World} {B Z : Nat} {op : W} {A : Option Addr} {c : Nat} {ds : List Fm} (h : Js w2 wr B Z op A c ds) (hb : Below wr.heap.size wr w') : Js w2 w' B Z op A c ds :=
  ⟨h.1.trans (Chg.of_below hb), h.2.1, h.2.2.1, h.2.2.2.1.below hb h.2.2.2.1.lt, owns_below h.2.2.2.2.1 hb, Nat.le_trans h.2.2.2.2.2 hb.size⟩
theorem Js.grown {w2 wr w' : World} {B Z g n' c7 : Nat} {op : W} {A : Option Addr} {c : Nat} {ds es : List Fm} (h : Js w2 wr B Z op A c ds) (hn : (ds ++ es).length = n') (hown : w'.ownsRow Z 39 3 (.slice (some ⟨g, 0, none⟩) n' c7) n' (fcells ds ++ fcells es)) (hc : Chg (fun k => (Value.slice A ds.length c).ownBlock = some k) wr w') :
    Js w2 (w'.setCell ⟨B, 1, none⟩ (.slice (some ⟨g, 0, none⟩) n' c7)) B Z op (some ⟨g, 0, none⟩) c7 (ds ++ es) := by
  subst hn
  obtain ⟨h1, h2, h3, h4, h5, h6⟩ := h
  have hnb : ¬ (Value.slice A ds.length c).ownBlock = some B := fun e => by have := (h5.lt B e).1; omega
  have hblk : Blk w' B #[.string (str op), .slice A ds.length c, .slice none 0 0] 39 := hc.blk h4 hnb
  have hgB : g ≠ B := by have := (hown.lt g rfl).1; omega
  refine ⟨?_, h2, h3, hblk.put 1 _, ?_, ?_⟩
  · have hc2 : Chg (fun k => k = B) w2 w' := ⟨hc.os.trans h1.os, hc.tape.trans h1.tape, hc.output.trans h1.output, Nat.le_trans h1.size hc.size, fun k hk hn => (hc.block k (Nat.lt_of_lt_of_le hk h1.size) (fun e => by have := (h5.lt k e).1; omega)).trans (h1.block k hk hn)⟩
    exact hc2.trans (Chg.of_only ((Only.refl B w').setCell ⟨B, 1, none⟩ rfl _) rfl)
  · rw [fcells_append]
    exact owns_chg hown (Chg.of_only (S := fun k => k = B) ((Only.refl B w').setCell ⟨B, 1, none⟩ rfl _) rfl) (fun k hk e => by omega)
  · rw [World.size_setCell]
    exact Nat.le_trans h6 hc.size
end Go.Proofs.YtcdhkeahcliefaaGreatDoor.RefG
