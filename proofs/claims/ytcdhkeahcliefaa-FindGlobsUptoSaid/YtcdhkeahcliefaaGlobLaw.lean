/- FindGlobs: what patterns are for, where what is read is of small bulk. -/
import Derived.Test.YtcdhkeahcliefaaGlobWalk
import Derived.Deep.RegionHeld3
import Derived.Deep.CutBlock
import Derived.Deep.DeepCutAuto
namespace Go.Proofs.Ytcdhkeahcliefaa.GlobLaw
open Go.ChangeShapes Go.WideShapes Go.ChangeAt Go.RowKit
open Go.Proofs.Ytcdhkeahcliefaa.Kit Go.Proofs.Ytcdhkeahcliefaa.Pat Go.Proofs.Ytcdhkeahcliefaa.PatA Go.Proofs.Ytcdhkeahcliefaa.Glob Go.Proofs.Ytcdhkeahcliefaa.GlobRun Go.Proofs.Ytcdhkeahcliefaa.GlobWalk
set_option linter.unusedVariables false

/-- nothing below B has turned since w0, and B lies within -/
def Since (B : Nat) (w0 w : World) : Prop := Below B w0 w ∧ B ≤ w.heap.size
theorem Since.next {B : Nat} {w0 w w' : World} (h : Since B w0 w) (hb : Below w.heap.size w w') : Since B w0 w' := ⟨h.1.trans (hb.mono h.2), Nat.le_trans h.2 hb.size⟩
theorem Since.drew {B : Nat} {w0 w : World} (h : Since B w0 w) : Since B w0 w.drew := ⟨h.1.drew, h.2⟩
theorem Since.alloc {B : Nat} {w0 w : World} (h : Since B w0 w) (o : Obj) : Since B w0 (w.alloc o) := ⟨h.1.alloc h.2 o, by simp; have := h.2; omega⟩
theorem esc_at (s : ByteArray) (w w0 : World) (B : Nat) (hs : s.size ≤ 1048576) (h : Hid (Since B w0 w)) : Calls Try.prog 12 #[.string s] w fun e w' => e = .returned (.string (escText s)) ∧ Hid (Since B w0 w') ∧ Hid (Below w.heap.size w w') := by
  refine (escaped_any s w hs).mono ?_
  rintro e w' ⟨rfl, hb⟩
  exact ⟨rfl, h.out.next hb.out, hb⟩
theorem clear_at (s : ByteArray) (w w0 : World) (B : Nat) (hs : s.size ≤ 1048576) (h : Hid (Since B w0 w)) : Calls Try.prog 13 #[.string s] w fun e w' => e = .returned (.bool (clear1 s)) ∧ Hid (Since B w0 w') ∧ Hid (Below w.heap.size w w') := by
  refine (clear_any s w hs).mono ?_
  rintro e w' ⟨rfl, hb⟩
  exact ⟨rfl, h.out.next hb.out, hb⟩
theorem matches_at (p t : ByteArray) (want : Bool) (w w0 : World) (B : Nat) (hok : Ok p t want) (h : Hid (Since B w0 w)) : Calls Try.prog 11 #[.string p, .string t, .bool want] w fun e w' => e = .returned (.bool true) ∧ Hid (Since B w0 w') ∧ Hid (Below w.heap.size w w') := by
  refine (matches_any p t want w hok).mono ?_
  rintro e w' ⟨rfl, hb⟩
  exact ⟨rfl, h.out.next hb.out, hb⟩
theorem ok1 : Ok ⟨#[120, 42, 122]⟩ ⟨#[120, 121, 122]⟩ true := by
  refine ok_of (l := [.byte 120, .star, .byte 122]) ?_ (by decide)
  refine .step (p := .byte 120) (j := 1) (by decide) (.byte (by decide) (by decide) (by decide) (by decide)) (.step (p := .star) (j := 2) (by decide) (.star (by decide) (.stop (by decide))) (.step (p := .byte 122) (j := 3) (by decide) (.byte (by decide) (by decide) (by decide) (by decide)) (.stop (by decide))))
theorem ok2 : Ok ⟨#[120, 63, 122]⟩ ⟨#[120, 47, 122]⟩ false := by
  refine ok_of (l := [.byte 120, .any1, .byte 122]) ?_ (by decide)
  refine .step (p := .byte 120) (j := 1) (by decide) (.byte (by decide) (by decide) (by decide) (by decide)) (.step (p := .any1) (j := 2) (by decide) (.any1 (by decide)) (.step (p := .byte 122) (j := 3) (by decide) (.byte (by decide) (by decide) (by decide) (by decide)) (.stop (by decide))))
theorem ok_self (a : ByteArray) : Ok (escText a) a true := ok_of (run_lits (bs_esc a)) ((lits_iff a a).2 rfl)
theorem ok_other (a t : ByteArray) : Ok (escText a) t (a.toList == t.toList) := by
  refine ok_of (run_lits (bs_esc a)) (bool_of_iff ?_)
  rw [lits_iff, beq_iff_eq, Lib.toList_data, Lib.toList_data]
  constructor
  · rintro rfl; rfl
  · intro h
    cases a
    cases t
    congr 1
    exact Array.toList_inj.1 h
/-- the text of one byte -/
def one (c : Nat) : ByteArray := ⟨#[UInt8.ofNat c]⟩
theorem bs_one {c : Nat} (h : c < 256) : bs (one c) = [c] := by
  unfold bs one
  simp
  omega
def lit (l : List UInt8) : ByteArray := ⟨l.toArray⟩
theorem bs_lit (l : List UInt8) : bs (lit l) = l.map UInt8.toNat := by
  unfold bs lit
  simp
theorem ok_star (a m b : ByteArray) : Ok (escText a ++ ⟨#[42]⟩ ++ escText b) (a ++ m ++ b) (clear1 m) := by
  have h : bs (escText a ++ ⟨#[42]⟩ ++ escText b) = esc (bs a) ++ ([42] ++ esc (bs b)) := by
    rw [bs_append, bs_append, bs_esc, bs_esc, List.append_assoc]
    rfl
  exact ok_of (run_mid h (by decide) (mid_star h)) (star_is a m b)
theorem ok_stars (a m b : ByteArray) : Ok (escText a ++ ⟨#[42, 42]⟩ ++ escText b) (a ++ m ++ b) true := by
  have h : bs (escText a ++ ⟨#[42, 42]⟩ ++ escText b) = esc (bs a) ++ ([42, 42] ++ esc (bs b)) := by
    rw [bs_append, bs_append, bs_esc, bs_esc, List.append_assoc]
    rfl
  exact ok_of (run_mid h (by decide) (mid_stars h)) (stars_is a m b)
theorem ok_any (a b : ByteArray) {c : Nat} (hc : c < 256) : Ok (escText a ++ ⟨#[63]⟩ ++ escText b) (a ++ one c ++ b) (c != 47) := by
  have h : bs (escText a ++ ⟨#[63]⟩ ++ escText b) = esc (bs a) ++ ([63] ++ esc (bs b)) := by
    rw [bs_append, bs_append, bs_esc, bs_esc, List.append_assoc]
    rfl
  refine ok_of (run_mid h (by decide) (mid_any h)) ?_
  rw [one_is a (one c) b .any1 rfl (by rw [← bs_length, bs_one hc]; rfl)]
  rw [gb_bs, bs_one hc]
  rfl

theorem esc_size (a : ByteArray) : (escText a).size = 2 * a.size := by
  rw [← bs_length, bs_esc, esc_length, bs_length]
theorem one_size (c : Nat) : (one c).size = 1 := rfl
/-- a fresh slice of one byte as a text -/
theorem conv1 {c : Nat} (hc : c < 256) (w : World) : (convert 39 9 (.slice (some ⟨w.heap.size, 0, none⟩) 1 1)).run Try.prog (w.alloc (.cells #[.int .u8 (c : Int)] 5)) = .ok (.string (one c)) (w.alloc (.cells #[.int .u8 (c : Int)] 5)) := by
  have hv : bv (UInt8.ofNat c) = .int .u8 (c : Int) := by
    unfold bv v8
    congr 2
    simp
    omega
  have hb := Blk.new w #[.int .u8 (c : Int)] 5
  have h := string_own (w := w.alloc (.cells #[.int .u8 (c : Int)] 5)) (base := w.heap.size) (n := 1) (v := .slice (some ⟨w.heap.size, 0, none⟩) 1 1) (l := [UInt8.ofNat c]) (by
    rw [List.map_cons, List.map_nil, hv]
    exact ⟨rfl, .inr ⟨w.heap.size, 1, _, rfl, Nat.le_refl _, hb, by decide, by decide, by simp, by simp⟩⟩)
  exact h

theorem conv2 {c g : Nat} (hc : c < 256) (w : World) (h : g = w.heap.size) : (convert 39 9 (.slice (some ⟨g, 0, none⟩) 1 1)).run Try.prog (w.alloc (.cells #[.int .u8 (c : Int)] 5)) = .ok (.string (one c)) (w.alloc (.cells #[.int .u8 (c : Int)] 5)) := by
  subst h
  exact conv1 hc w
theorem conv_blk {c g : Nat} {w : World} (h : Hid (Blk w g #[.int .u8 (c : Int)] 5)) (hc : c < 256) : (convert 39 9 (.slice (some ⟨g, 0, none⟩) 1 1)).run Try.prog w = .ok (.string (one c)) w := by
  have hv : bv (UInt8.ofNat c) = .int .u8 (c : Int) := by
    unfold bv v8
    congr 2
    simp
    omega
  have hb := h.out
  have h := string_own (w := w) (base := g) (n := 1) (v := .slice (some ⟨g, 0, none⟩) 1 1) (l := [UInt8.ofNat c]) (by
    rw [List.map_cons, List.map_nil, hv]
    exact ⟨rfl, .inr ⟨g, 1, _, rfl, Nat.le_refl _, hb, by decide, by decide, by simp, by simp⟩⟩)
  exact h
theorem blk_new {c : Nat} {w w' : World} (h : Hid (Below (w.alloc (.cells #[.int .u8 (c : Int)] 5)).heap.size (w.alloc (.cells #[.int .u8 (c : Int)] 5)) w')) : Hid (Blk w' w.heap.size #[.int .u8 (c : Int)] 5) :=
  (Blk.new w #[.int .u8 (c : Int)] 5).below h.out (by simp)
theorem blk_keep {c g : Nat} {w w' : World} (h : Hid (Below w.heap.size w w')) (hb : Hid (Blk w g #[.int .u8 (c : Int)] 5)) : Hid (Blk w' g #[.int .u8 (c : Int)] 5) :=
  hb.out.below h.out hb.out.lt

theorem bs_escone {c : Nat} (h : c < 256) : bs (escText (one c)) = [92, c] := by
  rw [bs_esc, bs_one h]
  rfl
def rangeOf (lo hi : Nat) : ByteArray := ⟨#[91]⟩ ++ escText (one lo) ++ ⟨#[45]⟩ ++ escText (one hi) ++ ⟨#[93]⟩
def notOf (lo hi : Nat) : ByteArray := ⟨#[91, 33]⟩ ++ escText (one lo) ++ ⟨#[45]⟩ ++ escText (one hi) ++ ⟨#[93]⟩
def twoOf (a b : ByteArray) (lo hi : Nat) : ByteArray := escText a ++ ⟨#[91]⟩ ++ escText (one lo) ++ escText (one hi) ++ ⟨#[93]⟩ ++ escText b
theorem bs_range {lo hi : Nat} (h1 : lo < 256) (h2 : hi < 256) : bs (rangeOf lo hi) = [91, 92, lo, 45, 92, hi, 93] := by
  unfold rangeOf
  rw [bs_append, bs_append, bs_append, bs_append, bs_escone h1, bs_escone h2]
  rfl
theorem bs_not {lo hi : Nat} (h1 : lo < 256) (h2 : hi < 256) : bs (notOf lo hi) = [91, 33, 92, lo, 45, 92, hi, 93] := by
  unfold notOf
  rw [bs_append, bs_append, bs_append, bs_append, bs_escone h1, bs_escone h2]
  rfl
theorem run_range {lo hi : Nat} (h1 : lo < 256) (h2 : hi < 256) : if hi < lo then Run (rangeOf lo hi) 0 [] none else Run (rangeOf lo hi) 0 [] (some [.set (last false (add (fun _ => false) lo hi))]) := by
  have hb := bs_range h1 h2
  have g : ∀ k, gb (rangeOf lo hi) k = [91, 92, lo, 45, 92, hi, 93].getD k 0 := fun k => by rw [gb_bs, hb]
  have hs : (rangeOf lo hi).size = 7 := by rw [← bs_length, hb]; rfl
  have ht : Turned (rangeOf lo hi) 1 = false := by unfold Turned; rw [g 1]; simp
  exact set_range (n := 1) (g 0) (by unfold past; rw [ht]; rfl) ht (g 1) (g 2) (g 3) (g 4) (g 5) (g 6) hs
theorem run_not {lo hi : Nat} (h1 : lo < 256) (h2 : hi < 256) : if hi < lo then Run (notOf lo hi) 0 [] none else Run (notOf lo hi) 0 [] (some [.set (last true (add (fun _ => false) lo hi))]) := by
  have hb := bs_not h1 h2
  have g : ∀ k, gb (notOf lo hi) k = [91, 33, 92, lo, 45, 92, hi, 93].getD k 0 := fun k => by rw [gb_bs, hb]
  have hs : (notOf lo hi).size = 8 := by rw [← bs_length, hb]; rfl
  have ht : Turned (notOf lo hi) 1 = true := by unfold Turned; rw [g 1, hs]; simp
  exact set_range (n := 2) (g 0) (by unfold past; rw [ht]; rfl) ht (g 2) (g 3) (g 4) (g 5) (g 6) (g 7) hs
theorem bad_range {lo hi : Nat} (h1 : lo < 256) (h2 : hi < 256) (h : hi < lo) {t : ByteArray} {b : Bool} {x : Int} (ha : Answer (rangeOf lo hi) t b x) : b = false ∧ x = 190 := by
  have hr := run_range h1 h2
  rw [if_pos h] at hr
  have hs : (rangeOf lo hi).size = 7 := by rw [← bs_length, bs_range h1 h2]; rfl
  exact ha.same (.bad (by omega) hr)
theorem gb_one {c : Nat} (hc : c < 256) : gb (one c) 0 = c := by rw [gb_bs, bs_one hc]; rfl
theorem ok_range {lo hi c : Nat} (h1 : lo < 256) (h2 : hi < 256) (hc : c < 256) (h : lo ≤ hi) (want : Bool) (hw : want = true ↔ c ≠ 47 ∧ lo ≤ c ∧ c ≤ hi) : Ok (rangeOf lo hi) (one c) want := by
  have hr := run_range h1 h2
  rw [if_neg (by omega)] at hr
  refine ok_of hr (bool_of_iff ?_)
  rw [isOf_one _ _ rfl rfl, gb_one hc, hw]
  show (((false || (decide (lo ≤ c) && decide (c ≤ hi))) != false) && c != 47) = true ↔ _
  simp
  omega
theorem ok_not {lo hi c : Nat} (h1 : lo < 256) (h2 : hi < 256) (hc : c < 256) (h : lo ≤ hi) (want : Bool) (hw : want = true ↔ c ≠ 47 ∧ (c < lo ∨ hi < c)) : Ok (notOf lo hi) (one c) want := by
  have hr := run_not h1 h2
  rw [if_neg (by omega)] at hr
  refine ok_of hr (bool_of_iff ?_)
  rw [isOf_one _ _ rfl rfl, gb_one hc, hw]
  show (((false || (decide (lo ≤ c) && decide (c ≤ hi))) != true) && c != 47) = true ↔ _
  simp
  omega
theorem ok_two (a b : ByteArray) {lo hi c : Nat} (h1 : lo < 256) (h2 : hi < 256) (hc : c < 256) (want : Bool) (hw : want = true ↔ c ≠ 47 ∧ (c = lo ∨ c = hi)) : Ok (twoOf a b lo hi) (a ++ one c ++ b) want := by
  have hb : bs (twoOf a b lo hi) = esc (bs a) ++ ([91, 92, lo, 92, hi, 93] ++ esc (bs b)) := by
    unfold twoOf
    rw [bs_append, bs_append, bs_append, bs_append, bs_append, bs_escone h1, bs_escone h2, bs_esc, bs_esc]
    simp [bs]
  refine ok_of (run_mid hb (by simp) (mid_two hb)) (bool_of_iff ?_)
  rw [one_is a (one c) b _ rfl rfl, gb_one hc, hw]
  show (((((false || (decide (lo ≤ c) && decide (c ≤ lo))) || (decide (hi ≤ c) && decide (c ≤ hi)))) != false) && c != 47) = true ↔ _
  simp
  omega
theorem ok_m (m : ByteArray) : Ok ⟨#[42]⟩ m (clear1 m) := by
  refine ok_of (l := [.star]) (.step (p := .star) (j := 1) (by decide) (.star (by decide) (.stop (by decide))) (.stop (by decide))) (bool_of_iff ?_)
  rw [isOf_many _ _ rfl, clear1_iff]
  exact Iff.rfl
theorem ok_mm (m : ByteArray) : Ok ⟨#[42, 42, 42]⟩ m true := by
  refine ok_of (l := [.stars]) (.step (p := .stars) (j := 3) (by decide) (.stars (by decide) (.step (by decide) (.step (by decide) (.stop (by decide)))) (by decide)) (.stop (by decide))) ?_
  rw [isOf_many _ _ rfl]
  exact fun _ _ => rfl

set_option maxRecDepth 100000 in
set_option maxHeartbeats 64000000 in
theorem law_any (a m b o : ByteArray) (lo hi c : Nat) (w : World) (ha : a.size ≤ 1048576) (hm : m.size ≤ 1048576) (hb : b.size ≤ 1048576) (hlo : lo < 256) (hhi : hi < 256) (hc : c < 256) :
    Calls Try.prog 6 #[.string a, .string m, .string b, .string o, .int .u8 lo, .int .u8 hi, .int .u8 c] w fun e w' => e = .returned (.bool true) ∧ Below w.heap.size w w' := by
  have HA := Lib.hid ha
  have HM := Lib.hid hm
  have HBS := Lib.hid hb
  have HL : Hid (lo < 256 ∧ hi < 256 ∧ c < 256) := ⟨hlo, hhi, hc⟩
  clear ha hm hb hlo hhi hc
  obtain ⟨B, hB⟩ : ∃ B, w.heap.size = B := ⟨_, rfl⟩
  have HS : Hid (Since B w w) := ⟨Below.refl _ _, by omega⟩
  rw [hB]
  clear hB
  go_enter Try.func6, Try.ntmps6
  go_wp2_with fail
  refine (matches_at _ _ _ _ w B ok1 HS).mono ?_
  clear HS
  rintro e w1 ⟨rfl, HS, -⟩
  go_wp2_with fail
  refine (matches_at _ _ _ _ w B ok2 HS).mono ?_
  clear HS
  rintro e w2 ⟨rfl, HS, -⟩
  go_wp2_with fail
  refine (esc_at a _ w B HA.out HS).mono ?_
  clear HS
  rintro e w3 ⟨rfl, HS, -⟩
  go_wp2_with fail
  refine (matches_at _ _ _ _ w B (ok_self a) HS).mono ?_
  clear HS
  rintro e w4 ⟨rfl, HS, -⟩
  go_wp2_with fail
  refine (esc_at a _ w B HA.out HS).mono ?_
  clear HS
  rintro e w5 ⟨rfl, HS, -⟩
  go_wp2_with fail
  refine (matches_at _ _ _ _ w B (ok_other a o) HS).mono ?_
  clear HS
  rintro e w6 ⟨rfl, HS, -⟩
  have HO1 := Lib.hid (ok_star a m b)
  have HO2 := Lib.hid (ok_stars a m b)
  have HO3 := Lib.hid (ok_any a b HL.out.2.2)
  have sa := esc_size a
  have sb := esc_size b
  have l1 := HA.out
  have l2 := HM.out
  have l3 := HBS.out
  have n1 : ¬ (9223372036854775807 < (escText a).size + 1) := by omega
  have n2 : ¬ (9223372036854775807 < (escText a).size + 1 + (escText b).size) := by omega
  have n3 : ¬ (9223372036854775807 < a.size + m.size) := by omega
  have n4 : ¬ (9223372036854775807 < a.size + m.size + b.size) := by omega
  have n5 : ¬ (9223372036854775807 < (escText a).size + 2) := by omega
  have n6 : ¬ (9223372036854775807 < (escText a).size + 2 + (escText b).size) := by omega
  have s1 := one_size c
  have n7 : ¬ (9223372036854775807 < a.size + 1) := by omega
  have n8 : ¬ (9223372036854775807 < a.size + 1 + b.size) := by omega
  have hX := esc_size (one lo)
  have hY := esc_size (one hi)
  rw [one_size] at hX hY
  have r1 : ¬ (9223372036854775807 < 1 + (escText (one lo)).size) := by omega
  have r2 : ¬ (9223372036854775807 < 1 + (escText (one lo)).size + 1) := by omega
  have r3 : ¬ (9223372036854775807 < 1 + (escText (one lo)).size + 1 + (escText (one hi)).size) := by omega
  have r4 : ¬ (9223372036854775807 < 1 + (escText (one lo)).size + 1 + (escText (one hi)).size + 1) := by omega
  have r5 : ¬ (9223372036854775807 < 2 + (escText (one lo)).size) := by omega
  have r6 : ¬ (9223372036854775807 < 2 + (escText (one lo)).size + 1) := by omega
  have r7 : ¬ (9223372036854775807 < 2 + (escText (one lo)).size + 1 + (escText (one hi)).size) := by omega
  have r8 : ¬ (9223372036854775807 < 2 + (escText (one lo)).size + 1 + (escText (one hi)).size + 1) := by omega
  have t1 : ¬ (9223372036854775807 < (escText a).size + 1 + (escText (one lo)).size) := by omega
  have t2 : ¬ (9223372036854775807 < (escText a).size + 1 + (escText (one lo)).size + (escText (one hi)).size) := by omega
  have t3 : ¬ (9223372036854775807 < (escText a).size + 1 + (escText (one lo)).size + (escText (one hi)).size + 1) := by omega
  have t4 : ¬ (9223372036854775807 < (escText a).size + 1 + (escText (one lo)).size + (escText (one hi)).size + 1 + (escText b).size) := by omega
  have HR : Hid ((((((((((¬ (9223372036854775807 < 1 + (escText (one lo)).size)) ∧ (¬ (9223372036854775807 < 1 + (escText (one lo)).size + 1))) ∧ (¬ (9223372036854775807 < 1 + (escText (one lo)).size + 1 + (escText (one hi)).size))) ∧ (¬ (9223372036854775807 < 1 + (escText (one lo)).size + 1 + (escText (one hi)).size + 1))))))))) := ⟨⟨⟨r1, r2⟩, r3⟩, r4⟩
  clear HR
  clear sa sb l1 l2 l3 hX hY
  have HCV := conv1 HL.out.2.2
  have HEQ : Hid (((c : Int) != 47) = (c != 47)) := by
    show _ = _
    have h : ((c : Int) = 47) ↔ c = 47 := by omega
    simp only [bne]
    congr 1
    exact decide_eq_decide.2 h
  go_upto_region 5 with (fail)
  go_cut [91] (fun v wc => v = .bool false ∧ Hid (Since B w wc))
  case first =>
    as_aux_lemma =>
      have hS := HS
      have hne := HEQ.out
      go_region_held (fun w' => Hid (Since B w w')) (first | assumption | exact hS.out.drew | exact hS.out.drew.alloc _ | exact hS.out.alloc _) (first | (go_at_call 12; refine (esc_at _ _ w B (by first | exact HA.out | exact HBS.out) (by assumption)).mono ?_; rintro e wx ⟨rfl, hS, hK⟩; first | (have HK := blk_new (c := c) hK; have HCK := conv_blk HK HL.out.2.2) | (have HK := blk_keep (c := c) hK (by assumption); have HCK := conv_blk HK HL.out.2.2) | skip) | (go_at_call 13; refine (clear_at _ _ w B HM.out (by assumption)).mono ?_; rintro e wx ⟨rfl, hS, hK⟩; first | (have HK := blk_new (c := c) hK; have HCK := conv_blk HK HL.out.2.2) | (have HK := blk_keep (c := c) hK (by assumption); have HCK := conv_blk HK HL.out.2.2) | skip) | (go_at_call 11; refine (matches_at _ _ _ _ w B (by first | exact HO1.out | exact HO2.out | exact HO3.out) (by assumption)).mono ?_; rintro e wx ⟨rfl, hS, hK⟩; first | (have HK := blk_new (c := c) hK; have HCK := conv_blk HK HL.out.2.2) | (have HK := blk_keep (c := c) hK (by assumption); have HCK := conv_blk HK HL.out.2.2) | skip))
      all_goals (go_wp2_with fail; go_meet; case rel => exact ⟨rfl, by assumption⟩)
  case rest =>
    obtain ⟨rfl, HS⟩ := hcut
    clear HO1 HO2 HO3
    have HCL := conv1 HL.out.1
    have HCH := conv2 (g := wc.heap.size + 1) HL.out.2.1 (wc.alloc (.cells #[.int .u8 (lo : Int)] 5)) (by simp)
    have HCC := conv2 (g := wc.heap.size + 1 + 1) HL.out.2.2 ((wc.alloc (.cells #[.int .u8 (lo : Int)] 5)).alloc (.cells #[.int .u8 (hi : Int)] 5)) (by simp)
    have HCD := conv2 (g := wc.heap.size + 2) HL.out.2.2 ((wc.alloc (.cells #[.int .u8 (lo : Int)] 5)).alloc (.cells #[.int .u8 (hi : Int)] 5)) (by simp)
    by_cases hlh : hi < lo
    · have hlhi : (hi : Int) < (lo : Int) := by omega
      have HLH := Lib.hid hlh
      clear hlh
      have HS3 : Hid (Since B w (((wc.alloc (.cells #[.int .u8 (lo : Int)] 5)).alloc (.cells #[.int .u8 (hi : Int)] 5)).alloc (.cells #[.int .u8 (c : Int)] 5))) := ((HS.out.alloc _).alloc _).alloc _
      go_wp2_with fail
      refine (esc_at _ _ w B (by rw [one_size]; decide) HS3).mono ?_
      clear HS HS3
      rintro e w1 ⟨rfl, HS, -⟩
      go_wp2_with fail
      refine (esc_at _ _ w B (by rw [one_size]; decide) HS).mono ?_
      clear HS
      rintro e w2 ⟨rfl, HS, -⟩
      go_wp2_with fail
      refine (PatMatch.match_any _ _ _).mono ?_
      rintro e w3 ⟨q, x, ha, rfl, hb⟩
      obtain ⟨rfl, rfl⟩ := bad_range HL.out.1 HL.out.2.1 HLH.out ha
      clear ha
      go_wp2_with fail
      go_ret
      exact ⟨rfl, (HS.out.next hb.out).1⟩
    · have hlhi : ¬ ((hi : Int) < (lo : Int)) := by omega
      have hlh2 : ¬ (hi < lo) := hlh
      have HLH := Lib.hid hlh
      clear hlh
      have HS3 : Hid (Since B w (((wc.alloc (.cells #[.int .u8 (lo : Int)] 5)).alloc (.cells #[.int .u8 (hi : Int)] 5)).alloc (.cells #[.int .u8 (c : Int)] 5))) := ((HS.out.alloc _).alloc _).alloc _
      clear HS
      have HORD : Hid (c = 47 ∨ (c ≠ 47 ∧ (c < lo ∨ c = lo ∨ (lo < c ∧ c < hi) ∨ (c = hi ∧ c ≠ lo) ∨ hi < c))) := by
        show _ ∨ _
        have := HLH.out
        omega
      rcases HORD.out with h | ⟨h, h1 | h1 | h1 | h1 | h1⟩
      · as_aux_lemma =>
          have HF := Lib.hid h
          have e47 : ((c : Int) != 47) = false := by rw [h]; rfl
          clear h
          go_wp2_with fail
          refine (esc_at _ _ w B (by rw [one_size]; decide) HS3).mono ?_
          clear HS3
          rintro e w11 ⟨rfl, HS, -⟩
          go_wp2_with fail
          refine (esc_at _ _ w B (by rw [one_size]; decide) HS).mono ?_
          clear HS
          rintro e w12 ⟨rfl, HS, -⟩
          go_wp2_with fail
          refine (matches_at (rangeOf lo hi) (one c) _ _ w B (ok_range HL.out.1 HL.out.2.1 HL.out.2.2 (Nat.le_of_not_lt HLH.out) _ (by have h := HF.out; first | (exact ⟨fun _ => (by omega), fun _ => rfl⟩) | (exact ⟨fun h => (by cases h), fun h => (by omega)⟩))) HS).mono ?_
          clear HS
          rintro e w13 ⟨rfl, HS, -⟩
          go_wp2_with fail
          refine (esc_at _ _ w B (by rw [one_size]; decide) HS).mono ?_
          clear HS
          rintro e w14 ⟨rfl, HS, -⟩
          go_wp2_with fail
          refine (esc_at _ _ w B (by rw [one_size]; decide) HS).mono ?_
          clear HS
          rintro e w15 ⟨rfl, HS, -⟩
          go_wp2_with fail
          refine (matches_at (notOf lo hi) (one c) _ _ w B (ok_not HL.out.1 HL.out.2.1 HL.out.2.2 (Nat.le_of_not_lt HLH.out) _ (by have h := HF.out; first | (exact ⟨fun _ => (by omega), fun _ => rfl⟩) | (exact ⟨fun h => (by cases h), fun h => (by omega)⟩))) HS).mono ?_
          clear HS
          rintro e w16 ⟨rfl, HS, -⟩
          go_wp2_with fail
          refine (esc_at a _ w B HA.out HS).mono ?_
          clear HS
          rintro e w17 ⟨rfl, HS, -⟩
          go_wp2_with fail
          refine (esc_at _ _ w B (by rw [one_size]; decide) HS).mono ?_
          clear HS
          rintro e w18 ⟨rfl, HS, -⟩
          go_wp2_with fail
          refine (esc_at _ _ w B (by rw [one_size]; decide) HS).mono ?_
          clear HS
          rintro e w19 ⟨rfl, HS, -⟩
          go_wp2_with fail
          refine (esc_at b _ w B HBS.out HS).mono ?_
          clear HS
          rintro e w20 ⟨rfl, HS, -⟩
          go_wp2_with fail
          all_goals (
            refine (matches_at (twoOf a b lo hi) (a ++ one c ++ b) _ _ w B (ok_two a b HL.out.1 HL.out.2.1 HL.out.2.2 _ (by have h := HF.out; first | (exact ⟨fun _ => (by omega), fun _ => rfl⟩) | (exact ⟨fun h => (by cases h), fun h => (by omega)⟩))) HS).mono ?_
            clear HS
            rintro e w21 ⟨rfl, HS, -⟩
            go_wp2_with fail
            refine (clear_at m _ w B HM.out HS).mono ?_
            clear HS
            rintro e w22 ⟨rfl, HS, -⟩
            go_wp2_with fail
            refine (matches_at _ m _ _ w B (ok_m m) HS).mono ?_
            clear HS
            rintro e w23 ⟨rfl, HS, -⟩
            go_wp2_with fail
            refine (matches_at _ m _ _ w B (ok_mm m) HS).mono ?_
            clear HS
            rintro e w24 ⟨rfl, HS, -⟩
            go_wp2_with fail
            go_ret
            exact ⟨rfl, HS.out.1⟩)
      · as_aux_lemma =>
          have HF := Lib.hid (And.intro h h1)
          have e47 : ((c : Int) != 47) = true := by rw [bne_iff_ne]; omega
          have q0 : ¬ ((lo : Int) ≤ (c : Int)) := by have := HLH.out; omega
          have p0 : ¬ (lo ≤ c) := by have := HLH.out; omega
          have q1 : ((c : Int) ≤ (hi : Int)) := by have := HLH.out; omega
          have p1 : (c ≤ hi) := by have := HLH.out; omega
          have q2 : ((c : Int) < (lo : Int)) := by have := HLH.out; omega
          have p2 : (c < lo) := by have := HLH.out; omega
          have q3 : ¬ ((hi : Int) < (c : Int)) := by have := HLH.out; omega
          have p3 : ¬ (hi < c) := by have := HLH.out; omega
          have q4 : ((c : Int) == (lo : Int)) = false := by first | (rw [beq_iff_eq]; have := HLH.out; omega) | (rw [beq_eq_false_iff_ne]; have := HLH.out; omega)
          have q5 : ((c : Int) == (hi : Int)) = false := by rw [beq_eq_false_iff_ne]; have := HLH.out; omega
          clear h h1
          go_wp2_with fail
          refine (esc_at _ _ w B (by rw [one_size]; decide) HS3).mono ?_
          clear HS3
          rintro e w11 ⟨rfl, HS, -⟩
          go_wp2_with fail
          refine (esc_at _ _ w B (by rw [one_size]; decide) HS).mono ?_
          clear HS
          rintro e w12 ⟨rfl, HS, -⟩
          go_wp2_with fail
          refine (matches_at (rangeOf lo hi) (one c) _ _ w B (ok_range HL.out.1 HL.out.2.1 HL.out.2.2 (Nat.le_of_not_lt HLH.out) _ (by have h := HF.out; first | (exact ⟨fun _ => (by omega), fun _ => rfl⟩) | (exact ⟨fun h => (by cases h), fun h => (by omega)⟩))) HS).mono ?_
          clear HS
          rintro e w13 ⟨rfl, HS, -⟩
          go_wp2_with fail
          refine (esc_at _ _ w B (by rw [one_size]; decide) HS).mono ?_
          clear HS
          rintro e w14 ⟨rfl, HS, -⟩
          go_wp2_with fail
          refine (esc_at _ _ w B (by rw [one_size]; decide) HS).mono ?_
          clear HS
          rintro e w15 ⟨rfl, HS, -⟩
          go_wp2_with fail
          refine (matches_at (notOf lo hi) (one c) _ _ w B (ok_not HL.out.1 HL.out.2.1 HL.out.2.2 (Nat.le_of_not_lt HLH.out) _ (by have h := HF.out; first | (exact ⟨fun _ => (by omega), fun _ => rfl⟩) | (exact ⟨fun h => (by cases h), fun h => (by omega)⟩))) HS).mono ?_
          clear HS
          rintro e w16 ⟨rfl, HS, -⟩
          go_wp2_with fail
          refine (esc_at a _ w B HA.out HS).mono ?_
          clear HS
          rintro e w17 ⟨rfl, HS, -⟩
          go_wp2_with fail
          refine (esc_at _ _ w B (by rw [one_size]; decide) HS).mono ?_
          clear HS
          rintro e w18 ⟨rfl, HS, -⟩
          go_wp2_with fail
          refine (esc_at _ _ w B (by rw [one_size]; decide) HS).mono ?_
          clear HS
          rintro e w19 ⟨rfl, HS, -⟩
          go_wp2_with fail
          refine (esc_at b _ w B HBS.out HS).mono ?_
          clear HS
          rintro e w20 ⟨rfl, HS, -⟩
          go_wp2_with fail
          refine (matches_at (twoOf a b lo hi) (a ++ one c ++ b) _ _ w B (ok_two a b HL.out.1 HL.out.2.1 HL.out.2.2 _ (by have h := HF.out; first | (exact ⟨fun _ => (by omega), fun _ => rfl⟩) | (exact ⟨fun h => (by cases h), fun h => (by omega)⟩))) HS).mono ?_
          clear HS
          rintro e w21 ⟨rfl, HS, -⟩
          go_wp2_with fail
          refine (clear_at m _ w B HM.out HS).mono ?_
          clear HS
          rintro e w22 ⟨rfl, HS, -⟩
          go_wp2_with fail
          refine (matches_at _ m _ _ w B (ok_m m) HS).mono ?_
          clear HS
          rintro e w23 ⟨rfl, HS, -⟩
          go_wp2_with fail
          refine (matches_at _ m _ _ w B (ok_mm m) HS).mono ?_
          clear HS
          rintro e w24 ⟨rfl, HS, -⟩
          go_wp2_with fail
          go_ret
          exact ⟨rfl, HS.out.1⟩
      · as_aux_lemma =>
          have HF := Lib.hid (And.intro h h1)
          have e47 : ((c : Int) != 47) = true := by rw [bne_iff_ne]; omega
          have q0 : ((lo : Int) ≤ (c : Int)) := by have := HLH.out; omega
          have p0 : (lo ≤ c) := by have := HLH.out; omega
          have q1 : ((c : Int) ≤ (hi : Int)) := by have := HLH.out; omega
          have p1 : (c ≤ hi) := by have := HLH.out; omega
          have q2 : ¬ ((c : Int) < (lo : Int)) := by have := HLH.out; omega
          have p2 : ¬ (c < lo) := by have := HLH.out; omega
          have q3 : ¬ ((hi : Int) < (c : Int)) := by have := HLH.out; omega
          have p3 : ¬ (hi < c) := by have := HLH.out; omega
          have q4 : ((c : Int) == (lo : Int)) = true := by first | (rw [beq_iff_eq]; have := HLH.out; omega) | (rw [beq_eq_false_iff_ne]; have := HLH.out; omega)
          clear h h1
          go_wp2_with fail
          refine (esc_at _ _ w B (by rw [one_size]; decide) HS3).mono ?_
          clear HS3
          rintro e w11 ⟨rfl, HS, -⟩
          go_wp2_with fail
          refine (esc_at _ _ w B (by rw [one_size]; decide) HS).mono ?_
          clear HS
          rintro e w12 ⟨rfl, HS, -⟩
          go_wp2_with fail
          refine (matches_at (rangeOf lo hi) (one c) _ _ w B (ok_range HL.out.1 HL.out.2.1 HL.out.2.2 (Nat.le_of_not_lt HLH.out) _ (by have h := HF.out; first | (exact ⟨fun _ => (by omega), fun _ => rfl⟩) | (exact ⟨fun h => (by cases h), fun h => (by omega)⟩))) HS).mono ?_
          clear HS
          rintro e w13 ⟨rfl, HS, -⟩
          go_wp2_with fail
          refine (esc_at _ _ w B (by rw [one_size]; decide) HS).mono ?_
          clear HS
          rintro e w14 ⟨rfl, HS, -⟩
          go_wp2_with fail
          refine (esc_at _ _ w B (by rw [one_size]; decide) HS).mono ?_
          clear HS
          rintro e w15 ⟨rfl, HS, -⟩
          go_wp2_with fail
          refine (matches_at (notOf lo hi) (one c) _ _ w B (ok_not HL.out.1 HL.out.2.1 HL.out.2.2 (Nat.le_of_not_lt HLH.out) _ (by have h := HF.out; first | (exact ⟨fun _ => (by omega), fun _ => rfl⟩) | (exact ⟨fun h => (by cases h), fun h => (by omega)⟩))) HS).mono ?_
          clear HS
          rintro e w16 ⟨rfl, HS, -⟩
          go_wp2_with fail
          refine (esc_at a _ w B HA.out HS).mono ?_
          clear HS
          rintro e w17 ⟨rfl, HS, -⟩
          go_wp2_with fail
          refine (esc_at _ _ w B (by rw [one_size]; decide) HS).mono ?_
          clear HS
          rintro e w18 ⟨rfl, HS, -⟩
          go_wp2_with fail
          refine (esc_at _ _ w B (by rw [one_size]; decide) HS).mono ?_
          clear HS
          rintro e w19 ⟨rfl, HS, -⟩
          go_wp2_with fail
          refine (esc_at b _ w B HBS.out HS).mono ?_
          clear HS
          rintro e w20 ⟨rfl, HS, -⟩
          go_wp2_with fail
          refine (matches_at (twoOf a b lo hi) (a ++ one c ++ b) _ _ w B (ok_two a b HL.out.1 HL.out.2.1 HL.out.2.2 _ (by have h := HF.out; first | (exact ⟨fun _ => (by omega), fun _ => rfl⟩) | (exact ⟨fun h => (by cases h), fun h => (by omega)⟩))) HS).mono ?_
          clear HS
          rintro e w21 ⟨rfl, HS, -⟩
          go_wp2_with fail
          refine (clear_at m _ w B HM.out HS).mono ?_
          clear HS
          rintro e w22 ⟨rfl, HS, -⟩
          go_wp2_with fail
          refine (matches_at _ m _ _ w B (ok_m m) HS).mono ?_
          clear HS
          rintro e w23 ⟨rfl, HS, -⟩
          go_wp2_with fail
          refine (matches_at _ m _ _ w B (ok_mm m) HS).mono ?_
          clear HS
          rintro e w24 ⟨rfl, HS, -⟩
          go_wp2_with fail
          go_ret
          exact ⟨rfl, HS.out.1⟩
      · as_aux_lemma =>
          have HF := Lib.hid (And.intro h h1)
          have e47 : ((c : Int) != 47) = true := by rw [bne_iff_ne]; omega
          have q0 : ((lo : Int) ≤ (c : Int)) := by have := HLH.out; omega
          have p0 : (lo ≤ c) := by have := HLH.out; omega
          have q1 : ((c : Int) ≤ (hi : Int)) := by have := HLH.out; omega
          have p1 : (c ≤ hi) := by have := HLH.out; omega
          have q2 : ¬ ((c : Int) < (lo : Int)) := by have := HLH.out; omega
          have p2 : ¬ (c < lo) := by have := HLH.out; omega
          have q3 : ¬ ((hi : Int) < (c : Int)) := by have := HLH.out; omega
          have p3 : ¬ (hi < c) := by have := HLH.out; omega
          have q4 : ((c : Int) == (lo : Int)) = false := by first | (rw [beq_iff_eq]; have := HLH.out; omega) | (rw [beq_eq_false_iff_ne]; have := HLH.out; omega)
          have q5 : ((c : Int) == (hi : Int)) = false := by first | (rw [beq_iff_eq]; have := HLH.out; omega) | (rw [beq_eq_false_iff_ne]; have := HLH.out; omega)
          clear h h1
          go_wp2_with fail
          refine (esc_at _ _ w B (by rw [one_size]; decide) HS3).mono ?_
          clear HS3
          rintro e w11 ⟨rfl, HS, -⟩
          go_wp2_with fail
          refine (esc_at _ _ w B (by rw [one_size]; decide) HS).mono ?_
          clear HS
          rintro e w12 ⟨rfl, HS, -⟩
          go_wp2_with fail
          refine (matches_at (rangeOf lo hi) (one c) _ _ w B (ok_range HL.out.1 HL.out.2.1 HL.out.2.2 (Nat.le_of_not_lt HLH.out) _ (by have h := HF.out; first | (exact ⟨fun _ => (by omega), fun _ => rfl⟩) | (exact ⟨fun h => (by cases h), fun h => (by omega)⟩))) HS).mono ?_
          clear HS
          rintro e w13 ⟨rfl, HS, -⟩
          go_wp2_with fail
          refine (esc_at _ _ w B (by rw [one_size]; decide) HS).mono ?_
          clear HS
          rintro e w14 ⟨rfl, HS, -⟩
          go_wp2_with fail
          refine (esc_at _ _ w B (by rw [one_size]; decide) HS).mono ?_
          clear HS
          rintro e w15 ⟨rfl, HS, -⟩
          go_wp2_with fail
          refine (matches_at (notOf lo hi) (one c) _ _ w B (ok_not HL.out.1 HL.out.2.1 HL.out.2.2 (Nat.le_of_not_lt HLH.out) _ (by have h := HF.out; first | (exact ⟨fun _ => (by omega), fun _ => rfl⟩) | (exact ⟨fun h => (by cases h), fun h => (by omega)⟩))) HS).mono ?_
          clear HS
          rintro e w16 ⟨rfl, HS, -⟩
          go_wp2_with fail
          refine (esc_at a _ w B HA.out HS).mono ?_
          clear HS
          rintro e w17 ⟨rfl, HS, -⟩
          go_wp2_with fail
          refine (esc_at _ _ w B (by rw [one_size]; decide) HS).mono ?_
          clear HS
          rintro e w18 ⟨rfl, HS, -⟩
          go_wp2_with fail
          refine (esc_at _ _ w B (by rw [one_size]; decide) HS).mono ?_
          clear HS
          rintro e w19 ⟨rfl, HS, -⟩
          go_wp2_with fail
          refine (esc_at b _ w B HBS.out HS).mono ?_
          clear HS
          rintro e w20 ⟨rfl, HS, -⟩
          go_wp2_with fail
          refine (matches_at (twoOf a b lo hi) (a ++ one c ++ b) _ _ w B (ok_two a b HL.out.1 HL.out.2.1 HL.out.2.2 _ (by have h := HF.out; first | (exact ⟨fun _ => (by omega), fun _ => rfl⟩) | (exact ⟨fun h => (by cases h), fun h => (by omega)⟩))) HS).mono ?_
          clear HS
          rintro e w21 ⟨rfl, HS, -⟩
          go_wp2_with fail
          refine (clear_at m _ w B HM.out HS).mono ?_
          clear HS
          rintro e w22 ⟨rfl, HS, -⟩
          go_wp2_with fail
          refine (matches_at _ m _ _ w B (ok_m m) HS).mono ?_
          clear HS
          rintro e w23 ⟨rfl, HS, -⟩
          go_wp2_with fail
          refine (matches_at _ m _ _ w B (ok_mm m) HS).mono ?_
          clear HS
          rintro e w24 ⟨rfl, HS, -⟩
          go_wp2_with fail
          go_ret
          exact ⟨rfl, HS.out.1⟩
      · as_aux_lemma =>
          have HF := Lib.hid (And.intro h h1)
          have e47 : ((c : Int) != 47) = true := by rw [bne_iff_ne]; omega
          have q0 : ((lo : Int) ≤ (c : Int)) := by have := HLH.out; omega
          have p0 : (lo ≤ c) := by have := HLH.out; omega
          have q1 : ((c : Int) ≤ (hi : Int)) := by have := HLH.out; omega
          have p1 : (c ≤ hi) := by have := HLH.out; omega
          have q2 : ¬ ((c : Int) < (lo : Int)) := by have := HLH.out; omega
          have p2 : ¬ (c < lo) := by have := HLH.out; omega
          have q3 : ¬ ((hi : Int) < (c : Int)) := by have := HLH.out; omega
          have p3 : ¬ (hi < c) := by have := HLH.out; omega
          have q4 : ((c : Int) == (lo : Int)) = false := by first | (rw [beq_iff_eq]; have := HLH.out; omega) | (rw [beq_eq_false_iff_ne]; have := HLH.out; omega)
          have q5 : ((c : Int) == (hi : Int)) = true := by first | (rw [beq_iff_eq]; have := HLH.out; omega) | (rw [beq_eq_false_iff_ne]; have := HLH.out; omega)
          clear h h1
          go_wp2_with fail
          refine (esc_at _ _ w B (by rw [one_size]; decide) HS3).mono ?_
          clear HS3
          rintro e w11 ⟨rfl, HS, -⟩
          go_wp2_with fail
          refine (esc_at _ _ w B (by rw [one_size]; decide) HS).mono ?_
          clear HS
          rintro e w12 ⟨rfl, HS, -⟩
          go_wp2_with fail
          refine (matches_at (rangeOf lo hi) (one c) _ _ w B (ok_range HL.out.1 HL.out.2.1 HL.out.2.2 (Nat.le_of_not_lt HLH.out) _ (by have h := HF.out; first | (exact ⟨fun _ => (by omega), fun _ => rfl⟩) | (exact ⟨fun h => (by cases h), fun h => (by omega)⟩))) HS).mono ?_
          clear HS
          rintro e w13 ⟨rfl, HS, -⟩
          go_wp2_with fail
          refine (esc_at _ _ w B (by rw [one_size]; decide) HS).mono ?_
          clear HS
          rintro e w14 ⟨rfl, HS, -⟩
          go_wp2_with fail
          refine (esc_at _ _ w B (by rw [one_size]; decide) HS).mono ?_
          clear HS
          rintro e w15 ⟨rfl, HS, -⟩
          go_wp2_with fail
          refine (matches_at (notOf lo hi) (one c) _ _ w B (ok_not HL.out.1 HL.out.2.1 HL.out.2.2 (Nat.le_of_not_lt HLH.out) _ (by have h := HF.out; first | (exact ⟨fun _ => (by omega), fun _ => rfl⟩) | (exact ⟨fun h => (by cases h), fun h => (by omega)⟩))) HS).mono ?_
          clear HS
          rintro e w16 ⟨rfl, HS, -⟩
          go_wp2_with fail
          refine (esc_at a _ w B HA.out HS).mono ?_
          clear HS
          rintro e w17 ⟨rfl, HS, -⟩
          go_wp2_with fail
          refine (esc_at _ _ w B (by rw [one_size]; decide) HS).mono ?_
          clear HS
          rintro e w18 ⟨rfl, HS, -⟩
          go_wp2_with fail
          refine (esc_at _ _ w B (by rw [one_size]; decide) HS).mono ?_
          clear HS
          rintro e w19 ⟨rfl, HS, -⟩
          go_wp2_with fail
          refine (esc_at b _ w B HBS.out HS).mono ?_
          clear HS
          rintro e w20 ⟨rfl, HS, -⟩
          go_wp2_with fail
          refine (matches_at (twoOf a b lo hi) (a ++ one c ++ b) _ _ w B (ok_two a b HL.out.1 HL.out.2.1 HL.out.2.2 _ (by have h := HF.out; first | (exact ⟨fun _ => (by omega), fun _ => rfl⟩) | (exact ⟨fun h => (by cases h), fun h => (by omega)⟩))) HS).mono ?_
          clear HS
          rintro e w21 ⟨rfl, HS, -⟩
          go_wp2_with fail
          refine (clear_at m _ w B HM.out HS).mono ?_
          clear HS
          rintro e w22 ⟨rfl, HS, -⟩
          go_wp2_with fail
          refine (matches_at _ m _ _ w B (ok_m m) HS).mono ?_
          clear HS
          rintro e w23 ⟨rfl, HS, -⟩
          go_wp2_with fail
          refine (matches_at _ m _ _ w B (ok_mm m) HS).mono ?_
          clear HS
          rintro e w24 ⟨rfl, HS, -⟩
          go_wp2_with fail
          go_ret
          exact ⟨rfl, HS.out.1⟩
      · as_aux_lemma =>
          have HF := Lib.hid (And.intro h h1)
          have e47 : ((c : Int) != 47) = true := by rw [bne_iff_ne]; omega
          have q0 : ((lo : Int) ≤ (c : Int)) := by have := HLH.out; omega
          have p0 : (lo ≤ c) := by have := HLH.out; omega
          have q1 : ¬ ((c : Int) ≤ (hi : Int)) := by have := HLH.out; omega
          have p1 : ¬ (c ≤ hi) := by have := HLH.out; omega
          have q2 : ¬ ((c : Int) < (lo : Int)) := by have := HLH.out; omega
          have p2 : ¬ (c < lo) := by have := HLH.out; omega
          have q3 : ((hi : Int) < (c : Int)) := by have := HLH.out; omega
          have p3 : (hi < c) := by have := HLH.out; omega
          have q4 : ((c : Int) == (lo : Int)) = false := by first | (rw [beq_iff_eq]; have := HLH.out; omega) | (rw [beq_eq_false_iff_ne]; have := HLH.out; omega)
          have q5 : ((c : Int) == (hi : Int)) = false := by first | (rw [beq_iff_eq]; have := HLH.out; omega) | (rw [beq_eq_false_iff_ne]; have := HLH.out; omega)
          clear h h1
          go_wp2_with fail
          refine (esc_at _ _ w B (by rw [one_size]; decide) HS3).mono ?_
          clear HS3
          rintro e w11 ⟨rfl, HS, -⟩
          go_wp2_with fail
          refine (esc_at _ _ w B (by rw [one_size]; decide) HS).mono ?_
          clear HS
          rintro e w12 ⟨rfl, HS, -⟩
          go_wp2_with fail
          refine (matches_at (rangeOf lo hi) (one c) _ _ w B (ok_range HL.out.1 HL.out.2.1 HL.out.2.2 (Nat.le_of_not_lt HLH.out) _ (by have h := HF.out; first | (exact ⟨fun _ => (by omega), fun _ => rfl⟩) | (exact ⟨fun h => (by cases h), fun h => (by omega)⟩))) HS).mono ?_
          clear HS
          rintro e w13 ⟨rfl, HS, -⟩
          go_wp2_with fail
          refine (esc_at _ _ w B (by rw [one_size]; decide) HS).mono ?_
          clear HS
          rintro e w14 ⟨rfl, HS, -⟩
          go_wp2_with fail
          refine (esc_at _ _ w B (by rw [one_size]; decide) HS).mono ?_
          clear HS
          rintro e w15 ⟨rfl, HS, -⟩
          go_wp2_with fail
          refine (matches_at (notOf lo hi) (one c) _ _ w B (ok_not HL.out.1 HL.out.2.1 HL.out.2.2 (Nat.le_of_not_lt HLH.out) _ (by have h := HF.out; first | (exact ⟨fun _ => (by omega), fun _ => rfl⟩) | (exact ⟨fun h => (by cases h), fun h => (by omega)⟩))) HS).mono ?_
          clear HS
          rintro e w16 ⟨rfl, HS, -⟩
          go_wp2_with fail
          refine (esc_at a _ w B HA.out HS).mono ?_
          clear HS
          rintro e w17 ⟨rfl, HS, -⟩
          go_wp2_with fail
          refine (esc_at _ _ w B (by rw [one_size]; decide) HS).mono ?_
          clear HS
          rintro e w18 ⟨rfl, HS, -⟩
          go_wp2_with fail
          refine (esc_at _ _ w B (by rw [one_size]; decide) HS).mono ?_
          clear HS
          rintro e w19 ⟨rfl, HS, -⟩
          go_wp2_with fail
          refine (esc_at b _ w B HBS.out HS).mono ?_
          clear HS
          rintro e w20 ⟨rfl, HS, -⟩
          go_wp2_with fail
          refine (matches_at (twoOf a b lo hi) (a ++ one c ++ b) _ _ w B (ok_two a b HL.out.1 HL.out.2.1 HL.out.2.2 _ (by have h := HF.out; first | (exact ⟨fun _ => (by omega), fun _ => rfl⟩) | (exact ⟨fun h => (by cases h), fun h => (by omega)⟩))) HS).mono ?_
          clear HS
          rintro e w21 ⟨rfl, HS, -⟩
          go_wp2_with fail
          refine (clear_at m _ w B HM.out HS).mono ?_
          clear HS
          rintro e w22 ⟨rfl, HS, -⟩
          go_wp2_with fail
          refine (matches_at _ m _ _ w B (ok_m m) HS).mono ?_
          clear HS
          rintro e w23 ⟨rfl, HS, -⟩
          go_wp2_with fail
          refine (matches_at _ m _ _ w B (ok_mm m) HS).mono ?_
          clear HS
          rintro e w24 ⟨rfl, HS, -⟩
          go_wp2_with fail
          go_ret
          exact ⟨rfl, HS.out.1⟩
end Go.Proofs.Ytcdhkeahcliefaa.GlobLaw
