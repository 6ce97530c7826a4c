/- Runes and their bytes: plain; what the program's reader does with a rune is what the document's does with its bytes. A rune of a line: its value, its width, its own bytes. Split of a path: the document's, the program's. The program's parts of a path: cut. -/
import Derived.Test.YtcdhkeahcliefaaGreatDoorPrint08
import Derived.Lib.RuneCountTail
import Derived.Laws.RangeAny
import Derived.Test.YtcdhkeahcliefaaGreatDoorPrint04
import Derived.Lib.OthersKept
import Derived.Lib.DecodeN
import Derived.Test.YtcdhkeahcliefaaGreatDoorPrint06
/- Runes and their bytes: plain; what the program's reader does with a rune is what the document's does with its bytes. -/
namespace Go.Proofs.YtcdhkeahcliefaaGreatDoor.Runes
open Go.ChangeShapes Go.WideShapes Go.ChangeAt Go.RowKit
open Go.Proofs.YtcdhkeahcliefaaGreatDoor.Kit Go.Proofs.YtcdhkeahcliefaaGreatDoor.Base Go.Proofs.YtcdhkeahcliefaaGreatDoor.Bld Go.Proofs.YtcdhkeahcliefaaGreatDoor.Lex Go.Proofs.YtcdhkeahcliefaaGreatDoor.LexF
set_option linter.unusedVariables false

theorem get_at (s : ByteArray) (k : Nat) (h : k < s.size) : s.get! k = s[k]'h := by
  have := Go.get_at s k h
  simpa using this
theorem decode_span (s : ByteArray) (pos : Nat) (h : pos < s.size) (ha : 128 ≤ (s[pos]'h).toNat) :
    pos + (Utf8.decode s pos).2 ≤ s.size ∧ ∀ k, k < (Utf8.decode s pos).2 → 128 ≤ (s.get! (pos + k)).toNat := by
  have hn : ¬ (s[pos]'h).toNat < 128 := by omega
  have h0 : (s.get! (pos + 0)).toNat = (s[pos]'h).toNat := by rw [Go.get_at s pos h]
  have key : ∀ n, (∀ k, k < n → k = 0 ∨ (pos + k < s.size ∧ (s.get! (pos + k)).toNat / 64 = 2)) → 1 ≤ n → pos + n ≤ s.size ∧ ∀ k, k < n → 128 ≤ (s.get! (pos + k)).toNat := by
    intro n hk hn1
    refine ⟨?_, fun k hkn => ?_⟩
    · rcases hk (n - 1) (by omega) with h | ⟨h, _⟩
      · omega
      · omega
    · rcases hk k hkn with rfl | ⟨_, h⟩
      · omega
      · omega
  have h1 := key 1 (fun k hk => .inl (by omega)) (by omega)
  simp only [Utf8.decode, Go.get_at s pos h, hn, if_false]
  split
  · rename_i hc
    simp only [Bool.and_eq_true, beq_iff_eq, decide_eq_true_eq] at hc
    split
    · exact key 2 (fun k hk => by match k, hk with | 0, _ => exact .inl rfl | 1, _ => exact .inr ⟨hc.2.1, hc.2.2⟩) (by omega)
    · exact h1
  · split
    · rename_i hc
      simp only [Bool.and_eq_true, beq_iff_eq, decide_eq_true_eq] at hc
      split
      · exact key 3 (fun k hk => by match k, hk with | 0, _ => exact .inl rfl | 1, _ => exact .inr ⟨hc.1.2.1, hc.1.2.2⟩ | 2, _ => exact .inr ⟨hc.2.1, hc.2.2⟩) (by omega)
      · exact h1
    · split
      · rename_i hc
        simp only [Bool.and_eq_true, beq_iff_eq, decide_eq_true_eq] at hc
        split
        · exact key 4 (fun k hk => by match k, hk with | 0, _ => exact .inl rfl | 1, _ => exact .inr ⟨hc.1.1.2.1, hc.1.1.2.2⟩ | 2, _ => exact .inr ⟨hc.1.2.1, hc.1.2.2⟩ | 3, _ => exact .inr ⟨hc.2.1, hc.2.2⟩) (by omega)
        · exact h1
      · exact h1
/-- a rune and its bytes -/
def Own (c : Nat) (own : List UInt8) : Prop := (∃ y : UInt8, own = [y] ∧ c = y.toNat ∧ c < 128) ∨ (128 ≤ c ∧ own ≠ [] ∧ ∀ y ∈ own, 128 ≤ y.toNat)
theorem high_plain {y : UInt8} (h : 128 ≤ y.toNat) : isBlank y.toNat = false ∧ isBarred y.toNat = false ∧ (isBarred y.toNat || y.toNat == 34 || y.toNat == 92) = false ∧ hexv y.toNat < 0 ∧ mean y.toNat = 0 := by
  refine ⟨?_, ?_, ?_, ?_, ?_⟩
  · unfold isBlank; simp; omega
  · unfold isBarred; simp; omega
  · unfold isBarred; simp; omega
  · unfold hexv
    rw [if_neg (by omega), if_neg (by omega), if_neg (by omega)]
    decide
  · unfold mean
    rw [if_neg (by omega), if_neg (by omega), if_neg (by omega)]
theorem high_rune {c : Nat} (h : 128 ≤ c) : isBlank c = false ∧ isBarred c = false ∧ hexv c < 0 ∧ mean c = 0 := by
  refine ⟨?_, ?_, ?_, ?_⟩
  · unfold isBlank; simp; omega
  · unfold isBarred; simp; omega
  · unfold hexv
    rw [if_neg (by omega), if_neg (by omega), if_neg (by omega)]
    decide
  · unfold mean
    rw [if_neg (by omega), if_neg (by omega), if_neg (by omega)]
/-- many high bytes in a bare or a quoted word -/
theorem run_high {s : Lx} (hp : s.pos = 1 ∨ s.pos = 2) (hb : s.bad = false) : ∀ (own : List UInt8), (∀ y ∈ own, 128 ≤ y.toNat) → runS s own = { s with word := s.word ++ own } := by
  intro own
  induction own generalizing s with
  | nil =>
    intro _
    rw [List.append_nil]
    rfl
  | cons y r ih =>
    intro h
    have hy := h y (List.mem_cons_self ..)
    obtain ⟨q1, q2, q3, q4, q5⟩ := high_plain hy
    have e : nextS s y = { s with word := s.word ++ [y] } := by
      rcases hp with hp | hp
      · unfold nextS
        rw [if_neg (by omega), if_pos hp, q1]
        unfold plainS
        rw [q3, Bool.or_false]
        rfl
      · unfold nextS insideS
        rw [if_neg (by omega), if_neg (by omega), if_pos hp, if_neg (by omega), if_neg (by omega), q2]
        rfl
    show (if s.bad then s else runS (nextS s y) r) = _
    rw [if_neg (by rw [hb]; simp), e, ih (s := { s with word := s.word ++ [y] }) hp hb (fun z hz => h z (List.mem_cons_of_mem _ hz))]
    simp
theorem run_one {s : Lx} (hb : s.bad = false) (y : UInt8) : runS s [y] = nextS s y := by
  show (if s.bad then s else runS (nextS s y) []) = _
  rw [if_neg (by rw [hb]; simp)]
  rfl
theorem run_cons_bad {s : Lx} (hb : s.bad = false) {y : UInt8} (r : List UInt8) (h : (nextS s y).bad = true) : (runS s (y :: r)).bad = true := by
  show (if s.bad then s else runS (nextS s y) r).bad = true
  rw [if_neg (by rw [hb]; simp), runS_bad h]
  exact h
def Fits (r : Option Lx) (s : Lx) : Prop := match r with | none => s.bad = true | some t => s = t
theorem lx_eta (s : Lx) (hb : s.bad = false) : s = { s with bad := false } := by
  cases s
  simp at hb
  simp [hb]
theorem next2 {s : Lx} (hp : s.pos = 2) (y : UInt8) : nextS s y = insideS s y := by
  unfold nextS
  rw [if_neg (by omega), if_neg (by omega), if_pos hp]
theorem next3 {s : Lx} (hp : s.pos = 3) (y : UInt8) : nextS s y = escapedS s y := by
  unfold nextS
  rw [if_neg (by omega), if_neg (by omega), if_neg (by omega), if_pos hp]
theorem next4 {s : Lx} (hp : s.pos = 4) (y : UInt8) : nextS s y = { s with dig := hexv y.toNat, pos := 5, bad := s.bad || decide (hexv y.toNat < 0) } := by
  unfold nextS
  rw [if_neg (by omega), if_neg (by omega), if_neg (by omega), if_neg (by omega), if_pos hp]
theorem next5 {s : Lx} (hp : s.pos = 5) (y : UInt8) : nextS s y = lowS s y := by
  unfold nextS
  rw [if_neg (by omega), if_neg (by omega), if_neg (by omega), if_neg (by omega), if_neg (by omega), if_pos hp]
theorem iq2 {s : Lx} (hp : s.pos = 2) (c : Nat) (own : List UInt8) : iq s c own = if c = 34 then some { endsS s with pos := 6 } else if c = 92 then some { s with pos := 3 } else if isBarred c then none else some { s with word := s.word ++ own } := if_pos hp
theorem iq3 {s : Lx} (hp : s.pos = 3) (c : Nat) (own : List UInt8) : iq s c own = if c = 120 then some { s with pos := 4 } else if mean c = 0 then none else some { s with pos := 2, word := s.word ++ [UInt8.ofNat (mean c)] } := by
  unfold iq
  rw [if_neg (by omega), if_pos hp]
theorem iq4 {s : Lx} (hp : s.pos = 4) (c : Nat) (own : List UInt8) : iq s c own = if hexv c < 0 then none else some { s with dig := hexv c, pos := 5 } := by
  unfold iq
  rw [if_neg (by omega), if_neg (by omega), if_pos hp]
theorem iq5 {s : Lx} (hp : s.pos = 5) (c : Nat) (own : List UInt8) : iq s c own = if hexv c < 0 then none else some { s with pos := 2, word := s.word ++ [UInt8.ofNat (16 * s.dig + hexv c).toNat] } := by
  unfold iq
  rw [if_neg (by omega), if_neg (by omega), if_neg (show ¬ s.pos = 4 by omega)]
theorem iq_run {s : Lx} {c : Nat} {own : List UInt8} (hp : s.pos = 2 ∨ s.pos = 3 ∨ s.pos = 4 ∨ s.pos = 5) (hb : s.bad = false) (h : Own c own) : Fits (iq s c own) (runS s own) := by
  rcases h with ⟨y, rfl, rfl, hy⟩ | ⟨hc, hne, hall⟩
  · rw [run_one hb]
    rcases hp with hp | hp | hp | hp
    · rw [iq2 hp, next2 hp]
      unfold insideS
      by_cases h1 : y.toNat = 34
      · rw [if_pos h1, if_pos h1]; exact rfl
      rw [if_neg h1, if_neg h1]
      by_cases h2 : y.toNat = 92
      · rw [if_pos h2, if_pos h2]; exact rfl
      rw [if_neg h2, if_neg h2]
      cases h3 : isBarred y.toNat
      · exact rfl
      · exact rfl
    · rw [iq3 hp, next3 hp]
      unfold escapedS
      by_cases h1 : y.toNat = 92 ∨ y.toNat = 34
      · have e : mean y.toNat = y.toNat := if_pos h1
        rw [if_pos h1, if_neg (by omega), e, if_neg (by omega)]
        show _ = _
        simp
      rw [if_neg h1]
      by_cases h2 : y.toNat = 110
      · have e : mean y.toNat = 10 := by unfold mean; rw [if_neg h1, if_pos h2]
        rw [if_pos h2, if_neg (by omega), e, if_neg (by decide)]
        exact rfl
      rw [if_neg h2]
      by_cases h3 : y.toNat = 116
      · have e : mean y.toNat = 9 := by unfold mean; rw [if_neg h1, if_neg h2, if_pos h3]
        rw [if_pos h3, if_neg (by omega), e, if_neg (by decide)]
        exact rfl
      rw [if_neg h3]
      by_cases h4 : y.toNat = 120
      · rw [if_pos h4, if_pos h4]; exact rfl
      have e : mean y.toNat = 0 := by unfold mean; rw [if_neg h1, if_neg h2, if_neg h3]
      rw [if_neg h4, if_neg h4, e]
      exact rfl
    · rw [iq4 hp, next4 hp]
      by_cases h1 : hexv y.toNat < 0
      · rw [if_pos h1]
        show (s.bad || decide (hexv y.toNat < 0)) = true
        simp [h1]
      · rw [if_neg h1]
        show _ = _
        simp [h1]
    · rw [iq5 hp, next5 hp]
      unfold lowS
      by_cases h1 : hexv y.toNat < 0
      · rw [if_pos h1, if_pos h1]; exact rfl
      · rw [if_neg h1, if_neg h1]; exact rfl
  · obtain ⟨q1, q2, q3, q4⟩ := high_rune hc
    rcases hp with hp | hp
    · rw [run_high (.inr hp) hb own hall, iq2 hp, if_neg (by omega), if_neg (by omega), q2]
      exact rfl
    · have hn : iq s c own = none := by
        rcases hp with hp | hp | hp
        · rw [iq3 hp, if_neg (by omega), if_pos q4]
        · rw [iq4 hp, if_pos q3]
        · rw [iq5 hp, if_pos q3]
      rw [hn]
      cases own with
      | nil => exact absurd rfl hne
      | cons y r =>
        have hy := hall y (List.mem_cons_self ..)
        obtain ⟨p1, p2, p3, p4, p5⟩ := high_plain hy
        refine run_cons_bad hb r ?_
        rcases hp with hp | hp | hp
        · rw [next3 hp]
          unfold escapedS
          rw [if_neg (by omega), if_neg (by omega), if_neg (by omega), if_neg (by omega)]
        · rw [next4 hp]
          show (s.bad || decide (hexv y.toNat < 0)) = true
          simp [p4]
        · rw [next5 hp]
          unfold lowS
          rw [if_pos p4]
/-- a bare rune -/
theorem bare_run {s : Lx} {c : Nat} {own : List UInt8} (hp : s.pos = 1) (hb : s.bad = false) (h : Own c own) (hbl : isBlank c = false) :
    if (isBarred c || c == 34 || c == 92) = true then (runS s own).bad = true else runS s own = { s with word := s.word ++ own } := by
  rcases h with ⟨y, rfl, rfl, hy⟩ | ⟨hc, hne, hall⟩
  · have e : nextS s y = plainS s y := by
      unfold nextS
      rw [if_neg (by omega), if_pos hp, hbl]
      rfl
    rw [run_one hb, e]
    by_cases h1 : (isBarred y.toNat || y.toNat == 34 || y.toNat == 92) = true
    · rw [if_pos h1]
      show (s.bad || (isBarred y.toNat || y.toNat == 34 || y.toNat == 92)) = true
      rw [h1, Bool.or_true]
    · rw [if_neg h1]
      have h1 : (isBarred y.toNat || y.toNat == 34 || y.toNat == 92) = false := by simpa using h1
      unfold plainS
      rw [h1, Bool.or_false]
  · obtain ⟨q1, q2, q3, q4⟩ := high_rune hc
    rw [if_neg (by rw [q2]; simp; omega)]
    exact run_high (.inl hp) hb own hall
/-- a blank is one byte -/
theorem own_small {c : Nat} {own : List UInt8} (h : Own c own) (hc : c < 128) : ∃ y : UInt8, own = [y] ∧ c = y.toNat := by
  rcases h with ⟨y, e, e2, _⟩ | ⟨h, _⟩
  · exact ⟨y, e, e2⟩
  · omega
theorem blank_small {c : Nat} (h : isBlank c = true) : c < 128 := by
  unfold isBlank at h
  simp at h
  omega
theorem bare_blank {s : Lx} {c : Nat} {own : List UInt8} (hp : s.pos = 1) (hb : s.bad = false) (h : Own c own) (hbl : isBlank c = true) : runS s own = { endsS s with pos := 0 } := by
  obtain ⟨y, rfl, rfl⟩ := own_small h (blank_small hbl)
  rw [run_one hb]
  unfold nextS
  rw [if_neg (by omega), if_pos hp, if_pos hbl]
theorem behind_run {s : Lx} {c : Nat} {own : List UInt8} (hp : s.pos = 6) (hb : s.bad = false) (h : Own c own) :
    if isBlank c = true then runS s own = { s with pos := 0 } else (runS s own).bad = true := by
  have key : ∀ y : UInt8, nextS s y = { s with pos := 0, bad := s.bad || !isBlank y.toNat } := fun y => by
    unfold nextS
    rw [if_neg (by omega), if_neg (by omega), if_neg (by omega), if_neg (by omega), if_neg (by omega), if_neg (by omega), if_pos hp]
  cases hbl : isBlank c
  · rw [if_neg (by simp)]
    cases own with
    | nil =>
      rcases h with ⟨y, e, _⟩ | ⟨_, e, _⟩
      · cases e
      · exact absurd rfl e
    | cons y r =>
      refine run_cons_bad hb r ?_
      have hy : isBlank y.toNat = false := by
        rcases h with ⟨y', e, e2, _⟩ | ⟨_, _, hall⟩
        · cases e
          rw [← e2]
          exact hbl
        · exact (high_plain (hall y (List.mem_cons_self ..))).1
      rw [key, hy]
      simp
  · rw [if_pos rfl]
    obtain ⟨y, rfl, rfl⟩ := own_small h (blank_small hbl)
    rw [run_one hb, key, hbl]
    simp
theorem run_comment {s : Lx} (hp : s.pos = 7) (l : List UInt8) : runS s l = s := by
  induction l with
  | nil => rfl
  | cons y r ih =>
    show (if s.bad then s else runS (nextS s y) r) = s
    have e : nextS s y = s := by
      unfold nextS
      rw [if_neg (by omega), if_neg (by omega), if_neg (by omega), if_neg (by omega), if_neg (by omega), if_neg (by omega), if_neg (by omega)]
    rw [e, ih]
    split <;> rfl
/-- a rune where a word could begin -/
theorem between_run {s : Lx} {c : Nat} {own : List UInt8} (hp : s.pos = 0) (hb : s.bad = false) (h : Own c own) :
    if c = 35 then (∀ r, runS s (own ++ r) = { s with pos := 7 }) else if c = 34 then runS s own = { s with pos := 2 } else if isBlank c = true then runS s own = s
    else runS s own = runS { s with pos := 1 } own := by
  by_cases h1 : c = 35
  · rw [if_pos h1]
    intro r
    obtain ⟨y, rfl, rfl⟩ := own_small h (by omega)
    rw [runS_append, run_one hb]
    have e : nextS s y = { s with pos := 7 } := by
      unfold nextS firstS isBlank
      rw [if_pos hp, h1]
      rfl
    rw [e]
    exact run_comment rfl r
  rw [if_neg h1]
  by_cases h2 : c = 34
  · rw [if_pos h2]
    obtain ⟨y, rfl, rfl⟩ := own_small h (by omega)
    rw [run_one hb]
    unfold nextS firstS isBlank
    rw [if_pos hp, h2]
    rfl
  rw [if_neg h2]
  cases h3 : isBlank c
  · rw [if_neg (by simp)]
    cases own with
    | nil => rcases h with ⟨y, e, _⟩ | ⟨_, e, _⟩
             · cases e
             · exact absurd rfl e
    | cons y r =>
      have hy : isBlank y.toNat = false ∧ y.toNat ≠ 35 ∧ y.toNat ≠ 34 := by
        rcases h with ⟨y', e, e2, _⟩ | ⟨_, _, hall⟩
        · cases e
          rw [← e2]
          exact ⟨h3, h1, h2⟩
        · have := hall y (List.mem_cons_self ..)
          exact ⟨(high_plain this).1, by omega, by omega⟩
      have e1 : nextS s y = plainS { s with pos := 1 } y := by
        unfold nextS firstS
        rw [if_pos hp, hy.1, if_neg (by simp), if_neg hy.2.1, if_neg hy.2.2]
      have e2 : nextS { s with pos := 1 } y = plainS { s with pos := 1 } y := by
        unfold nextS
        rw [if_neg (by simp), if_pos rfl, hy.1]
        rfl
      show (if s.bad then s else runS (nextS s y) r) = (if s.bad then { s with pos := 1 } else runS (nextS { s with pos := 1 } y) r)
      rw [if_neg (by rw [hb]; simp), if_neg (by rw [hb]; simp), e1, e2]
  · rw [if_pos rfl]
    obtain ⟨y, rfl, rfl⟩ := own_small h (blank_small h3)
    rw [run_one hb]
    unfold nextS firstS
    rw [if_pos hp, if_pos h3]
    cases s
    simp at hp
    simp [hp]
end Go.Proofs.YtcdhkeahcliefaaGreatDoor.Runes
/- A rune of a line: its value, its width, its own bytes. -/
namespace Go.Proofs.YtcdhkeahcliefaaGreatDoor.LexR
open Go.ChangeShapes Go.WideShapes Go.ChangeAt Go.RowKit
open Go.Proofs.YtcdhkeahcliefaaGreatDoor.Kit Go.Proofs.YtcdhkeahcliefaaGreatDoor.Base Go.Proofs.YtcdhkeahcliefaaGreatDoor.Bld Go.Proofs.YtcdhkeahcliefaaGreatDoor.Lex Go.Proofs.YtcdhkeahcliefaaGreatDoor.Runes
set_option linter.unusedVariables false

theorem decodeN_le (n b0 b1 b2 b3 : Nat) : (Lib.decodeN n b0 b1 b2 b3).1 ≤ 1114111 ∧ (Lib.decodeN n b0 b1 b2 b3).2 ≤ 4 := by
  unfold Lib.decodeN
  repeat' split
  all_goals (constructor <;> (dsimp only; omega))
theorem decode_low (s : ByteArray) (pos : Nat) (h : pos < s.size) (ha : (s[pos]'h).toNat < 128) : Utf8.decode s pos = ((s[pos]'h).toNat, 1) := by
  simp only [Utf8.decode, Go.get_at s pos h, ha, if_true]
theorem str_get (l : List UInt8) (i : Nat) (h : i < (str l).size) (h2 : i < l.length) : (str l)[i]'h = l[i]'h2 := by
  have e : ((str l)[i]'h) = (l.toArray)[i]'(by simpa using h2) := rfl
  rw [e]
  simp
theorem str_extract (l : List UInt8) (i j : Nat) : (str l).extract i j = str ((l.take j).drop i) := by
  apply ByteArray.ext
  show ((str l).extract i j).data = _
  rw [ByteArray.data_extract]
  apply Array.ext'
  simp [str]
  try rw [List.drop_take]
/-- a rune of the line -/
structure Ru (l : List UInt8) (i c q : Nat) (own : List UInt8) : Prop where
  isOwn : Own c own
  len : own.length = q
  q4 : q ≤ 4
  c9 : c ≤ 1114111
  pos : 1 ≤ q
  fit : i + q ≤ l.length
  app : l.take (i + q) = l.take i ++ own
  sub : (str l).extract i (i + q) = str own
  dec : Utf8.decode (str l) i = (c, q)
theorem ru_ex (l : List UInt8) (i : Nat) (hi : i < l.length) : ∃ c q own, Ru l i c q own := by
  have hs : i < (str l).size := by rw [str_size]; exact hi
  have hg := str_get l i hs hi
  have hb : (Utf8.decode (str l) i).1 ≤ 1114111 ∧ (Utf8.decode (str l) i).2 ≤ 4 := by
    rw [Lib.decode_at]
    exact decodeN_le _ _ _ _ _
  obtain ⟨c, hc⟩ : ∃ c, (Utf8.decode (str l) i).1 = c := ⟨_, rfl⟩
  obtain ⟨q, hq⟩ : ∃ q, (Utf8.decode (str l) i).2 = q := ⟨_, rfl⟩
  have hd : Utf8.decode (str l) i = (c, q) := by rw [← hc, ← hq]
  have key : Own c ((l.take (i + q)).drop i) ∧ 1 ≤ q ∧ i + q ≤ l.length := by
    by_cases hy : l[i].toNat < 128
    · have e := decode_low (str l) i hs (by rw [hg]; exact hy)
      rw [hd, hg] at e
      injection e with e1 e2
      subst e1 e2
      refine ⟨.inl ⟨l[i], ?_, rfl, hy⟩, Nat.le_refl _, by omega⟩
      rw [List.take_succ_eq_append_getElem hi, List.drop_append_of_le_length (by simp; omega), List.drop_eq_nil_of_le (by simp; omega)]
      rfl
    · have hy : 128 ≤ ((str l)[i]'hs).toNat := by rw [hg]; omega
      have h1 := decode_high (str l) i hs hy
      have h2 := decode_span (str l) i hs hy
      rw [hd] at h1 h2
      have hf : i + q ≤ l.length := by have := h2.1; rw [str_size] at this; exact this
      refine ⟨.inr ⟨h1.1, ?_, ?_⟩, h1.2, hf⟩
      · intro e
        have := congrArg List.length e
        have h12 := h1.2
        simp at this
        omega
      · intro y hm
        obtain ⟨k, hk, e⟩ := List.getElem_of_mem hm
        have hk1 : k < q := by simp at hk; omega
        have := h2.2 k hk1
        have hs2 : i + k < (str l).size := by rw [str_size]; omega
        rw [Runes.get_at _ _ hs2, str_get l _ hs2 (by omega)] at this
        rw [← e]
        simpa using this
  refine ⟨c, q, (l.take (i + q)).drop i, key.1, ?_, by rw [hq] at hb; exact hb.2, by rw [hc] at hb; exact hb.1, key.2.1, key.2.2, ?_, str_extract l i (i + q), hd⟩
  · have := key.2.2
    simp
    omega
  · have h := List.take_append_drop i (l.take (i + q))
    rw [List.take_take, Nat.min_eq_left (by omega)] at h
    exact h.symm
theorem ru_dec {l : List UInt8} {i c q : Nat} {own : List UInt8} (R : Ru l i c q own) {w : World} (hT : Lib.Utf8Tabs 0 1 w) :
    Calls Tryz.prog 31 #[.string ((str l).extract i (str l).size)] w fun e w' => e = .returned (.tuple #[.int .i32 c, .int .i64 q]) ∧ Hid (Below w.heap.size w w') := by
  have hs : i < (str l).size := by have h1 := R.fit; have h2 := R.pos; rw [str_size]; omega
  refine (Tryz.utf8_DecodeRuneInString ((str l).extract i (str l).size) w hT).mono ?_
  rintro e w' ⟨rfl, h⟩
  have e1 : Lib.decodeGo ((str l).extract i (str l).size) = (c, q) := by
    unfold Lib.decodeGo
    rw [if_neg (by rw [Lib.tail_size]; omega), Lib.tail_decode]
    exact R.dec
  rw [e1]
  exact ⟨rfl, h⟩
theorem ru_next {l : List UInt8} {i c q : Nat} {own : List UInt8} (R : Ru l i c q own) {w : World} {k : Nat} {ty : TypeId} (hk : w.heap[k]? = some (.stringIter (str l) i)) :
    (Instr.next (.pointer (some ⟨k, 0, none⟩)) true ty).run Tryz.prog w = .ok (.tuple #[.bool true, .int .i64 i, .int .i32 c]) (w.iterAt k (str l) (i + q)) := by
  have hs : i < (str l).size := by have h1 := R.fit; have h2 := R.pos; rw [str_size]; omega
  have h := Lib.run_next_any_at (P := Tryz.prog) w k (str l) i ty hk hs
  rw [R.dec] at h
  exact h
theorem iq_pos {s : Lx} {c : Nat} {own : List UInt8} (hp : s.pos = 2 ∨ s.pos = 3 ∨ s.pos = 4 ∨ s.pos = 5) : ∀ t, LexF.iq s c own = some t → t.bad = s.bad ∧ t.pos ≤ 6 := by
  intro t h
  rcases hp with hp | hp | hp | hp
  · rw [iq2 hp] at h
    repeat' split at h
    all_goals first | (cases h; done) | (injection h with h; subst h; exact ⟨rfl, by first | (show (6 : Nat) ≤ 6; omega) | (show (3 : Nat) ≤ 6; omega) | (show s.pos ≤ 6; omega)⟩)
  · rw [iq3 hp] at h
    repeat' split at h
    all_goals first | (cases h; done) | (injection h with h; subst h; exact ⟨rfl, by first | (show (4 : Nat) ≤ 6; omega) | (show (2 : Nat) ≤ 6; omega)⟩)
  · rw [iq4 hp] at h
    repeat' split at h
    all_goals first | (cases h; done) | (injection h with h; subst h; exact ⟨rfl, by first | (show (5 : Nat) ≤ 6; omega)⟩)
  · rw [iq5 hp] at h
    repeat' split at h
    all_goals first | (cases h; done) | (injection h with h; subst h; exact ⟨rfl, by first | (show (2 : Nat) ≤ 6; omega)⟩)
end Go.Proofs.YtcdhkeahcliefaaGreatDoor.LexR
/- Split of a path: the document's, the program's. -/
namespace Go.Proofs.YtcdhkeahcliefaaGreatDoor.PathB
open Go.ChangeShapes Go.WideShapes Go.ChangeAt Go.RowKit
open Go.Proofs.YtcdhkeahcliefaaGreatDoor.Kit Go.Proofs.YtcdhkeahcliefaaGreatDoor.Base Go.Proofs.YtcdhkeahcliefaaGreatDoor.Bld Go.Proofs.YtcdhkeahcliefaaGreatDoor.Name Go.Proofs.YtcdhkeahcliefaaGreatDoor.Path
set_option linter.unusedVariables false

def splitErr (l : List UInt8) : Int := if l.head? = some 47 then errsOf (partsOf l) else 110
theorem empty_no {y : UInt8} {r : List UInt8} : (str (y :: r)).toList.isEmpty = false := by
  rw [Lib.toList_data, str_list]
  rfl
set_option maxRecDepth 100000 in
set_option maxHeartbeats 1600000 in
theorem splitR_any (l : List UInt8) (w : World) (hl : l.length ≤ 1023) : Calls Tryz.prog 60 #[.string (str l)] w (SplitPost (splitErr l) (partsOf l) w) := by
  cases l with
  | nil =>
    rw [show str [] = ⟨#[]⟩ from rfl]
    go_enter Tryz.func60, Tryz.ntmps60
    go_wp2_with fail
    go_ret2
    exact .inl ⟨by decide, rfl, Below.refl _ _⟩
  | cons y r =>
    have hsz : ((str (y :: r)).size : Int) ≤ 1023 := by rw [str_size]; omega
    have hsz1 : decide ((1023 : Int) < ((str (y :: r)).size : Int)) = false := decide_eq_false (by omega)
    have hsz2 : ¬ ((1023 : Int) < ((str (y :: r)).size : Int)) := by omega
    have hem := empty_no (y := y) (r := r)
    have hix : (Instr.index 9 (.string (str (y :: r))) (.int .i64 0)).run Tryz.prog w = .ok (.int .u8 (y.toNat : Int)) w := by
      have h0 : 0 < (str (y :: r)).size := by rw [str_size]; simp
      have e : (str (y :: r))[0] = y := by simp [str]; rfl
      rw [run_index_string w 9 _ .i64 0 Tryz.underlying9, dif_pos ⟨by omega, by omega⟩]
      simp [e]
    obtain ⟨S, hS⟩ : ∃ S, str (y :: r) = S := ⟨_, rfl⟩
    rw [hS] at hsz hsz1 hsz2 hem hix ⊢
    by_cases hy : y = 47
    · have HE : Hid (splitErr (y :: r) = errsOf (partsOf (y :: r))) := by show _ = _; unfold splitErr; rw [if_pos (by rw [hy]; rfl)]
      rw [hy] at hix
      rw [show ((47 : UInt8).toNat : Int) = 47 from rfl] at hix
      rw [HE.out]
      have HP : ∀ w S, str (y :: r) = S → Calls Tryz.prog 72 #[.string S] w (SplitPost (errsOf (partsOf (y :: r))) (partsOf (y :: r)) w) := fun w S h => by rw [← h]; exact partsR_any (y :: r) w hl
      have HH := Lib.hid HP
      have HSS := Lib.hid hS
      generalize errsOf (partsOf (y :: r)) = er at *
      generalize partsOf (y :: r) = ps at *
      clear HP hl hS hy HE
      go_enter Tryz.func60, Tryz.ntmps60
      go_wp2_with fail
      refine (HH.out w S HSS.out).mono ?_
      rintro e w2 (⟨h0, rfl, hb⟩ | ⟨h0, A, c, rfl, hb, hst⟩)
      · have H0 := Lib.hid h0
        clear h0
        go_wp2_with fail
        go_ret2
        exact .inl ⟨H0.out, rfl, hb⟩
      · have H0 := Lib.hid h0
        clear h0
        go_wp2_with fail
        go_ret2
        exact .inr ⟨H0.out, A, c, rfl, hb, hst⟩
    · have HE : Hid (splitErr (y :: r) = 110) := by show _ = _; unfold splitErr; rw [if_neg (by simpa using hy)]
      rw [HE.out]
      have t47 : ((y.toNat : Int) != 47) = true := by
        rw [bne_iff_ne]
        intro h
        exact hy (by apply UInt8.toNat_inj.1; show y.toNat = 47; omega)
      go_enter Tryz.func60, Tryz.ntmps60
      go_wp2_with fail
      go_ret2
      exact .inl ⟨by decide, rfl, Below.refl _ _⟩
end Go.Proofs.YtcdhkeahcliefaaGreatDoor.PathB
/- The program's parts of a path: cut. -/
namespace Go.Proofs.YtcdhkeahcliefaaGreatDoor.PathC
open Go.ChangeShapes Go.WideShapes Go.ChangeAt Go.RowKit
open Go.Proofs.YtcdhkeahcliefaaGreatDoor.Kit Go.Proofs.YtcdhkeahcliefaaGreatDoor.Base Go.Proofs.YtcdhkeahcliefaaGreatDoor.Bld Go.Proofs.YtcdhkeahcliefaaGreatDoor.Name Go.Proofs.YtcdhkeahcliefaaGreatDoor.LexF Go.Proofs.YtcdhkeahcliefaaGreatDoor.Path Go.Proofs.YtcdhkeahcliefaaGreatDoor.Runes Go.Proofs.YtcdhkeahcliefaaGreatDoor.LexR
set_option linter.unusedVariables false

/-- the list and the place of cut's closure -/
def Pc (Z : En) (w0 w : World) (f : Nat) (vo : Value) (ps : List (List UInt8)) : Prop :=
  SinceI Z w0 w ∧ Blk w Z.z #[vo] 22 ∧ Blk w (Z.z + 1) #[.int .i64 f] 3 ∧ w.ownsRow Z.z 9 1 vo ps.length (LexB.strs ps)
section
variable {Z : En} {w0 w w' : World} {f : Nat} {vo : Value} {ps : List (List UInt8)}
theorem Pc.raw (h : Hid (Pc Z w0 w f vo ps)) : Hid (Since Z.z w0 w ∧ w.ownsRow Z.z 9 1 vo ps.length (LexB.strs ps)) := ⟨h.out.1.1, h.out.2.2.2⟩
theorem Pc.box (h : Pc Z w0 w f vo ps) {B : Nat} {cs : Array Value} {t : TypeId} (hb : Blk w0 B cs t) (hB : B < Z.z) : Blk w B cs t := hb.below h.1.1.1 hB
theorem Pc.setF (h : Pc Z w0 w f vo ps) (g : Nat) : Pc Z w0 (w.setCell ⟨Z.z + 1, 0, none⟩ (.int .i64 g)) g vo ps :=
  ⟨h.1.set (Nat.le_succ _) h.2.2.1, h.2.1.far (by show Z.z ≠ Z.z + 1; omega) _, h.2.2.1.put 0 _, owns_set h.2.2.2 h.2.2.1 (by decide)⟩
theorem Pc.push (h : Pc Z w0 w f vo ps) {p : List UInt8} {v' : Value} {xs : List Value} (hx : xs = [.string (str p)]) (h7 : Since Z.z w0 w' ∧ w'.ownsRow Z.z 9 1 v' (ps.length + 1) (LexB.strs ps ++ xs)) (hk : Keeps 9 w w') :
    Pc Z w0 (w'.setCell ⟨Z.z, 0, none⟩ v') f v' (ps ++ [p]) := by
  have hb := hk.blk h.2.1 (by decide)
  refine ⟨(h.1.kept h7.1 hk).set (Nat.le_refl _) hb, hb.put 0 _, (hk.blk h.2.2.1 (by decide)).far (by show Z.z + 1 ≠ Z.z; omega) _, ?_⟩
  show World.ownsRow _ Z.z 9 1 v' (ps ++ [p]).length (LexB.strs (ps ++ [p]))
  rw [List.length_append, strs_snoc]
  subst hx
  exact owns_set h7.2 hb (by decide)
end
theorem Pc.iter {z k i j f : Nat} {S : ByteArray} {w w0 : World} {vo : Value} {ps : List (List UInt8)} (h : Pc ⟨z, k, S, i⟩ w0 w f vo ps) (hz : z ≤ k) : Pc ⟨z, k, S, j⟩ w0 (w.iterAt k S j) f vo ps := by
  obtain ⟨h1, h2, h3, h4⟩ := h
  have hk : ∀ (b : Nat) (o : Obj), o ≠ .stringIter S i → w.heap[b]? = some o → (w.iterAt k S j).heap[b]? = some o := fun b o hne hb => by
    have e : k ≠ b := fun e => by
      subst e
      have h := h1.2
      rw [show w.heap[k]? = some (.stringIter S i) from h] at hb
      exact hne (Option.some.inj hb).symm
    simp only [World.iterAt]
    rw [Array.getElem?_setIfInBounds_ne e]
    exact hb
  refine ⟨⟨⟨h1.1.1.trans ⟨rfl, rfl, rfl, by simp [World.iterAt], fun b hb => ?_⟩, ?_⟩, ?_⟩, hk _ _ (fun h => by cases h) h2, hk _ _ (fun h => by cases h) h3, ?_⟩
  · simp only [World.iterAt]
    rw [Array.getElem?_setIfInBounds_ne (by have : b < z := hb; omega)]
  · have := h1.1.2
    simp only [World.iterAt, Array.size_setIfInBounds]
    exact this
  · exact Lib.iterAt_heap w k S i j h1.2
  · refine ⟨h4.1, ?_⟩
    rcases h4.2 with h0 | ⟨g, cap, cur, hv, hb, hg, r⟩
    · exact .inl h0
    · exact .inr ⟨g, cap, cur, hv, hb, hk g _ (fun h => by cases h) hg, r⟩
set_option maxRecDepth 100000 in
set_option maxHeartbeats 1600000 in
/-- add: one part more, if it is one -/
theorem add_any (Z : En) (B k f : Nat) (l : List UInt8) (st : PSt) (w0 w : World) (vo : Value) (hl : l.length ≤ 1023) (hk : k ≤ l.length) (hB : B < Z.z) (hb0 : Hid (Blk w0 B #[.string (str l)] 9)) (h : Hid (Pc Z w0 w f vo st.2)) (hpi : Hid (PI l k f st)) :
    Calls Tryz.prog 100 #[.int .i64 k, .pointer (some ⟨B, 0, none⟩), .pointer (some ⟨Z.z + 1, 0, none⟩), .pointer (some ⟨Z.z, 0, none⟩)] w fun e w' => e = .returned (.tuple #[]) ∧ ∃ v', Hid (Pc Z w0 w' f v' (addP st)) := by
  obtain ⟨S, hS⟩ : ∃ S, str l = S := ⟨_, rfl⟩
  rw [hS] at hb0
  have hsz : S.size = l.length := by rw [← hS, str_size]
  have hcut : S.extract f k = str st.1 := by rw [← hS, Path.str_extract, hpi.out.cur]
  have f0 : (0 : Int) ≤ (f : Int) := by omega
  have fk : (f : Int) ≤ (k : Int) := by have := hpi.out.fk; omega
  have kn : (k : Int) ≤ (S.size : Int) := by omega
  have k9 : (k : Int) ≤ 1023 := by omega
  have k0 : (0 : Int) ≤ (k : Int) := by omega
  have HLEN : Hid (st.2.length ≤ 1023) := by have := hpi.out.len; show _ ≤ _; omega
  have bb := h.out.box hb0.out hB
  have c1 : w.cell? ⟨B, 0, none⟩ = some (.string S) := (bb.cell 0).trans rfl
  have g1 := bb.frozen 0
  have c2 : w.cell? ⟨Z.z + 1, 0, none⟩ = some (.int .i64 f) := (h.out.2.2.1.cell 0).trans rfl
  have g2 := h.out.2.2.1.frozen 0
  have c3 : w.cell? ⟨Z.z, 0, none⟩ = some vo := (h.out.2.1.cell 0).trans rfl
  have g3 := h.out.2.1.frozen 0
  clear bb hl hk hsz hS
  by_cases e : st.1 = []
  · have HPS : Hid (addP st = st.2) := addP_skip (.inl e)
    rw [e, show str [] = ⟨#[]⟩ from rfl] at hcut
    rw [HPS.out]
    clear e
    go_enter Tryz.func100, Tryz.ntmps100
    go_wp2_with fail
    go_end0
    exact ⟨rfl, _, h⟩
  by_cases e1 : st.1 = [46]
  · have HPS : Hid (addP st = st.2) := addP_skip (.inr e1)
    rw [e1, show str [46] = ⟨#[46]⟩ from rfl] at hcut
    rw [HPS.out]
    clear e e1
    go_enter Tryz.func100, Tryz.ntmps100
    go_wp2_with fail
    go_end0
    exact ⟨rfl, _, h⟩
  have HPS : Hid (addP st = st.2 ++ [st.1]) := addP_add (by rintro (h | h); exact e h; exact e1 h)
  rw [HPS.out]
  have HNE : Hid ((str st.1).toList.isEmpty = false ∧ ((str st.1).toList == [46]) = false) := by
    show _ ∧ _
    rw [Lib.toList_data, str_list]
    refine ⟨?_, beq_eq_false_iff_ne.2 e1⟩
    cases h : st.1 with
    | nil => exact absurd h e
    | cons => rfl
  obtain ⟨t1, t2⟩ := HNE.out
  clear e e1
  go_enter Tryz.func100, Tryz.ntmps100
  go_wp2_with (first | (at_builtin; go_loud (refine app_keep (v := vo) el22 rfl (.tmp 16) (.tmp 18) rfl rfl (Pc.raw h) #[.string (str st.1)] 1 1 rfl rfl (one_cell _ rfl) (by have := HLEN.out; omega) ?_); intro A7 c7 w7 h7 hk7; have d1 : w7.cell? ⟨Z.z, 0, none⟩ = some vo := ((hk7.out.blk h.out.2.1 (by decide)).cell 0).trans rfl; have f1 := (hk7.out.blk h.out.2.1 (by decide)).frozen 0))
  go_end0
  exact ⟨rfl, _, h.out.push rfl h7.out hk7.out⟩
end Go.Proofs.YtcdhkeahcliefaaGreatDoor.PathC
