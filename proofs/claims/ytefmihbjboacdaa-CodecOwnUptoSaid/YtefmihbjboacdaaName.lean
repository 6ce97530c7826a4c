/- Name and the document's Name: the same error for every text. -/
import Derived.Test.YtefmihbjboacdaaAny
namespace Go.Proofs.Ytefmihbjboacdaa.Name
open Go.ChangeShapes Go.WideShapes Go.ChangeAt Go.RowKit
open Go.Proofs.Ytefmihbjboacdaa.Kit Go.Proofs.Ytefmihbjboacdaa.Bars Go.Proofs.Ytefmihbjboacdaa.Any
set_option linter.unusedVariables false

def nameErr (s : ByteArray) : Int := if 54 < s.size then 7 else if s = ⟨#[]⟩ ∨ s = ⟨#[46]⟩ ∨ s = ⟨#[46, 46]⟩ ∨ hasBar s = true then 21 else 0
def NamePost (s : ByteArray) (w : World) (e : Ending) (w' : World) : Prop := e = .returned (.int .i64 (nameErr s)) ∧ Hid (Below w.heap.size w w')
theorem err_long {s : ByteArray} (h : 54 < s.size) : nameErr s = 7 := if_pos h
theorem err_name {s : ByteArray} (h : ¬ 54 < s.size) (hs : s = ⟨#[]⟩ ∨ s = ⟨#[46]⟩ ∨ s = ⟨#[46, 46]⟩ ∨ hasBar s = true) : nameErr s = 21 := by
  unfold nameErr; rw [if_neg h, if_pos hs]
theorem err_no {s : ByteArray} (h : ¬ 54 < s.size) (hs : ¬ (s = ⟨#[]⟩ ∨ s = ⟨#[46]⟩ ∨ s = ⟨#[46, 46]⟩ ∨ hasBar s = true)) : nameErr s = 0 := by
  unfold nameErr; rw [if_neg h, if_neg hs]

theorem list_ne {s : ByteArray} {a : Array UInt8} (h : ¬ s = ⟨a⟩) : ¬ s.toList = a.toList := fun e => h (by
  rw [Lib.toList_data] at e
  cases s with
  | mk d => exact congrArg _ (Array.toList_inj.1 e))
theorem facts {s : ByteArray} (h0 : ¬ s = ⟨#[]⟩) (h1 : ¬ s = ⟨#[46]⟩) (h2 : ¬ s = ⟨#[46, 46]⟩) :
    s.toList.isEmpty = false ∧ (s.toList == [46]) = false ∧ (s.toList == [46, 46]) = false := by
  have e0 := list_ne h0
  have e1 := list_ne h1
  have e2 := list_ne h2
  refine ⟨?_, beq_eq_false_iff_ne.2 e1, beq_eq_false_iff_ne.2 e2⟩
  cases h : s.toList with
  | nil => exact absurd h e0
  | cons => rfl
set_option maxRecDepth 100000 in
set_option maxHeartbeats 800000 in
theorem name_any (s : ByteArray) (w : World) : Calls Try.prog 32 #[.string s] w (NamePost s w) := by
  by_cases h : 54 < s.size
  · have HE := Lib.hid (err_long h)
    go_enter Try.func32, Try.ntmps32
    go_wp2_with fail
    go_ret
    exact ⟨by rw [HE.out]; rfl, Below.refl _ _⟩
  by_cases h0 : s = ⟨#[]⟩
  · subst h0
    go_enter Try.func32, Try.ntmps32
    go_wp2_with fail
    go_ret
    exact ⟨rfl, Below.refl _ _⟩
  by_cases h1 : s = ⟨#[46]⟩
  · subst h1
    go_enter Try.func32, Try.ntmps32
    go_wp2_with fail
    go_ret
    exact ⟨rfl, Below.refl _ _⟩
  by_cases h2 : s = ⟨#[46, 46]⟩
  · subst h2
    go_enter Try.func32, Try.ntmps32
    go_wp2_with fail
    go_ret
    exact ⟨rfl, Below.refl _ _⟩
  obtain ⟨e0, e1, e2⟩ := facts h0 h1 h2
  have e54 : decide ((54 : Int) < (s.size : Int)) = false := decide_eq_false (by omega)
  have HN := Lib.hid h
  have H3 := Lib.hid (And.intro h0 (And.intro h1 h2))
  have h54 : s.size ≤ 54 := by omega
  clear h h0 h1 h2
  go_enter Try.func32, Try.ntmps32
  go_wp2_with fail
  refine (contains_any s _ h54).mono ?_
  rintro e w' ⟨rfl, hb⟩
  cases hbar : hasBar s
  · have HE := Lib.hid (err_no HN.out (fun h => by
      rcases h with h | h | h | h
      · exact H3.out.1 h
      · exact H3.out.2.1 h
      · exact H3.out.2.2 h
      · rw [hbar] at h; cases h))
    clear hbar
    go_wp2_with fail
    go_ret
    exact ⟨by rw [HE.out]; rfl, hb⟩
  · have HE := Lib.hid (err_name HN.out (.inr (.inr (.inr hbar))))
    clear hbar
    go_wp2_with fail
    go_ret
    exact ⟨by rw [HE.out]; rfl, hb⟩

set_option maxRecDepth 100000 in
set_option maxHeartbeats 800000 in
theorem ref_any (s : ByteArray) (w : World) : Calls Try.prog 33 #[.string s] w (NamePost s w) := by
  by_cases h : 54 < s.size
  · have HE := Lib.hid (err_long h)
    go_enter Try.func33, Try.ntmps33
    go_wp2_with fail
    go_ret
    exact ⟨by rw [HE.out]; rfl, Below.refl _ _⟩
  by_cases h0 : s = ⟨#[]⟩
  · subst h0
    go_enter Try.func33, Try.ntmps33
    go_wp2_with fail
    go_ret
    exact ⟨rfl, Below.refl _ _⟩
  by_cases h1 : s = ⟨#[46]⟩
  · subst h1
    go_enter Try.func33, Try.ntmps33
    go_wp2_with fail
    go_ret
    exact ⟨rfl, Below.refl _ _⟩
  by_cases h2 : s = ⟨#[46, 46]⟩
  · subst h2
    go_enter Try.func33, Try.ntmps33
    go_wp2_with fail
    go_ret
    exact ⟨rfl, Below.refl _ _⟩
  obtain ⟨e0, e1, e2⟩ := facts h0 h1 h2
  have e54 : decide ((54 : Int) < (s.size : Int)) = false := decide_eq_false (by omega)
  have HN := Lib.hid h
  have H3 := Lib.hid (And.intro h0 (And.intro h1 h2))
  have h54 : s.size ≤ 54 := by omega
  clear h h0 h1 h2
  go_enter Try.func33, Try.ntmps33
  go_wp2_with fail
  go_loopw [3] (fun i wr => ∃ (k : Nat), i = .int .i64 k ∧ k ≤ s.size ∧ Hid (NoBar s k) ∧ Hid (Below w.heap.size w wr)) (fun i _ => s.size - (intOf i).toNat)
  case atStart => exact ⟨0, rfl, Nat.zero_le _, fun j hj => absurd hj (Nat.not_lt_zero j), Below.refl _ _⟩
  case round =>
    obtain ⟨k, rfl, hk, hno, hb⟩ := hrel
    by_cases hlt : k < s.size
    · obtain ⟨b, hbk⟩ : ∃ b, s[k]'hlt = b := ⟨_, rfl⟩
      have hidx : ∀ w, (Instr.index 9 (.string s) (.int .i64 k)).run Try.prog w = .ok (.int .u8 b.toNat) w := fun w => by
        rw [run_index_string w 9 s .i64 k Try.underlying9, dif_pos ⟨by omega, by omega⟩]
        simp [hbk]
      have HBK := Lib.hid hbk
      clear hbk
      by_cases b1 : b = 47
      · subst b1
        have HE := Lib.hid (err_name HN.out (.inr (.inr (.inr (hasBar_at hlt (by rw [HBK.out]; decide))))))
        go_wp2_with fail
        go_ret
        exact ⟨by rw [HE.out]; rfl, hb⟩
      by_cases b2 : b = 0
      · subst b2
        have HE := Lib.hid (err_name HN.out (.inr (.inr (.inr (hasBar_at hlt (by rw [HBK.out]; decide))))))
        go_wp2_with fail
        go_ret
        exact ⟨by rw [HE.out]; rfl, hb⟩
      have t1 : ((b.toNat : Int) == 47) = false := beq_eq_false_iff_ne.2 (fun e => b1 (by apply UInt8.toNat_inj.1; show b.toNat = 47; omega))
      have t2 : ((b.toNat : Int) == 0) = false := beq_eq_false_iff_ne.2 (fun e => b2 (by apply UInt8.toNat_inj.1; show b.toNat = 0; omega))
      have hnb : isBar b = false := by unfold isBar; simp [b1, b2]
      have hnob : NoBar s (k + 1) := fun j hj hjs => by
        by_cases e : j = k
        · subst e; rw [HBK.out]; exact hnb
        · exact hno.out j (by omega) hjs
      have HNO := Lib.hid hnob
      clear hnob hnb b1 b2
      go_wp2_with fail
      exact ⟨⟨k + 1, by go_num, by omega, HNO, hb⟩, by simp [intOf]; omega⟩
    · obtain rfl : k = s.size := by omega
      have hbar := NoBar.all hno.out
      have HE := Lib.hid (err_no HN.out (fun h => by
        rcases h with h | h | h | h
        · exact H3.out.1 h
        · exact H3.out.2.1 h
        · exact H3.out.2.2 h
        · rw [hbar] at h; cases h))
      clear hbar
      go_wp2_with fail
      go_ret
      exact ⟨by rw [HE.out]; rfl, hb⟩
end Go.Proofs.Ytefmihbjboacdaa.Name
