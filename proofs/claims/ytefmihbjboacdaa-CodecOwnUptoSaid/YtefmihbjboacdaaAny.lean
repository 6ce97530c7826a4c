/- strings.ContainsAny(s, "/\x00") says whether a byte of s is a bar or zero, at every text of at most 54 bytes. -/
import Derived.Test.YtefmihbjboacdaaBars
import Derived.Lib.OthersKept
namespace Go.Proofs.Ytefmihbjboacdaa.Any
open Go.ChangeShapes Go.WideShapes Go.ChangeAt Go.RowKit
open Go.Proofs.Ytefmihbjboacdaa.Kit Go.Proofs.Ytefmihbjboacdaa.Laid Go.Proofs.Ytefmihbjboacdaa.Rune Go.Proofs.Ytefmihbjboacdaa.Bars
set_option linter.unusedVariables false

def AnyPost (s : ByteArray) (w : World) (e : Ending) (w' : World) : Prop :=
  ∃ v : Int, e = .returned (.int .i64 v) ∧ decide (0 ≤ v) = hasBar s ∧ Hid (Below w.heap.size w w')
theorem any_long (s : ByteArray) (w : World) (h8 : 8 < s.size) (hs : s.size ≤ 54) :
    Calls Try.prog 68 #[.string s, .string { data := #[47, 0] }] w (AnyPost s w) := by
  refine (Laid.any_long s { data := #[47, 0] } w (by decide) h8 (by omega) (by decide) ?_).mono ?_
  · intro j b hb
    match j, hb with
    | 0, hb => simp at hb; subst hb; decide
    | 1, hb => simp at hb; subst hb; decide
    | k + 2, hb => simp at hb
  · rintro e w' ⟨rfl, hb⟩
    exact ⟨_, rfl, index_bars _, hb⟩
theorem rune_any (r : Int) (w : World) (h : 128 ≤ r) : Calls Try.prog 69 #[.string { data := #[47, 0] }, .int .i32 r] w (RunePost w) := by
  by_cases hr : r = 65533
  · subst hr; exact rune_err w
  · exact rune_high r w h hr
theorem rune_bar (b : UInt8) (w : World) (h : b.toNat < 128) : Calls Try.prog 69 #[.string { data := #[47, 0] }, .int .i32 b.toNat] w fun e w' => ∃ v : Int, e = .returned (.int .i64 v) ∧ decide (0 ≤ v) = isBar b ∧ w' = w := by
  refine (rune_low { data := #[47, 0] } b.toNat w (by omega) (by omega)).mono ?_
  rintro e w' ⟨rfl, rfl⟩
  refine ⟨_, rfl, ?_, rfl⟩
  have := Lib.contains_iff_indexByte [47, 0] b
  rw [contains_bars] at this
  rw [this]
  simp
def At (s : ByteArray) (w : World) (K i : Nat) (wx : World) : Prop := NoBar s i ∧ wx.heap[K]? = some (.stringIter s i) ∧ w.heap.size ≤ K ∧ Below w.heap.size w wx
theorem At.end_ {s : ByteArray} {w wx : World} {K : Nat} (h : At s w K s.size wx) : hasBar s = false := h.1.all
theorem At.next {s : ByteArray} {w wx : World} {K i j : Nat} (h : At s w K i wx) (hn : NoBar s j) : At s w K j (wx.iterAt K s j) := by
  refine ⟨hn, Lib.iterAt_heap wx K s i j h.2.1, h.2.2.1, ?_⟩
  have hb := h.2.2.2
  exact hb.trans ⟨rfl, rfl, rfl, by simp [World.iterAt], fun k hk => by simp [World.iterAt]; rw [Array.getElem?_setIfInBounds_ne (by have := h.2.2.1; omega)]⟩
theorem At.moved {s : ByteArray} {w wx : World} {K i : Nat} (h : At s w K i wx) (j : Nat) : Below w.heap.size w (wx.iterAt K s j) :=
  h.2.2.2.trans ⟨rfl, rfl, rfl, by simp [World.iterAt], fun k hk => by simp [World.iterAt]; rw [Array.getElem?_setIfInBounds_ne (by have := h.2.2.1; omega)]⟩
theorem At.below {s : ByteArray} {w wx wy : World} {K i : Nat} (h : At s w K i wx) (hb : Below wx.heap.size wx wy) : At s w K i wy :=
  ⟨h.1, by rw [hb.block K (Array.getElem?_eq_some_iff.1 h.2.1).1]; exact h.2.1, h.2.2.1, h.2.2.2.trans (hb.mono h.2.2.2.size)⟩

set_option maxRecDepth 100000 in
set_option maxHeartbeats 1600000 in
theorem any_short (s : ByteArray) (w : World) (h8 : s.size ≤ 8) :
    Calls Try.prog 68 #[.string s, .string { data := #[47, 0] }] w (AnyPost s w) := by
  have h8z : decide ((8 : Int) < (s.size : Int)) = false := decide_eq_false (by omega)
  go_enter Try.func68, Try.ntmps68
  go_wp2_with fail
  refine (should _ _).mono ?_
  rw [h8z]
  rintro e w1 ⟨rfl, hw⟩
  rw [hw]
  clear hw w1
  go_wp2_with fail
  obtain ⟨K, hK⟩ : ∃ K, w.heap.size = K := ⟨_, rfl⟩
  refine gen_world (fun wx => Hid (At s w K 0 wx)) ?_ ?_
  · subst hK
    exact ⟨fun j hj => by omega, World.iter_heap w s 0, Nat.le_refl _, (Below.refl _ _).alloc (Nat.le_refl _) _⟩
  rw [hK]
  clear hK
  rintro wi hi
  go_loopg [9, 10] s.size (fun g _ _ wx => ∃ i : Nat, i + g = s.size ∧ Hid (At s w K i wx))
  case atStart => exact ⟨0, by omega, hi⟩
  case round =>
    clear hi
    obtain ⟨i, hig, hi⟩ := hrel
    cases gk with
    | zero =>
      obtain rfl : i = s.size := by omega
      have hnx := fun ty => Lib.run_next_end_at (P := Try.prog) _ K s s.size ty hi.out.2.1 (by omega)
      go_wp2_with fail
      go_ret
      exact ⟨_, rfl, by rw [hi.out.end_]; rfl, hi.out.2.2.2⟩
    | succ g =>
      have hlt : i < s.size := by omega
      by_cases hlow : (s[i]'hlt).toNat < 128
      · have hnx := fun ty => Lib.run_next_ascii_at (P := Try.prog) _ K s i ty hi.out.2.1 hlt hlow
        obtain ⟨b, hb⟩ : ∃ b, s[i]'hlt = b := ⟨_, rfl⟩
        rw [hb] at hlow hnx
        have HB := Lib.hid hb
        clear hb
        go_wp2_with fail
        refine (rune_bar b _ hlow).mono ?_
        rintro e w2 ⟨v, rfl, hv, rfl⟩
        cases hbar : isBar b
        · rw [hbar] at hv
          have hnob : NoBar s (i + 1) := fun j hj hjs => by
            by_cases e : j = i
            · subst e; rw [HB.out]; exact hbar
            · exact hi.out.1 j (by omega) hjs
          have HN := Lib.hid hnob
          clear hnob
          go_wp2_with fail
          go_roundg g
          case measure => omega
          case rel => exact ⟨i + 1, by omega, hi.out.next HN.out⟩
        · rw [hbar] at hv
          have HH := Lib.hid (hasBar_at hlt (by rw [HB.out]; exact hbar))
          go_wp2_with fail
          go_ret
          exact ⟨_, rfl, by rw [HH.out]; exact decide_eq_true (by omega), hi.out.moved _⟩
      · have hhigh : 128 ≤ (s[i]'hlt).toNat := by omega
        have hnx := fun ty => Lib.run_next_any_at (P := Try.prog) _ K s i ty hi.out.2.1 hlt
        have hd := decode_high s i hlt hhigh
        have hsp := decode_span s i hlt hhigh
        obtain ⟨r, hr⟩ : ∃ r, (Utf8.decode s i).1 = r := ⟨_, rfl⟩
        obtain ⟨q, hq⟩ : ∃ q, (Utf8.decode s i).2 = q := ⟨_, rfl⟩
        rw [hr, hq] at hnx hd
        rw [hq] at hsp
        have hnob : NoBar s (i + q) := fun j hj hjs => by
          by_cases e : j < i
          · exact hi.out.1 j e hjs
          · have h := hsp.2 (j - i) (by omega)
            rw [show i + (j - i) = j by omega, Bars.get_at s j hjs] at h
            exact high_not_bar _ h
        have HN := Lib.hid hnob
        have HS := Lib.hid hsp.1
        have HD := Lib.hid hd
        clear hnob hsp hd hr hq hlow hhigh
        go_wp2_with fail
        refine (rune_any r _ (by have := HD.out.1; omega)).mono ?_
        rintro e w2 ⟨rfl, hb2⟩
        go_wp2_with fail
        have hs1 := HS.out
        have hd1 := HD.out.2
        go_roundg (s.size - (i + q))
        case measure => omega
        case rel => exact ⟨i + q, by omega, (hi.out.next HN.out).below hb2.out⟩
theorem any_any (s : ByteArray) (w : World) (hs : s.size ≤ 54) : Calls Try.prog 68 #[.string s, .string { data := #[47, 0] }] w (AnyPost s w) := by
  by_cases h : s.size ≤ 8
  · exact any_short s w h
  · exact any_long s w (by omega) hs
def HasPost (s : ByteArray) (w : World) (e : Ending) (w' : World) : Prop := e = .returned (.bool (hasBar s)) ∧ Hid (Below w.heap.size w w')
theorem contains_any (s : ByteArray) (w : World) (hs : s.size ≤ 54) : Calls Try.prog 61 #[.string s, .string { data := #[47, 0] }] w (HasPost s w) := by
  go_enter Try.func61, Try.ntmps61
  go_wp2_with fail
  refine (any_any s w hs).mono ?_
  rintro e w' ⟨v, rfl, hv, hb⟩
  have HV := Lib.hid hv
  clear hv
  go_wp2_with fail
  go_ret
  exact ⟨by rw [← HV.out]; rfl, hb⟩
end Go.Proofs.Ytefmihbjboacdaa.Any
