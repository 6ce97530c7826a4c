/- strings.IndexRune("/\x00", r) at a rune beyond ASCII: -1. Plain facts on bytes, bars and runes. strings.ContainsAny(s, "/\x00") says whether a byte of s is a bar or zero, at every text of at most 54 bytes. Name and the document's Name: the same error for every text. -/
import Derived.Test.YtcdhkeahcliefaaGreatDoorPrint02
import Derived.Test.YtcdhkeahcliefaaGreatDoorPrint01
import Derived.Laws.RangeAny
import Derived.Laws.Runes
import Derived.WalkMore
import Derived.Deep.RegionHeld3
import Derived.Lib.Hide
import Derived.Lib.OthersKept
/- strings.IndexRune("/\x00", r) at a rune beyond ASCII: -1. -/
namespace Go.Proofs.YtcdhkeahcliefaaGreatDoor.Rune
open Go.ChangeShapes Go.WideShapes Go.ChangeAt Go.RowKit
open Go.Proofs.YtcdhkeahcliefaaGreatDoor.Kit Go.Proofs.YtcdhkeahcliefaaGreatDoor.Laid
set_option linter.unusedVariables false

def bars : ByteArray := ⟨#[47, 0]⟩
theorem encode_form (r : Int) (h : 128 ≤ r) : (∃ x y : UInt8, Utf8.encode r = ⟨#[x, y]⟩ ∧ 128 ≤ y.toNat) ∨ (∃ x y z : UInt8, Utf8.encode r = ⟨#[x, y, z]⟩) ∨ (∃ x y z t : UInt8, Utf8.encode r = ⟨#[x, y, z, t]⟩) := by
  unfold Utf8.encode
  dsimp only
  generalize hc : (if Utf8.valid r then r.toNat else Utf8.runeError) = c
  have hc2 : 128 ≤ c := by
    rw [← hc]
    split
    · omega
    · decide
  rw [if_neg (by omega)]
  split
  · left
    refine ⟨_, _, rfl, ?_⟩
    rw [UInt8.toNat_ofNat']
    omega
  · right
    split
    · exact .inl ⟨_, _, _, rfl⟩
    · exact .inr ⟨_, _, _, _, rfl⟩

def ValidPost (w : World) (e : Ending) (w' : World) : Prop := ∃ b, e = .returned (.bool b) ∧ Hid (Below w.heap.size w w')
set_option maxHeartbeats 800000 in
theorem valid_any (r : Int) (w : World) : Calls Tryz.prog 109 #[.int .i32 r] w (ValidPost w) := by
  by_cases h0 : 0 ≤ r
  · by_cases h1 : r < 55296
    · go_enter Tryz.func109, Tryz.ntmps109
      go_wp2_with fail
      go_ret
      exact ⟨_, rfl, Below.refl _ _⟩
    · by_cases h2 : 57343 < r
      · by_cases h3 : r ≤ 1114111
        · go_enter Tryz.func109, Tryz.ntmps109
          go_wp2_with fail
          go_ret
          exact ⟨_, rfl, Below.refl _ _⟩
        · go_enter Tryz.func109, Tryz.ntmps109
          go_wp2_with fail
          go_ret
          exact ⟨_, rfl, Below.refl _ _⟩
      · go_enter Tryz.func109, Tryz.ntmps109
        go_wp2_with fail
        go_ret
        exact ⟨_, rfl, Below.refl _ _⟩
  · by_cases h2 : 57343 < r
    · omega
    · go_enter Tryz.func109, Tryz.ntmps109
      go_wp2_with fail
      go_ret
      exact ⟨_, rfl, Below.refl _ _⟩

def RunePost (w : World) (e : Ending) (w' : World) : Prop := e = .returned (.int .i64 (-1)) ∧ Hid (Below w.heap.size w w')
set_option maxRecDepth 100000 in
set_option maxHeartbeats 1600000 in
theorem rune_err (w : World) : Calls Tryz.prog 104 #[.string { data := #[47, 0] }, .int .i32 65533] w (RunePost w) := by
  go_enter Tryz.func104, Tryz.ntmps104
  go_wp2_with fail
  go_loopg [5, 6] 2 (fun g _ _ wx => ∃ i : Nat, i + g = 2 ∧ wx = w.iter { data := #[47, 0] } i)
  case atStart => exact ⟨0, rfl, rfl⟩
  case round =>
    obtain ⟨i, hig, rfl⟩ := hrel
    match gk, hig with
    | 0, hig =>
      obtain rfl : i = 2 := by omega
      have hnx := run_next_end (P := Tryz.prog) w { data := #[47, 0] } 2
      have hnx := fun ty => hnx ty (by decide)
      go_wp2_with fail
      go_ret
      exact ⟨rfl, (Below.refl _ _).alloc (Nat.le_refl _) _⟩
    | 1, hig =>
      obtain rfl : i = 1 := by omega
      have hnx := fun ty => run_next_ascii (P := Tryz.prog) w { data := #[47, 0] } 1 ty (by decide) (by decide)
      go_wp2_with fail
      go_roundg 0
      case measure => omega
      case rel => exact ⟨2, rfl, rfl⟩
    | 2, hig =>
      obtain rfl : i = 0 := by omega
      have hnx := fun ty => run_next_ascii (P := Tryz.prog) w { data := #[47, 0] } 0 ty (by decide) (by decide)
      go_wp2_with fail
      go_roundg 1
      case measure => omega
      case rel => exact ⟨1, rfl, rfl⟩

theorem conv_at (r : Int) (s : ByteArray) (he : Utf8.encode r = s) (w : World) : (convert 21 9 (.int .i32 r)).run Tryz.prog w = .ok (.string s) w := by
  rw [run_convert_int_string w 21 9 .i32 r (by rw [Tryz.underlying21]; rfl) Tryz.underlying9, he]
theorem index_two (w : World) (x y : UInt8) : (Instr.index 9 (.string { data := #[x, y] }) (.int .i64 1)).run Tryz.prog w = .ok (.int .u8 y.toNat) w := by
  rw [run_index_string w 9 _ .i64 1 Tryz.underlying9]
  rfl
theorem index_bar (w : World) : (Instr.index 9 (.string { data := #[47, 0] }) (.int .i64 1)).run Tryz.prog w = .ok (.int .u8 0) w := by
  rw [run_index_string w 9 _ .i64 1 Tryz.underlying9]
  rfl
theorem byte_nil (c : Int) (w : World) : Calls Tryz.prog 108 #[.string { data := #[] }, .int .u8 c] w fun e w' => e = .returned (.int .i64 (-1)) ∧ w' = w := index_byte _ c w
set_option maxRecDepth 100000 in
set_option maxHeartbeats 1600000 in
theorem rune_high (r : Int) (w : World) (h : 128 ≤ r) (hne : ¬ r = 65533) : Calls Tryz.prog 104 #[.string { data := #[47, 0] }, .int .i32 r] w (RunePost w) := by
  have t0 : decide (0 ≤ r) = true := decide_eq_true (by omega)
  have t1 : decide (r < 128) = false := decide_eq_false (by omega)
  have t2 : (r == 65533) = false := beq_eq_false_iff_ne.2 hne
  have HE := Lib.hid (encode_form r h)
  clear h hne
  go_enter Tryz.func104, Tryz.ntmps104
  go_wp2_with fail
  refine (valid_any _ _).mono ?_
  rintro e w1 ⟨b, rfl, hb⟩
  cases b
  · go_wp2_with fail
    go_ret
    exact ⟨rfl, hb⟩
  · obtain ⟨x, y, he, hy⟩ | ⟨x, y, z, he⟩ | ⟨x, y, z, t, he⟩ := HE.out
    · have hcv := conv_at r _ he
      have hne : (((0 : Int)) != (y.toNat : Int)) = true := by rw [bne_iff_ne]; omega
      have hi1 := fun w => index_two w x y
      have hi2 := index_bar
      have hz : ((⟨#[x, y]⟩ : ByteArray).size : Int) = 2 := rfl
      clear he HE hy
      go_wp2_with fail
      go_step3
      go_wp2_with fail
      go_loopw [9] (fun i wr => i = .int .i64 1 ∧ Hid (Below w.heap.size w wr)) (fun _ _ => 0)
      case atStart => exact ⟨rfl, hb⟩
      case round =>
        obtain ⟨rfl, hb2⟩ := hrel
        go_wp2_with fail
        go_step3
        have hsl : ∀ w, (Instr.slice 9 (.string { data := #[47, 0] }) (some (.int .i64 2)) none none).run Tryz.prog w = .ok (.string { data := #[] }) w := fun w => by kernel_rfl
        go_wp2_with (go_quiet (fail))
        have hS : Hid (Below w.heap.size w (wr.drewN nq)) := hb2.out.trans (((Still.refl wr).drewN nq).below _)
        have hw2 : IntKind.i64.wrap 2 = 2 := rfl
        clear hne hi2 hz hcv
        go_region_held3 (fun w' => Hid (Below w.heap.size w w')) (first | assumption | exact hS.out.drew) (first | (go_at_call 108; refine (byte_nil _ _).mono ?_; rintro e w4 ⟨rfl, rfl⟩))
        go_wp2_with fail
        rw [Exit.noGoto_ret]
        go_ret
        exact ⟨rfl, by assumption⟩
    · have hcv := conv_at r _ he
      have hz : ((⟨#[x, y, z]⟩ : ByteArray).size : Int) = 3 := rfl
      clear he HE
      go_wp2_with fail
      go_step3
      go_wp2_with fail
      go_loopw [9] (fun i wr => i = .int .i64 2 ∧ Hid (Below w.heap.size w wr)) (fun _ _ => 0)
      case atStart => exact ⟨rfl, hb⟩
      case round =>
        obtain ⟨rfl, hb2⟩ := hrel
        go_wp2_with fail
        rw [Exit.noGoto_ret]
        go_ret
        exact ⟨rfl, hb2⟩
    · have hcv := conv_at r _ he
      have hz : ((⟨#[x, y, z, t]⟩ : ByteArray).size : Int) = 4 := rfl
      clear he HE
      go_wp2_with fail
      go_step3
      go_wp2_with fail
      go_loopw [9] (fun i wr => i = .int .i64 3 ∧ Hid (Below w.heap.size w wr)) (fun _ _ => 0)
      case atStart => exact ⟨rfl, hb⟩
      case round =>
        obtain ⟨rfl, hb2⟩ := hrel
        go_wp2_with fail
        rw [Exit.noGoto_ret]
        go_ret
        exact ⟨rfl, hb2⟩
end Go.Proofs.YtcdhkeahcliefaaGreatDoor.Rune
/- Plain facts on bytes, bars and runes. -/
namespace Go.Proofs.YtcdhkeahcliefaaGreatDoor.Bars
set_option linter.unusedVariables false
def isBar (b : UInt8) : Bool := b == 47 || b == 0
def hasBar (s : ByteArray) : Bool := s.data.toList.any isBar
theorem high_not_bar (b : UInt8) (h : 128 ≤ b.toNat) : isBar b = false := by
  unfold isBar
  have h1 : b ≠ 47 := fun e => by subst e; revert h; decide
  have h2 : b ≠ 0 := fun e => by subst e; revert h; decide
  simp [h1, h2]
theorem contains_bars (b : UInt8) : ([47, 0] : List UInt8).contains b = isBar b := by
  unfold isBar
  simp [List.contains, List.elem]
  cases h : b == 47 <;> cases h2 : b == 0 <;> simp_all
theorem index_bars : ∀ l : List UInt8, decide (0 ≤ Lib.indexAny l [47, 0]) = l.any isBar
  | [] => rfl
  | b :: l => by
    have ih := index_bars l
    unfold Lib.indexAny
    rw [contains_bars, List.any_cons, ← ih]
    have hge := Lib.indexAny_ge [47, 0] l
    cases isBar b
    · rw [if_neg (by decide), Bool.false_or]
      by_cases h : Lib.indexAny l [47, 0] = -1
      · rw [h]
        rfl
      · rw [if_neg (by simpa using h)]
        exact decide_eq_decide.2 (by omega)
    · rfl
theorem get_at (s : ByteArray) (k : Nat) (h : k < s.size) : s.get! k = s[k]'h := by
  have := Go.get_at s k h
  simpa using this
theorem decode_span (s : ByteArray) (pos : Nat) (h : pos < s.size) (ha : 128 ≤ (s[pos]'h).toNat) :
    pos + (Utf8.decode s pos).2 ≤ s.size ∧ ∀ k, k < (Utf8.decode s pos).2 → 128 ≤ (s.get! (pos + k)).toNat := by
  have hn : ¬ (s[pos]'h).toNat < 128 := by omega
  have h0 : (s.get! (pos + 0)).toNat = (s[pos]'h).toNat := by rw [Go.get_at s pos h]
  have key : ∀ n, (∀ k, k < n → k = 0 ∨ (pos + k < s.size ∧ (s.get! (pos + k)).toNat / 64 = 2)) → 1 ≤ n → pos + n ≤ s.size ∧ ∀ k, k < n → 128 ≤ (s.get! (pos + k)).toNat := by
    intro n hk hn1
    refine ⟨?_, fun k hkn => ?_⟩
    · rcases hk (n - 1) (by omega) with h | ⟨h, _⟩
      · omega
      · omega
    · rcases hk k hkn with rfl | ⟨_, h⟩
      · omega
      · omega
  have h1 := key 1 (fun k hk => .inl (by omega)) (by omega)
  simp only [Utf8.decode, Go.get_at s pos h, hn, if_false]
  split
  · rename_i hc
    simp only [Bool.and_eq_true, beq_iff_eq, decide_eq_true_eq] at hc
    split
    · exact key 2 (fun k hk => by match k, hk with | 0, _ => exact .inl rfl | 1, _ => exact .inr ⟨hc.2.1, hc.2.2⟩) (by omega)
    · exact h1
  · split
    · rename_i hc
      simp only [Bool.and_eq_true, beq_iff_eq, decide_eq_true_eq] at hc
      split
      · exact key 3 (fun k hk => by match k, hk with | 0, _ => exact .inl rfl | 1, _ => exact .inr ⟨hc.1.2.1, hc.1.2.2⟩ | 2, _ => exact .inr ⟨hc.2.1, hc.2.2⟩) (by omega)
      · exact h1
    · split
      · rename_i hc
        simp only [Bool.and_eq_true, beq_iff_eq, decide_eq_true_eq] at hc
        split
        · exact key 4 (fun k hk => by match k, hk with | 0, _ => exact .inl rfl | 1, _ => exact .inr ⟨hc.1.1.2.1, hc.1.1.2.2⟩ | 2, _ => exact .inr ⟨hc.1.2.1, hc.1.2.2⟩ | 3, _ => exact .inr ⟨hc.2.1, hc.2.2⟩) (by omega)
        · exact h1
      · exact h1
/-- none of the first i bytes is a bar -/
def NoBar (s : ByteArray) (i : Nat) : Prop := ∀ j, j < i → ∀ h : j < s.size, isBar (s[j]'h) = false
theorem NoBar.all {s : ByteArray} (h : NoBar s s.size) : hasBar s = false := by
  unfold hasBar
  rw [List.any_eq_false]
  intro b hb
  obtain ⟨j, hj, rfl⟩ := List.getElem_of_mem hb
  have := h j (by simpa using hj) (by simpa using hj)
  simpa [ByteArray.getElem_eq_getElem_data] using this
theorem hasBar_at {s : ByteArray} {j : Nat} (h : j < s.size) (hb : isBar (s[j]'h) = true) : hasBar s = true := by
  unfold hasBar
  rw [List.any_eq_true]
  exact ⟨s[j], by rw [ByteArray.getElem_eq_getElem_data]; simp, hb⟩
end Go.Proofs.YtcdhkeahcliefaaGreatDoor.Bars
/- strings.ContainsAny(s, "/\x00") says whether a byte of s is a bar or zero, at every text of at most 54 bytes. -/
namespace Go.Proofs.YtcdhkeahcliefaaGreatDoor.Any
open Go.ChangeShapes Go.WideShapes Go.ChangeAt Go.RowKit
open Go.Proofs.YtcdhkeahcliefaaGreatDoor.Kit Go.Proofs.YtcdhkeahcliefaaGreatDoor.Laid Go.Proofs.YtcdhkeahcliefaaGreatDoor.Rune Go.Proofs.YtcdhkeahcliefaaGreatDoor.Bars
set_option linter.unusedVariables false

def AnyPost (s : ByteArray) (w : World) (e : Ending) (w' : World) : Prop :=
  ∃ v : Int, e = .returned (.int .i64 v) ∧ decide (0 ≤ v) = hasBar s ∧ Hid (Below w.heap.size w w')
theorem any_long (s : ByteArray) (w : World) (h8 : 8 < s.size) (hs : s.size ≤ 54) :
    Calls Tryz.prog 103 #[.string s, .string { data := #[47, 0] }] w (AnyPost s w) := by
  refine (Laid.any_long s { data := #[47, 0] } w (by decide) h8 (by omega) (by decide) ?_).mono ?_
  · intro j b hb
    match j, hb with
    | 0, hb => simp at hb; subst hb; decide
    | 1, hb => simp at hb; subst hb; decide
    | k + 2, hb => simp at hb
  · rintro e w' ⟨rfl, hb⟩
    exact ⟨_, rfl, index_bars _, hb⟩
theorem rune_any (r : Int) (w : World) (h : 128 ≤ r) : Calls Tryz.prog 104 #[.string { data := #[47, 0] }, .int .i32 r] w (RunePost w) := by
  by_cases hr : r = 65533
  · subst hr; exact rune_err w
  · exact rune_high r w h hr
theorem rune_bar (b : UInt8) (w : World) (h : b.toNat < 128) : Calls Tryz.prog 104 #[.string { data := #[47, 0] }, .int .i32 b.toNat] w fun e w' => ∃ v : Int, e = .returned (.int .i64 v) ∧ decide (0 ≤ v) = isBar b ∧ w' = w := by
  refine (rune_low { data := #[47, 0] } b.toNat w (by omega) (by omega)).mono ?_
  rintro e w' ⟨rfl, rfl⟩
  refine ⟨_, rfl, ?_, rfl⟩
  have := Lib.contains_iff_indexByte [47, 0] b
  rw [contains_bars] at this
  rw [this]
  simp
def At (s : ByteArray) (w : World) (K i : Nat) (wx : World) : Prop := NoBar s i ∧ wx.heap[K]? = some (.stringIter s i) ∧ w.heap.size ≤ K ∧ Below w.heap.size w wx
theorem At.end_ {s : ByteArray} {w wx : World} {K : Nat} (h : At s w K s.size wx) : hasBar s = false := h.1.all
theorem At.next {s : ByteArray} {w wx : World} {K i j : Nat} (h : At s w K i wx) (hn : NoBar s j) : At s w K j (wx.iterAt K s j) := by
  refine ⟨hn, Lib.iterAt_heap wx K s i j h.2.1, h.2.2.1, ?_⟩
  have hb := h.2.2.2
  exact hb.trans ⟨rfl, rfl, rfl, by simp [World.iterAt], fun k hk => by simp [World.iterAt]; rw [Array.getElem?_setIfInBounds_ne (by have := h.2.2.1; omega)]⟩
theorem At.moved {s : ByteArray} {w wx : World} {K i : Nat} (h : At s w K i wx) (j : Nat) : Below w.heap.size w (wx.iterAt K s j) :=
  h.2.2.2.trans ⟨rfl, rfl, rfl, by simp [World.iterAt], fun k hk => by simp [World.iterAt]; rw [Array.getElem?_setIfInBounds_ne (by have := h.2.2.1; omega)]⟩
theorem At.below {s : ByteArray} {w wx wy : World} {K i : Nat} (h : At s w K i wx) (hb : Below wx.heap.size wx wy) : At s w K i wy :=
  ⟨h.1, by rw [hb.block K (Array.getElem?_eq_some_iff.1 h.2.1).1]; exact h.2.1, h.2.2.1, h.2.2.2.trans (hb.mono h.2.2.2.size)⟩

set_option maxRecDepth 100000 in
set_option maxHeartbeats 1600000 in
theorem any_short (s : ByteArray) (w : World) (h8 : s.size ≤ 8) :
    Calls Tryz.prog 103 #[.string s, .string { data := #[47, 0] }] w (AnyPost s w) := by
  have h8z : decide ((8 : Int) < (s.size : Int)) = false := decide_eq_false (by omega)
  go_enter Tryz.func103, Tryz.ntmps103
  go_wp2_with fail
  refine (should _ _).mono ?_
  rw [h8z]
  rintro e w1 ⟨rfl, hw⟩
  rw [hw]
  clear hw w1
  go_wp2_with fail
  obtain ⟨K, hK⟩ : ∃ K, w.heap.size = K := ⟨_, rfl⟩
  refine gen_world (fun wx => Hid (At s w K 0 wx)) ?_ ?_
  · subst hK
    exact ⟨fun j hj => by omega, World.iter_heap w s 0, Nat.le_refl _, (Below.refl _ _).alloc (Nat.le_refl _) _⟩
  rw [hK]
  clear hK
  rintro wi hi
  go_loopg [9, 10] s.size (fun g _ _ wx => ∃ i : Nat, i + g = s.size ∧ Hid (At s w K i wx))
  case atStart => exact ⟨0, by omega, hi⟩
  case round =>
    clear hi
    obtain ⟨i, hig, hi⟩ := hrel
    cases gk with
    | zero =>
      obtain rfl : i = s.size := by omega
      have hnx := fun ty => Lib.run_next_end_at (P := Tryz.prog) _ K s s.size ty hi.out.2.1 (by omega)
      go_wp2_with fail
      go_ret
      exact ⟨_, rfl, by rw [hi.out.end_]; rfl, hi.out.2.2.2⟩
    | succ g =>
      have hlt : i < s.size := by omega
      by_cases hlow : (s[i]'hlt).toNat < 128
      · have hnx := fun ty => Lib.run_next_ascii_at (P := Tryz.prog) _ K s i ty hi.out.2.1 hlt hlow
        obtain ⟨b, hb⟩ : ∃ b, s[i]'hlt = b := ⟨_, rfl⟩
        rw [hb] at hlow hnx
        have HB := Lib.hid hb
        clear hb
        go_wp2_with fail
        refine (rune_bar b _ hlow).mono ?_
        rintro e w2 ⟨v, rfl, hv, rfl⟩
        cases hbar : isBar b
        · rw [hbar] at hv
          have hnob : NoBar s (i + 1) := fun j hj hjs => by
            by_cases e : j = i
            · subst e; rw [HB.out]; exact hbar
            · exact hi.out.1 j (by omega) hjs
          have HN := Lib.hid hnob
          clear hnob
          go_wp2_with fail
          go_roundg g
          case measure => omega
          case rel => exact ⟨i + 1, by omega, hi.out.next HN.out⟩
        · rw [hbar] at hv
          have HH := Lib.hid (hasBar_at hlt (by rw [HB.out]; exact hbar))
          go_wp2_with fail
          go_ret
          exact ⟨_, rfl, by rw [HH.out]; exact decide_eq_true (by omega), hi.out.moved _⟩
      · have hhigh : 128 ≤ (s[i]'hlt).toNat := by omega
        have hnx := fun ty => Lib.run_next_any_at (P := Tryz.prog) _ K s i ty hi.out.2.1 hlt
        have hd := decode_high s i hlt hhigh
        have hsp := decode_span s i hlt hhigh
        obtain ⟨r, hr⟩ : ∃ r, (Utf8.decode s i).1 = r := ⟨_, rfl⟩
        obtain ⟨q, hq⟩ : ∃ q, (Utf8.decode s i).2 = q := ⟨_, rfl⟩
        rw [hr, hq] at hnx hd
        rw [hq] at hsp
        have hnob : NoBar s (i + q) := fun j hj hjs => by
          by_cases e : j < i
          · exact hi.out.1 j e hjs
          · have h := hsp.2 (j - i) (by omega)
            rw [show i + (j - i) = j by omega, Bars.get_at s j hjs] at h
            exact high_not_bar _ h
        have HN := Lib.hid hnob
        have HS := Lib.hid hsp.1
        have HD := Lib.hid hd
        clear hnob hsp hd hr hq hlow hhigh
        go_wp2_with fail
        refine (rune_any r _ (by have := HD.out.1; omega)).mono ?_
        rintro e w2 ⟨rfl, hb2⟩
        go_wp2_with fail
        have hs1 := HS.out
        have hd1 := HD.out.2
        go_roundg (s.size - (i + q))
        case measure => omega
        case rel => exact ⟨i + q, by omega, (hi.out.next HN.out).below hb2.out⟩
theorem any_any (s : ByteArray) (w : World) (hs : s.size ≤ 54) : Calls Tryz.prog 103 #[.string s, .string { data := #[47, 0] }] w (AnyPost s w) := by
  by_cases h : s.size ≤ 8
  · exact any_short s w h
  · exact any_long s w (by omega) hs
def HasPost (s : ByteArray) (w : World) (e : Ending) (w' : World) : Prop := e = .returned (.bool (hasBar s)) ∧ Hid (Below w.heap.size w w')
theorem contains_any (s : ByteArray) (w : World) (hs : s.size ≤ 54) : Calls Tryz.prog 102 #[.string s, .string { data := #[47, 0] }] w (HasPost s w) := by
  go_enter Tryz.func102, Tryz.ntmps102
  go_wp2_with fail
  refine (any_any s w hs).mono ?_
  rintro e w' ⟨v, rfl, hv, hb⟩
  have HV := Lib.hid hv
  clear hv
  go_wp2_with fail
  go_ret
  exact ⟨by rw [← HV.out]; rfl, hb⟩
end Go.Proofs.YtcdhkeahcliefaaGreatDoor.Any
/- Name and the document's Name: the same error for every text. -/
namespace Go.Proofs.YtcdhkeahcliefaaGreatDoor.Name
open Go.ChangeShapes Go.WideShapes Go.ChangeAt Go.RowKit
open Go.Proofs.YtcdhkeahcliefaaGreatDoor.Kit Go.Proofs.YtcdhkeahcliefaaGreatDoor.Bars Go.Proofs.YtcdhkeahcliefaaGreatDoor.Any
set_option linter.unusedVariables false

def nameErr (s : ByteArray) : Int := if 54 < s.size then 7 else if s = ⟨#[]⟩ ∨ s = ⟨#[46]⟩ ∨ s = ⟨#[46, 46]⟩ ∨ hasBar s = true then 21 else 0
def NamePost (s : ByteArray) (w : World) (e : Ending) (w' : World) : Prop := e = .returned (.int .i64 (nameErr s)) ∧ Hid (Below w.heap.size w w')
theorem err_long {s : ByteArray} (h : 54 < s.size) : nameErr s = 7 := if_pos h
theorem err_name {s : ByteArray} (h : ¬ 54 < s.size) (hs : s = ⟨#[]⟩ ∨ s = ⟨#[46]⟩ ∨ s = ⟨#[46, 46]⟩ ∨ hasBar s = true) : nameErr s = 21 := by
  unfold nameErr; rw [if_neg h, if_pos hs]
theorem err_no {s : ByteArray} (h : ¬ 54 < s.size) (hs : ¬ (s = ⟨#[]⟩ ∨ s = ⟨#[46]⟩ ∨ s = ⟨#[46, 46]⟩ ∨ hasBar s = true)) : nameErr s = 0 := by
  unfold nameErr; rw [if_neg h, if_neg hs]

theorem list_ne {s : ByteArray} {a : Array UInt8} (h : ¬ s = ⟨a⟩) : ¬ s.toList = a.toList := fun e => h (by
  rw [Lib.toList_data] at e
  cases s with
  | mk d => exact congrArg _ (Array.toList_inj.1 e))
theorem facts {s : ByteArray} (h0 : ¬ s = ⟨#[]⟩) (h1 : ¬ s = ⟨#[46]⟩) (h2 : ¬ s = ⟨#[46, 46]⟩) :
    s.toList.isEmpty = false ∧ (s.toList == [46]) = false ∧ (s.toList == [46, 46]) = false := by
  have e0 := list_ne h0
  have e1 := list_ne h1
  have e2 := list_ne h2
  refine ⟨?_, beq_eq_false_iff_ne.2 e1, beq_eq_false_iff_ne.2 e2⟩
  cases h : s.toList with
  | nil => exact absurd h e0
  | cons => rfl
set_option maxRecDepth 100000 in
set_option maxHeartbeats 800000 in
theorem name_any (s : ByteArray) (w : World) : Calls Tryz.prog 101 #[.string s] w (NamePost s w) := by
  by_cases h : 54 < s.size
  · have HE := Lib.hid (err_long h)
    go_enter Tryz.func101, Tryz.ntmps101
    go_wp2_with fail
    go_ret
    exact ⟨by rw [HE.out]; rfl, Below.refl _ _⟩
  by_cases h0 : s = ⟨#[]⟩
  · subst h0
    go_enter Tryz.func101, Tryz.ntmps101
    go_wp2_with fail
    go_ret
    exact ⟨rfl, Below.refl _ _⟩
  by_cases h1 : s = ⟨#[46]⟩
  · subst h1
    go_enter Tryz.func101, Tryz.ntmps101
    go_wp2_with fail
    go_ret
    exact ⟨rfl, Below.refl _ _⟩
  by_cases h2 : s = ⟨#[46, 46]⟩
  · subst h2
    go_enter Tryz.func101, Tryz.ntmps101
    go_wp2_with fail
    go_ret
    exact ⟨rfl, Below.refl _ _⟩
  obtain ⟨e0, e1, e2⟩ := facts h0 h1 h2
  have e54 : decide ((54 : Int) < (s.size : Int)) = false := decide_eq_false (by omega)
  have HN := Lib.hid h
  have H3 := Lib.hid (And.intro h0 (And.intro h1 h2))
  have h54 : s.size ≤ 54 := by omega
  clear h h0 h1 h2
  go_enter Tryz.func101, Tryz.ntmps101
  go_wp2_with fail
  refine (contains_any s _ h54).mono ?_
  rintro e w' ⟨rfl, hb⟩
  cases hbar : hasBar s
  · have HE := Lib.hid (err_no HN.out (fun h => by
      rcases h with h | h | h | h
      · exact H3.out.1 h
      · exact H3.out.2.1 h
      · exact H3.out.2.2 h
      · rw [hbar] at h; cases h))
    clear hbar
    go_wp2_with fail
    go_ret
    exact ⟨by rw [HE.out]; rfl, hb⟩
  · have HE := Lib.hid (err_name HN.out (.inr (.inr (.inr hbar))))
    clear hbar
    go_wp2_with fail
    go_ret
    exact ⟨by rw [HE.out]; rfl, hb⟩

set_option maxRecDepth 100000 in
set_option maxHeartbeats 800000 in
theorem ref_any (s : ByteArray) (w : World) : Calls Tryz.prog 86 #[.string s] w (NamePost s w) := by
  by_cases h : 54 < s.size
  · have HE := Lib.hid (err_long h)
    go_enter Tryz.func86, Tryz.ntmps86
    go_wp2_with fail
    go_ret
    exact ⟨by rw [HE.out]; rfl, Below.refl _ _⟩
  by_cases h0 : s = ⟨#[]⟩
  · subst h0
    go_enter Tryz.func86, Tryz.ntmps86
    go_wp2_with fail
    go_ret
    exact ⟨rfl, Below.refl _ _⟩
  by_cases h1 : s = ⟨#[46]⟩
  · subst h1
    go_enter Tryz.func86, Tryz.ntmps86
    go_wp2_with fail
    go_ret
    exact ⟨rfl, Below.refl _ _⟩
  by_cases h2 : s = ⟨#[46, 46]⟩
  · subst h2
    go_enter Tryz.func86, Tryz.ntmps86
    go_wp2_with fail
    go_ret
    exact ⟨rfl, Below.refl _ _⟩
  obtain ⟨e0, e1, e2⟩ := facts h0 h1 h2
  have e54 : decide ((54 : Int) < (s.size : Int)) = false := decide_eq_false (by omega)
  have HN := Lib.hid h
  have H3 := Lib.hid (And.intro h0 (And.intro h1 h2))
  have h54 : s.size ≤ 54 := by omega
  clear h h0 h1 h2
  go_enter Tryz.func86, Tryz.ntmps86
  go_wp2_with fail
  go_loopw [3] (fun i wr => ∃ (k : Nat), i = .int .i64 k ∧ k ≤ s.size ∧ Hid (NoBar s k) ∧ Hid (Below w.heap.size w wr)) (fun i _ => s.size - (intOf i).toNat)
  case atStart => exact ⟨0, rfl, Nat.zero_le _, fun j hj => absurd hj (Nat.not_lt_zero j), Below.refl _ _⟩
  case round =>
    obtain ⟨k, rfl, hk, hno, hb⟩ := hrel
    by_cases hlt : k < s.size
    · obtain ⟨b, hbk⟩ : ∃ b, s[k]'hlt = b := ⟨_, rfl⟩
      have hidx : ∀ w, (Instr.index 9 (.string s) (.int .i64 k)).run Tryz.prog w = .ok (.int .u8 b.toNat) w := fun w => by
        rw [run_index_string w 9 s .i64 k Tryz.underlying9, dif_pos ⟨by omega, by omega⟩]
        simp [hbk]
      have HBK := Lib.hid hbk
      clear hbk
      by_cases b1 : b = 47
      · subst b1
        have HE := Lib.hid (err_name HN.out (.inr (.inr (.inr (hasBar_at hlt (by rw [HBK.out]; decide))))))
        go_wp2_with fail
        go_ret
        exact ⟨by rw [HE.out]; rfl, hb⟩
      by_cases b2 : b = 0
      · subst b2
        have HE := Lib.hid (err_name HN.out (.inr (.inr (.inr (hasBar_at hlt (by rw [HBK.out]; decide))))))
        go_wp2_with fail
        go_ret
        exact ⟨by rw [HE.out]; rfl, hb⟩
      have t1 : ((b.toNat : Int) == 47) = false := beq_eq_false_iff_ne.2 (fun e => b1 (by apply UInt8.toNat_inj.1; show b.toNat = 47; omega))
      have t2 : ((b.toNat : Int) == 0) = false := beq_eq_false_iff_ne.2 (fun e => b2 (by apply UInt8.toNat_inj.1; show b.toNat = 0; omega))
      have hnb : isBar b = false := by unfold isBar; simp [b1, b2]
      have hnob : NoBar s (k + 1) := fun j hj hjs => by
        by_cases e : j = k
        · subst e; rw [HBK.out]; exact hnb
        · exact hno.out j (by omega) hjs
      have HNO := Lib.hid hnob
      clear hnob hnb b1 b2
      go_wp2_with fail
      exact ⟨⟨k + 1, by go_num, by omega, HNO, hb⟩, by simp [intOf]; omega⟩
    · obtain rfl : k = s.size := by omega
      have hbar := NoBar.all hno.out
      have HE := Lib.hid (err_no HN.out (fun h => by
        rcases h with h | h | h | h
        · exact H3.out.1 h
        · exact H3.out.2.1 h
        · exact H3.out.2.2 h
        · rw [hbar] at h; cases h))
      clear hbar
      go_wp2_with fail
      go_ret
      exact ⟨by rw [HE.out]; rfl, hb⟩
end Go.Proofs.YtcdhkeahcliefaaGreatDoor.Name
