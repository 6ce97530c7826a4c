/- strings.IndexRune("/\x00", r) at a rune beyond ASCII: -1. -/
import Derived.Test.YtefmihbjboacdaaLaid
import Derived.Test.YtefmihbjboacdaaKit
import Derived.Laws.RangeAny
import Derived.Laws.Runes
import Derived.WalkMore
import Derived.Deep.RegionHeld3
import Derived.Lib.Hide
namespace Go.Proofs.Ytefmihbjboacdaa.Rune
open Go.ChangeShapes Go.WideShapes Go.ChangeAt Go.RowKit
open Go.Proofs.Ytefmihbjboacdaa.Kit Go.Proofs.Ytefmihbjboacdaa.Laid
set_option linter.unusedVariables false

def bars : ByteArray := ⟨#[47, 0]⟩
theorem encode_form (r : Int) (h : 128 ≤ r) : (∃ x y : UInt8, Utf8.encode r = ⟨#[x, y]⟩ ∧ 128 ≤ y.toNat) ∨ (∃ x y z : UInt8, Utf8.encode r = ⟨#[x, y, z]⟩) ∨ (∃ x y z t : UInt8, Utf8.encode r = ⟨#[x, y, z, t]⟩) := by
  unfold Utf8.encode
  dsimp only
  generalize hc : (if Utf8.valid r then r.toNat else Utf8.runeError) = c
  have hc2 : 128 ≤ c := by
    rw [← hc]
    split
    · omega
    · decide
  rw [if_neg (by omega)]
  split
  · left
    refine ⟨_, _, rfl, ?_⟩
    rw [UInt8.toNat_ofNat']
    omega
  · right
    split
    · exact .inl ⟨_, _, _, rfl⟩
    · exact .inr ⟨_, _, _, _, rfl⟩

def ValidPost (w : World) (e : Ending) (w' : World) : Prop := ∃ b, e = .returned (.bool b) ∧ Hid (Below w.heap.size w w')
set_option maxHeartbeats 800000 in
theorem valid_any (r : Int) (w : World) : Calls Try.prog 74 #[.int .i32 r] w (ValidPost w) := by
  by_cases h0 : 0 ≤ r
  · by_cases h1 : r < 55296
    · go_enter Try.func74, Try.ntmps74
      go_wp2_with fail
      go_ret
      exact ⟨_, rfl, Below.refl _ _⟩
    · by_cases h2 : 57343 < r
      · by_cases h3 : r ≤ 1114111
        · go_enter Try.func74, Try.ntmps74
          go_wp2_with fail
          go_ret
          exact ⟨_, rfl, Below.refl _ _⟩
        · go_enter Try.func74, Try.ntmps74
          go_wp2_with fail
          go_ret
          exact ⟨_, rfl, Below.refl _ _⟩
      · go_enter Try.func74, Try.ntmps74
        go_wp2_with fail
        go_ret
        exact ⟨_, rfl, Below.refl _ _⟩
  · by_cases h2 : 57343 < r
    · omega
    · go_enter Try.func74, Try.ntmps74
      go_wp2_with fail
      go_ret
      exact ⟨_, rfl, Below.refl _ _⟩

def RunePost (w : World) (e : Ending) (w' : World) : Prop := e = .returned (.int .i64 (-1)) ∧ Hid (Below w.heap.size w w')
set_option maxRecDepth 100000 in
set_option maxHeartbeats 1600000 in
theorem rune_err (w : World) : Calls Try.prog 69 #[.string { data := #[47, 0] }, .int .i32 65533] w (RunePost w) := by
  go_enter Try.func69, Try.ntmps69
  go_wp2_with fail
  go_loopg [5, 6] 2 (fun g _ _ wx => ∃ i : Nat, i + g = 2 ∧ wx = w.iter { data := #[47, 0] } i)
  case atStart => exact ⟨0, rfl, rfl⟩
  case round =>
    obtain ⟨i, hig, rfl⟩ := hrel
    match gk, hig with
    | 0, hig =>
      obtain rfl : i = 2 := by omega
      have hnx := run_next_end (P := Try.prog) w { data := #[47, 0] } 2
      have hnx := fun ty => hnx ty (by decide)
      go_wp2_with fail
      go_ret
      exact ⟨rfl, (Below.refl _ _).alloc (Nat.le_refl _) _⟩
    | 1, hig =>
      obtain rfl : i = 1 := by omega
      have hnx := fun ty => run_next_ascii (P := Try.prog) w { data := #[47, 0] } 1 ty (by decide) (by decide)
      go_wp2_with fail
      go_roundg 0
      case measure => omega
      case rel => exact ⟨2, rfl, rfl⟩
    | 2, hig =>
      obtain rfl : i = 0 := by omega
      have hnx := fun ty => run_next_ascii (P := Try.prog) w { data := #[47, 0] } 0 ty (by decide) (by decide)
      go_wp2_with fail
      go_roundg 1
      case measure => omega
      case rel => exact ⟨1, rfl, rfl⟩

theorem conv_at (r : Int) (s : ByteArray) (he : Utf8.encode r = s) (w : World) : (convert 21 9 (.int .i32 r)).run Try.prog w = .ok (.string s) w := by
  rw [run_convert_int_string w 21 9 .i32 r (by rw [Try.underlying21]; rfl) Try.underlying9, he]
theorem index_two (w : World) (x y : UInt8) : (Instr.index 9 (.string { data := #[x, y] }) (.int .i64 1)).run Try.prog w = .ok (.int .u8 y.toNat) w := by
  rw [run_index_string w 9 _ .i64 1 Try.underlying9]
  rfl
theorem index_bar (w : World) : (Instr.index 9 (.string { data := #[47, 0] }) (.int .i64 1)).run Try.prog w = .ok (.int .u8 0) w := by
  rw [run_index_string w 9 _ .i64 1 Try.underlying9]
  rfl
theorem byte_nil (c : Int) (w : World) : Calls Try.prog 73 #[.string { data := #[] }, .int .u8 c] w fun e w' => e = .returned (.int .i64 (-1)) ∧ w' = w := index_byte _ c w
set_option maxRecDepth 100000 in
set_option maxHeartbeats 1600000 in
theorem rune_high (r : Int) (w : World) (h : 128 ≤ r) (hne : ¬ r = 65533) : Calls Try.prog 69 #[.string { data := #[47, 0] }, .int .i32 r] w (RunePost w) := by
  have t0 : decide (0 ≤ r) = true := decide_eq_true (by omega)
  have t1 : decide (r < 128) = false := decide_eq_false (by omega)
  have t2 : (r == 65533) = false := beq_eq_false_iff_ne.2 hne
  have HE := Lib.hid (encode_form r h)
  clear h hne
  go_enter Try.func69, Try.ntmps69
  go_wp2_with fail
  refine (valid_any _ _).mono ?_
  rintro e w1 ⟨b, rfl, hb⟩
  cases b
  · go_wp2_with fail
    go_ret
    exact ⟨rfl, hb⟩
  · obtain ⟨x, y, he, hy⟩ | ⟨x, y, z, he⟩ | ⟨x, y, z, t, he⟩ := HE.out
    · have hcv := conv_at r _ he
      have hne : (((0 : Int)) != (y.toNat : Int)) = true := by rw [bne_iff_ne]; omega
      have hi1 := fun w => index_two w x y
      have hi2 := index_bar
      have hz : ((⟨#[x, y]⟩ : ByteArray).size : Int) = 2 := rfl
      clear he HE hy
      go_wp2_with fail
      go_step3
      go_wp2_with fail
      go_loopw [9] (fun i wr => i = .int .i64 1 ∧ Hid (Below w.heap.size w wr)) (fun _ _ => 0)
      case atStart => exact ⟨rfl, hb⟩
      case round =>
        obtain ⟨rfl, hb2⟩ := hrel
        go_wp2_with fail
        go_step3
        have hsl : ∀ w, (Instr.slice 9 (.string { data := #[47, 0] }) (some (.int .i64 2)) none none).run Try.prog w = .ok (.string { data := #[] }) w := fun w => by kernel_rfl
        go_wp2_with (go_quiet (fail))
        have hS : Hid (Below w.heap.size w (wr.drewN nq)) := hb2.out.trans (((Still.refl wr).drewN nq).below _)
        have hw2 : IntKind.i64.wrap 2 = 2 := rfl
        clear hne hi2 hz hcv
        go_region_held3 (fun w' => Hid (Below w.heap.size w w')) (first | assumption | exact hS.out.drew) (first | (go_at_call 73; refine (byte_nil _ _).mono ?_; rintro e w4 ⟨rfl, rfl⟩))
        go_wp2_with fail
        rw [Exit.noGoto_ret]
        go_ret
        exact ⟨rfl, by assumption⟩
    · have hcv := conv_at r _ he
      have hz : ((⟨#[x, y, z]⟩ : ByteArray).size : Int) = 3 := rfl
      clear he HE
      go_wp2_with fail
      go_step3
      go_wp2_with fail
      go_loopw [9] (fun i wr => i = .int .i64 2 ∧ Hid (Below w.heap.size w wr)) (fun _ _ => 0)
      case atStart => exact ⟨rfl, hb⟩
      case round =>
        obtain ⟨rfl, hb2⟩ := hrel
        go_wp2_with fail
        rw [Exit.noGoto_ret]
        go_ret
        exact ⟨rfl, hb2⟩
    · have hcv := conv_at r _ he
      have hz : ((⟨#[x, y, z, t]⟩ : ByteArray).size : Int) = 4 := rfl
      clear he HE
      go_wp2_with fail
      go_step3
      go_wp2_with fail
      go_loopw [9] (fun i wr => i = .int .i64 3 ∧ Hid (Below w.heap.size w wr)) (fun _ _ => 0)
      case atStart => exact ⟨rfl, hb⟩
      case round =>
        obtain ⟨rfl, hb2⟩ := hrel
        go_wp2_with fail
        rw [Exit.noGoto_ret]
        go_ret
        exact ⟨rfl, hb2⟩
end Go.Proofs.Ytefmihbjboacdaa.Rune
