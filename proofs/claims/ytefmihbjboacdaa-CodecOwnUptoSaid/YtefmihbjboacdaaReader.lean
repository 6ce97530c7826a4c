/- The reader: bytes and numbers taken off a list, from the left. -/
import Derived.Test.YtefmihbjboacdaaEqual
import Derived.Test.YtefmihbjboacdaaLay
import Derived.WalkSpells
import Derived.Deep.CutBlock
import Derived.Deep.Slices
namespace Go.Proofs.Ytefmihbjboacdaa.Reader
open Go.ChangeShapes Go.WideShapes Go.ChangeAt Go.RowKit
open Go.Proofs.Ytefmihbjboacdaa.Kit Go.Proofs.Ytefmihbjboacdaa.Crc Go.Proofs.Ytefmihbjboacdaa.Reads Go.Proofs.Ytefmihbjboacdaa.Copy Go.Proofs.Ytefmihbjboacdaa.Lay
set_option linter.unusedVariables false

/-- a reader in block R over n bytes from A on -/
def Rd (w : World) (R : Nat) (A : Option Addr) (n c place : Nat) : Prop := Blk w R #[.slice A n c, .int .i64 (place : Int)] 81
/-- what a reader gives up with -/
def Broken (e : Ending) : Prop := e = .panicked [{ v := .iface 99 (.agg #[]), recovered := false }]

theorem panics (w : World) : (Instr.panic (.iface 99 (.agg #[]))).run Try.prog w = .halt (.panic (.iface 99 (.agg #[]))) w := by kernel_rfl

set_option maxRecDepth 100000 in
set_option maxHeartbeats 1600000 in
theorem take_no (R : Nat) (A : Option Addr) (n c place k : Nat) (w : World) (hn : n ≤ 140737488351232) (hp : place ≤ n) (hk : n < place + k) (hk9 : k ≤ 1000) (H : Hid (Rd w R A n c place)) :
    Calls Try.prog 48 #[.pointer (some ⟨R, 0, none⟩), .int .i64 k] w fun e w' => Broken e ∧ Still w w' := by
  have c0 : w.cell? ⟨R, 0, none⟩ = some (.slice A n c) := (H.out.cell 0).trans rfl
  have c1 : w.cell? ⟨R, 1, none⟩ = some (.int .i64 (place : Int)) := (H.out.cell 1).trans rfl
  have g0 : decide ((k : Int) < 0) = false := decide_eq_false (by omega)
  have g1 : (n : Int) - (place : Int) < (k : Int) := by omega
  have i0 : (0 : Int) ≤ (n : Int) - (place : Int) := by omega
  have i1 : (n : Int) ≤ 9223372036854775807 := by omega
  have HN := Lib.hid hn
  clear hn hk
  have hpn := panics
  go_enter Try.func48, Try.ntmps48
  go_wp2_with (go_quiet (fail))
  exact ⟨rfl, rfl, (Still.refl w).drewN _⟩

set_option maxRecDepth 100000 in
set_option maxHeartbeats 1600000 in
theorem take_yes (R : Nat) (ad : Addr) (n c place k : Nat) (w : World) (hn : n ≤ 140737488351232) (hc : n ≤ c) (hc9 : c ≤ 9223372036854775807) (hk : place + k ≤ n) (hk0 : 0 < k) (hk9 : k ≤ 1000) (H : Hid (Rd w R (some ad) n c place)) :
    Calls Try.prog 48 #[.pointer (some ⟨R, 0, none⟩), .int .i64 k] w fun e w' => e = .returned (.slice (some (ad.add place)) k k) ∧ Hid (Only R w w' ∧ Rd w' R (some ad) n c (place + k)) := by
  have c0 : w.cell? ⟨R, 0, none⟩ = some (.slice (some ad) n c) := (H.out.cell 0).trans rfl
  have c1 : w.cell? ⟨R, 1, none⟩ = some (.int .i64 (place : Int)) := (H.out.cell 1).trans rfl
  have f1 := H.out.frozen 1
  have g0 : decide ((k : Int) < 0) = false := decide_eq_false (by omega)
  have g1 : decide ((n : Int) - (place : Int) < (k : Int)) = false := decide_eq_false (by omega)
  have i0 : (0 : Int) ≤ (n : Int) - (place : Int) := by omega
  have i1 : (n : Int) ≤ 9223372036854775807 := by omega
  have i2 : (place : Int) + (k : Int) ≤ (c : Int) := by omega
  have i3 : (place : Int) ≤ (place : Int) + (k : Int) := by omega
  have HN := Lib.hid hn
  have HK := Lib.hid hk
  clear hn hk
  go_enter Try.func48, Try.ntmps48
  go_upto_region 3 with (go_quiet (fail))
  go_wp2_with fail
  go_quiet (fail)
  go_wp2_with fail
  have ek : place + k - place = k := by omega
  rw [ek]
  go_ret
  refine ⟨rfl, ?_, ?_⟩
  · exact (((Only.refl R w).drewN _).setCell ⟨R, 1, none⟩ rfl _).drewN _
  · exact H.out.put 1 (.int .i64 ((place : Int) + (k : Int)))

theorem or_step (sub : List UInt8) (k : Nat) (y : UInt8) (hk : k < 8) (hs : k < sub.length) (h8 : sub.length ≤ 8) (hy : y = sub[k]) :
    bits .or .u64 ((leVal (sub.take k) : Nat) : Int) (IntKind.u64.wrap (v8 y * 2 ^ (8 * k))) = ((leVal (sub.take (k + 1)) : Nat) : Int) := by
  have e2 : leVal (sub.take (k + 1)) = 256 ^ k * y.toNat + leVal (sub.take k) := by
    rw [List.take_succ_eq_append_getElem hs, leVal_append, List.length_take, Nat.min_eq_left (by omega), ← hy]
    simp [leVal]
    omega
  have h1 : leVal (sub.take k) < 256 ^ k := by
    have := leVal_lt (sub.take k)
    rwa [List.length_take, Nat.min_eq_left (by omega)] at this
  have hp : (256 : Nat) ^ k = 2 ^ (8 * k) := by rw [show (256 : Nat) = 2 ^ 8 from rfl, ← Nat.pow_mul]
  have h3 : 256 ^ k * y.toNat < 2 ^ 64 := by
    have h4 := y.toNat_lt
    have h5 : (256 : Nat) ^ k ≤ 256 ^ 7 := Nat.pow_le_pow_right (by decide) (by omega)
    calc 256 ^ k * y.toNat ≤ 256 ^ 7 * y.toNat := Nat.mul_le_mul_right _ h5
      _ < 256 ^ 7 * 256 := by omega
      _ = 2 ^ 64 := by decide
  have e1 : IntKind.u64.wrap (v8 y * 2 ^ (8 * k)) = ((256 ^ k * y.toNat : Nat) : Int) := by
    have e : v8 y * (2 : Int) ^ (8 * k) = ((256 ^ k * y.toNat : Nat) : Int) := by
      unfold v8
      rw [hp]
      simp [Int.mul_comm, Nat.mul_comm]
    rw [e]
    generalize 256 ^ k * y.toNat = g at h3
    simp [IntKind.wrap, IntKind.bits, IntKind.signed]
    omega
  rw [e1]
  have h6 : leVal (sub.take k) < 2 ^ 64 := by
    have h5 : (256 : Nat) ^ k ≤ 256 ^ 7 := Nat.pow_le_pow_right (by decide) (by omega)
    omega
  rw [(bits_nat .u64 64 (by decide) (fun n h₀ h₁ => by simp [IntKind.wrap, IntKind.bits, IntKind.signed]; omega) _ _ h6 h3).2, e2]
  congr 1
  rw [Nat.or_comm, hp]
  exact (Nat.two_pow_add_eq_or_of_lt (by rw [← hp]; exact h1) _).symm

theorem bytes_sub {w w1 : World} {ad : Addr} {l : List UInt8} {R : Nat} (h : Bytes w (some ad) l) (place n : Nat) (ho : Only R w w1) (hne : 0 < l.length → ad.block ≠ R) : Bytes w1 (some (ad.add place)) ((l.drop place).take n) := fun i hi => by
  rw [List.length_take, List.length_drop] at hi
  obtain ⟨ad', e, hc⟩ := h (place + i) (by omega)
  obtain rfl := Option.some.inj e
  refine ⟨_, rfl, ?_⟩
  have hb : (ad.add (place + i)).block = ad.block := by unfold Addr.add; split <;> rfl
  rw [Go.Deep.add_add, World.cell?_of_block (w := w) (ho.block _ (by rw [hb]; exact hne (by omega))), hc]
  simp

/-- what 'number' does: the number, if there is room and it is not above most; else it gives up -/
def NumPost (w : World) (R : Nat) (A : Option Addr) (l : List UInt8) (c place n most : Nat) (e : Ending) (w' : World) : Prop :=
  (place + n ≤ l.length ∧ leVal ((l.drop place).take n) ≤ most ∧ e = .returned (.int .i64 (leVal ((l.drop place).take n) : Nat)) ∧ Hid (Only R w w' ∧ Rd w' R A l.length c (place + n))) ∨
  (¬ (place + n ≤ l.length ∧ leVal ((l.drop place).take n) ≤ most) ∧ Broken e ∧ Hid (Only R w w'))

set_option maxRecDepth 100000 in
set_option maxHeartbeats 3200000 in
theorem number_any (R : Nat) (A : Option Addr) (c place n : Nat) (most : Nat) (l : List UInt8) (w : World) (hl : l.length ≤ 140737488351232) (hc : l.length ≤ c) (hc9 : c ≤ 9223372036854775807) (hp : place ≤ l.length) (hn0 : 0 < n) (hn8 : n ≤ 8) (hm : most ≤ 9223372036854775807)
    (H : Hid (Rd w R A l.length c place)) (HB : Hid (Bytes w A l)) (hne : ∀ ad, A = some ad → ad.block ≠ R) :
    Calls Try.prog 49 #[.pointer (some ⟨R, 0, none⟩), .int .i64 n, .int .i64 most] w (NumPost w R A l c place n most) := by
  by_cases hroom : place + n ≤ l.length
  · obtain ⟨ad, hA, _⟩ := HB.out 0 (by omega)
    subst hA
    have hne := hne ad rfl
    have HNE := Lib.hid hne
    clear hne
    go_enter Try.func49, Try.ntmps49
    go_wp2_with fail
    refine (take_yes R ad l.length c place n _ hl hc hc9 hroom hn0 (by omega) H).mono ?_
    rintro e w1 ⟨rfl, h1⟩
    have HSUB : Hid (∃ sub : List UInt8, sub = (l.drop place).take n ∧ sub.length = n ∧ Bytes w1 (some (ad.add place)) sub) := by
      refine ⟨_, rfl, by rw [List.length_take, List.length_drop]; omega, ?_⟩
      exact bytes_sub HB.out place n h1.out.1 (fun _ => HNE.out)
    obtain ⟨sub, hsub, hsl, hby⟩ := HSUB.out
    have HSB := Lib.hid hsub
    have HSL := Lib.hid hsl
    have HBY := Lib.hid hby
    clear HSUB hsub hsl hby
    go_wp2_with fail
    go_loop [7, 14] (fun v i => ∃ (k : Nat), i = .int .i64 k ∧ v = .int .u64 ((leVal (sub.take k) : Nat) : Int) ∧ k ≤ n) (fun _ i => n - (intOf i).toNat)
    case atStart => exact ⟨0, rfl, rfl, Nat.zero_le _⟩
    case round =>
      obtain ⟨k, rfl, rfl, hk⟩ := hrel
      by_cases hlt : k < n
      · obtain ⟨ad', hadd, h0⟩ := HBY.out k (by rw [HSL.out]; exact hlt)
        obtain rfl := Option.some.inj hadd
        have hsk : k < sub.length := by rw [HSL.out]; exact hlt
        obtain ⟨y, hy⟩ : ∃ y, y = sub[k] := ⟨_, rfl⟩
        rw [← hy] at h0
        have b1 := v8_lt y
        have b0 := v8_nonneg y
        have HQ := Lib.hid (or_step sub k y (by omega) hsk (by rw [HSL.out]; exact hn8) hy)
        clear hy
        generalize leVal (sub.take k) = q at HQ ⊢
        go_wp2_with fail
        exact ⟨⟨k + 1, by go_num, by rw [HQ.out], by omega⟩, by simp [intOf]; omega⟩
      · have ek : sub.take k = sub := List.take_of_length_le (by rw [HSL.out]; omega)
        rw [ek]
        clear ek
        generalize hqs : leVal sub = q at *
        have HQS := Lib.hid hqs
        clear hqs
        have hpn := panics
        have es : leVal ((l.drop place).take n) = q := by rw [← HSB.out, HQS.out]
        have ES := Lib.hid es
        clear es
        by_cases hbig : q ≤ most
        · go_wp2_with fail
          go_ret
          refine .inl ⟨hroom, by rw [ES.out]; exact hbig, ?_, h1⟩
          rw [ES.out]
          rfl
        · go_wp2_with fail
          exact ⟨rfl, .inr ⟨fun h => hbig (by rw [← ES.out]; exact h.2), rfl, h1.out.1⟩⟩
  · go_enter Try.func49, Try.ntmps49
    go_wp2_with fail
    refine (take_no R A l.length c place n _ hl hp (by omega) (by omega) H).mono ?_
    rintro e w1 ⟨he, hs⟩
    unfold Broken at he
    subst he
    exact ⟨rfl, .inr ⟨fun h => hroom h.1, rfl, ⟨hs.os, hs.tape, hs.output, by rw [hs.heap], fun k _ => by rw [hs.heap]⟩⟩⟩
end Go.Proofs.Ytefmihbjboacdaa.Reader
