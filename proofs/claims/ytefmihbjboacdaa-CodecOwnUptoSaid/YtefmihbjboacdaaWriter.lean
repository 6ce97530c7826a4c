/- The writer: numbers laid into a block, and the document's lay. -/
import Derived.Test.YtefmihbjboacdaaLay
import Derived.Test.YtefmihbjboacdaaCopy
import Derived.Test.YtefmihbjboacdaaSum
import Derived.Deep.RegionHeld3
import Derived.Deep.CutBlock
import Derived.Deep.RegionWith
namespace Go.Proofs.Ytefmihbjboacdaa.Writer
open Go.ChangeShapes Go.WideShapes Go.ChangeAt Go.RowKit
open Go.Proofs.Ytefmihbjboacdaa.Kit Go.Proofs.Ytefmihbjboacdaa.Crc Go.Proofs.Ytefmihbjboacdaa.Reads Go.Proofs.Ytefmihbjboacdaa.Copy Go.Proofs.Ytefmihbjboacdaa.Sum Go.Proofs.Ytefmihbjboacdaa.Lay
set_option linter.unusedVariables false

/-- a writer in block W over the bytes of block B -/
def Wr (w : World) (W B : Nat) (l : List UInt8) (place : Nat) : Prop :=
  W ≠ B ∧ Blk w W #[.slice (some ⟨B, 0, none⟩) l.length l.length, .int .i64 (place : Int)] 86 ∧ Blk w B (bvs l) 5
/-- two blocks alone have been written -/
structure Two (A B : Nat) (w w' : World) : Prop where
  os : w'.os = w.os
  tape : w'.tape = w.tape
  output : w'.output = w.output
  size : w'.heap.size = w.heap.size
  block : ∀ k, k ≠ A → k ≠ B → w'.heap[k]? = w.heap[k]?

theorem Two.refl (A B : Nat) (w : World) : Two A B w w := ⟨rfl, rfl, rfl, rfl, fun _ _ _ => rfl⟩
theorem Two.trans {A B : Nat} {a b c : World} (h : Two A B a b) (k : Two A B b c) : Two A B a c := ⟨k.os.trans h.os, k.tape.trans h.tape, k.output.trans h.output, k.size.trans h.size, fun j h1 h2 => (k.block j h1 h2).trans (h.block j h1 h2)⟩
theorem Two.drew {A B : Nat} {a w : World} (h : Two A B a w) : Two A B a w.drew := ⟨h.os, h.tape, h.output, h.size, h.block⟩
theorem Two.setCell {A B : Nat} {a w : World} (h : Two A B a w) (p : Addr) (hp : p.block = A ∨ p.block = B) (u : Value) : Two A B a (w.setCell p u) :=
  h.trans ⟨rfl, rfl, rfl, by simp [World.setCell], fun k h1 h2 => Below.heap_setCell w p u k (by omega)⟩
theorem Two.below {A B B0 : Nat} {w w' : World} (h : Two A B w w') (hA : B0 ≤ A) (hB : B0 ≤ B) : Below B0 w w' := ⟨h.os, h.tape, h.output, by rw [h.size]; exact Nat.le_refl _, fun k hk => h.block k (by omega) (by omega)⟩
theorem Two.blk {A B : Nat} {w w' : World} (h : Two A B w w') {b : Nat} {cs : Array Value} {t : TypeId} (k : Blk w b cs t) (h1 : b ≠ A) (h2 : b ≠ B) : Blk w' b cs t := (h.block b h1 h2).trans k
theorem shr_byte (v k : Nat) : (v : Int) / 2 ^ (8 * k) % 256 = v8 (nb v k) := by
  have e : (2 : Int) ^ (8 * k) = ((256 ^ k : Nat) : Int) := by
    rw [show (256 : Nat) = 2 ^ 8 from rfl, ← Nat.pow_mul]
    simp
  rw [v8_nb, e, ← Int.natCast_ediv]
  omega

set_option maxRecDepth 100000 in
set_option maxHeartbeats 1600000 in
theorem number_any (W B : Nat) (l : List UInt8) (place n v : Nat) (w : World) (hn : n ≤ 8) (hv : v < 9223372036854775808) (hfit : place + n ≤ l.length) (hl : l.length ≤ 140737488351232) (H : Hid (Wr w W B l place)) :
    Calls Try.prog 52 #[.pointer (some ⟨W, 0, none⟩), .int .i64 n, .int .i64 v] w fun e w' => e = .returned (.tuple #[]) ∧ Hid (Two W B w w' ∧ Wr w' W B (put l place (leN n v)) (place + n)) := by
  go_enter Try.func52, Try.ntmps52
  go_wp2_with fail
  go_loopw [8] (fun i wr => ∃ (k : Nat), i = .int .i64 k ∧ k ≤ n ∧ Hid (Two W B w wr ∧ Wr wr W B (put l place (leN k v)) place)) (fun i _ => n - (intOf i).toNat)
  case atStart => 
    refine ⟨0, rfl, Nat.zero_le _, ⟨rfl, rfl, rfl, rfl, fun _ _ _ => rfl⟩, ?_⟩
    rw [leN, put_nil]
    exact H
  case round =>
    obtain ⟨k, rfl, hk, HR⟩ := hrel
    have hlen : (put l place (leN k v)).length = l.length := put_length _ _ _ (by rw [leN_length]; omega)
    have c0 : wr.cell? ⟨W, 0, none⟩ = some (.slice (some ⟨B, 0, none⟩) l.length l.length) := by rw [HR.out.2.2.1.cell, hlen]; rfl
    have c1 : wr.cell? ⟨W, 1, none⟩ = some (.int .i64 (place : Int)) := by rw [HR.out.2.2.1.cell]; rfl
    have HLEN := Lib.hid hlen
    clear hlen
    have f1 := HR.out.2.2.1.frozen 1
    by_cases hlt : k < n
    · have i1 : (place : Int) + (k : Int) < (l.length : Int) := by omega
      have i0 : (0 : Int) ≤ (place : Int) + (k : Int) := by omega
      obtain ⟨y, c2⟩ : ∃ y, wr.cell? ⟨B, place + k, none⟩ = some (.int .u8 y) := ⟨_, (HR.out.2.2.2.cell _).trans (bvs_get _ _ (by rw [HLEN.out]; omega))⟩
      have f2 := HR.out.2.2.2.frozen (place + k)
      go_wp2_with fail
      go_region
      go_wp2_with fail
      refine ⟨⟨k + 1, by go_num, by omega, (HR.out.1.setCell _ (.inr rfl) _).drew, HR.out.2.1, ?_, ?_⟩, by simp [intOf]; omega⟩
      · have h := (HR.out.2.2.1.far (a := ⟨B, place + k, none⟩) HR.out.2.1 (.int .u8 (v8 (nb v k)))).drew
        rw [shr_byte, put_length _ _ _ (by rw [leN_length]; omega)]
        rw [HLEN.out] at h
        exact h
      · have h := (HR.out.2.2.2.put (place + k) (.int .u8 (v8 (nb v k)))).drew
        rw [bvs_set, put_leN _ _ _ _ (by omega)] at h
        rw [shr_byte]
        exact h
    · have ek : k = n := by omega
      subst ek
      go_wp2_with fail
      go_end0
      refine ⟨rfl, HR.out.1.setCell _ (.inl rfl) _, HR.out.2.1, ?_, HR.out.2.2.2.far (fun e => HR.out.2.1 e.symm) _⟩
      have h := HR.out.2.2.1.put 1 (.int .i64 ((place : Int) + (k : Int)))
      exact h
/-- what lay there stays, but for the blocks of S; new blocks may have come -/
structure Chg (S : Nat → Prop) (w w' : World) : Prop where
  os : w'.os = w.os
  tape : w'.tape = w.tape
  output : w'.output = w.output
  size : w.heap.size ≤ w'.heap.size
  block : ∀ k, k < w.heap.size → ¬ S k → w'.heap[k]? = w.heap[k]?
theorem Two.chg {A B : Nat} {w w' : World} (h : Two A B w w') : Chg (fun k => k = A ∨ k = B) w w' := ⟨h.os, h.tape, h.output, by rw [h.size]; exact Nat.le_refl _, fun k _ hn => h.block k (fun e => hn (.inl e)) (fun e => hn (.inr e))⟩
theorem Chg.trans {S : Nat → Prop} {a b c : World} (h : Chg S a b) (k : Chg S b c) : Chg S a c :=
  ⟨k.os.trans h.os, k.tape.trans h.tape, k.output.trans h.output, Nat.le_trans h.size k.size, fun j hj hn => (k.block j (Nat.lt_of_lt_of_le hj h.size) hn).trans (h.block j hj hn)⟩
theorem Chg.of_below {S : Nat → Prop} {w w' : World} (h : Below w.heap.size w w') : Chg S w w' := ⟨h.os, h.tape, h.output, h.size, fun k hk _ => h.block k hk⟩
theorem Chg.below {S : Nat → Prop} {w w' : World} {B0 : Nat} (h : Chg S w w') (hB : B0 ≤ w.heap.size) (hS : ∀ k, S k → B0 ≤ k) : Below B0 w w' :=
  ⟨h.os, h.tape, h.output, h.size, fun k hk => h.block k (by omega) (fun hs => by have := hS k hs; omega)⟩
theorem Chg.blk {S : Nat → Prop} {w w' : World} (h : Chg S w w') {b : Nat} {cs : Array Value} {t : TypeId} (k : Blk w b cs t) (hn : ¬ S b) : Blk w' b cs t := (h.block b k.lt hn).trans k
theorem Chg.mono {S T : Nat → Prop} {w w' : World} (h : Chg S w w') (hST : ∀ k, S k → T k) : Chg T w w' := ⟨h.os, h.tape, h.output, h.size, fun k hk hn => h.block k hk (fun hs => hn (hST k hs))⟩
theorem Chg.drew {S : Nat → Prop} {a w : World} (h : Chg S a w) : Chg S a w.drew := ⟨h.os, h.tape, h.output, h.size, h.block⟩
theorem Wr.below {w w' : World} {W B : Nat} {l : List UInt8} {p : Nat} (h : Wr w W B l p) (hb : Below w.heap.size w w') : Wr w' W B l p := ⟨h.1, h.2.1.below hb h.2.1.lt, h.2.2.below hb h.2.2.lt⟩
/-- the bytes with their sum in the last four -/
def sealed4 (l : List UInt8) : List UInt8 := put l (l.length - 4) (leN 4 (sumU (l.take (l.length - 4))).toNat)

theorem held_wr {w wc w4 : World} {W B : Nat} {l : List UInt8} {p : Nat} (h : Hid (Chg (fun k => k = W ∨ k = B) w wc) ∧ Hid (Wr wc W B l p)) (hb : Below wc.heap.size wc w4) :
    Hid (Chg (fun k => k = W ∨ k = B) w w4) ∧ Hid (Wr w4 W B l p) := ⟨h.1.out.trans (Chg.of_below hb), h.2.out.below hb⟩
theorem held_wr' {w wc w4 : World} {W B : Nat} {l : List UInt8} {p : Nat} (h1 : Hid (Chg (fun k => k = W ∨ k = B) w wc)) (h2 : Hid (Wr wc W B l p)) (hb : Below wc.drew.heap.size wc.drew w4) :
    Hid (Chg (fun k => k = W ∨ k = B) w w4 ∧ Wr w4 W B l p) := ⟨h1.out.drew.trans (Chg.of_below hb), h2.out.below ⟨hb.os, hb.tape, hb.output, hb.size, hb.block⟩⟩
theorem sum_at (A : Option Addr) (n c : Nat) (l : List UInt8) (w : World) (hl : l.length = n) (hn : n ≤ 9223372036854775807) (H : Hid (Bytes w A l)) :
    Calls Try.prog 17 #[.slice A n c] w fun e w' => e = .returned (.int .i64 (sum l)) ∧ Below w.heap.size w w' := by
  subst hl
  exact sum_any A c l w hn H
theorem sum_lo (l : List UInt8) : 0 ≤ sum l := u_nonneg _
theorem sum_hi (l : List UInt8) : sum l < (9223372036854775808 : Int) := by
  have := u_lt (sumU l)
  unfold sum
  omega
theorem number_at (W B : Nat) (l : List UInt8) (place n : Nat) (q v : Int) (w : World) (hq : q = (n : Int)) (hn : n ≤ 8) (h0 : 0 ≤ v) (hv : v < 9223372036854775808) (hfit : place + n ≤ l.length) (hl : l.length ≤ 140737488351232) (H : Hid (Wr w W B l place)) :
    Calls Try.prog 52 #[.pointer (some ⟨W, 0, none⟩), .int .i64 q, .int .i64 v] w fun e w' => e = .returned (.tuple #[]) ∧ Hid (Two W B w w' ∧ Wr w' W B (put l place (leN n v.toNat)) (place + n)) := by
  subst hq
  obtain ⟨k, rfl⟩ := Int.eq_ofNat_of_zero_le h0
  exact number_any W B l place n k w hn (by omega) hfit hl H

set_option maxRecDepth 100000 in
set_option maxHeartbeats 1600000 in
theorem sealed_any (W B m : Nat) (l : List UInt8) (place : Nat) (w : World) (hm : l.length = m + 4) (hl : m ≤ 140737488351228) (H : Hid (Wr w W B l place)) :
    Calls Try.prog 53 #[.pointer (some ⟨W, 0, none⟩)] w fun e w' => e = .returned (.slice (some ⟨B, 0, none⟩) (m + 4) (m + 4)) ∧ Hid (Chg (fun k => k = W ∨ k = B) w w' ∧ Wr w' W B (sealed4 l) l.length) := by
  have c0 : w.cell? ⟨W, 0, none⟩ = some (.slice (some ⟨B, 0, none⟩) (m + 4) (m + 4)) := by rw [H.out.2.1.cell, hm]; rfl
  have c1 : w.cell? ⟨W, 1, none⟩ = some (.int .i64 (place : Int)) := by rw [H.out.2.1.cell]; rfl
  have f1 := H.out.2.1.frozen 1
  have hm63 : m + 4 ≤ 9223372036854775807 := by omega
  have HL := Lib.hid hl
  have HM := Lib.hid hm
  clear hl hm
  go_enter Try.func53, Try.ntmps53
  go_upto_region 2 with (fail)
  refine gen_world (fun w' => Hid (Chg (fun k => k = W ∨ k = B) w w') ∧ Hid (Wr w' W B l m)) ?_ ?_
  · refine ⟨((Two.refl W B w).setCell ⟨W, 1, none⟩ (.inl rfl) _).chg, H.out.1, ?_, H.out.2.2.far (fun e => H.out.1 e.symm) _⟩
    exact H.out.2.1.put 1 (.int .i64 (m : Int))
  clear c0 c1 f1
  rintro w1 ⟨h1, h2⟩
  have c0 : w1.cell? ⟨W, 0, none⟩ = some (.slice (some ⟨B, 0, none⟩) (m + 4) (m + 4)) := by rw [h2.out.2.1.cell, HM.out]; rfl
  have c1 : w1.cell? ⟨W, 1, none⟩ = some (.int .i64 (m : Int)) := by rw [h2.out.2.1.cell]; rfl
  have i1 : (m : Int) ≤ (m : Int) + 4 := by omega
  have i0 : (0 : Int) ≤ (m : Int) := by omega
  have ht : (l.take m).length = m := by rw [List.length_take, HM.out]; omega
  have HT := Lib.hid ht
  have e1 : sumU (l.take m) = sumU (l.take m) := rfl
  clear ht e1
  have HBY : Hid (∀ w', Hid (Wr w' W B l m) → Bytes w' (some ⟨B, 0, none⟩) (l.take m)) := fun w' hw => Bytes.own (r := l.drop m) (by rw [List.take_append_drop]; exact hw.out.2.2)
  generalize hta : l.take m = ta at *
  have HTA := Lib.hid hta
  clear hta
  go_region_with (first | (go_at_call 17; go_loud (refine (sum_at (some ⟨B, 0, none⟩) m (m + 4) ta _ HT.out (by omega) (by exact HBY.out _ (by exact h2))).mono ?_); rintro e w4 ⟨rfl, hb4⟩; have h3 := held_wr' h1 h2 hb4; clear hb4) | (go_at_call 52; refine (number_at W B l m 4 4 _ _ rfl (by decide) (sum_lo _) (sum_hi _) (by rw [HM.out]; exact Nat.le_refl _) (by rw [HM.out]; have := HL.out; omega) (by exact h3.out.2)).mono ?_; rintro e w5 ⟨rfl, h5⟩))
  all_goals
    have c5 : w5.cell? ⟨W, 0, none⟩ = some (.slice (some ⟨B, 0, none⟩) (m + 4) (m + 4)) := by
      rw [h5.out.2.2.1.cell, put_length _ _ _ (by rw [leN_length, HM.out]; omega), HM.out]
      rfl
    clear c0 c1
    go_wp2_with fail
    go_ret
    refine ⟨rfl, h3.out.1.trans h5.out.1.chg, ?_⟩
    have hs : sealed4 l = put l m (leN 4 (sum ta).toNat) := by
      have e1 : l.length - 4 = m := by rw [HM.out]; omega
      unfold sealed4
      rw [e1, HTA.out]
      rfl
    rw [hs, HM.out]
    exact h5.out.2
end Go.Proofs.Ytefmihbjboacdaa.Writer
