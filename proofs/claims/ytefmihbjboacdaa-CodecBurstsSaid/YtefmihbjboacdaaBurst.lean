/- CRC32C on its own: two lists of one length whose sums are the same differ by no burst of at most 32 bits. No Go in it. -/
import Derived.Test.YtefmihbjboacdaaBack
import Derived.Test.YtefmihbjboacdaaTurn
namespace Go.Proofs.Ytefmihbjboacdaa.Burst
open Go.Proofs.Ytefmihbjboacdaa.Crc Go.Proofs.Ytefmihbjboacdaa.Lay Go.Proofs.Ytefmihbjboacdaa.Lists Go.Proofs.Ytefmihbjboacdaa.NodeLay Go.Proofs.Ytefmihbjboacdaa.EntryEnc Go.Proofs.Ytefmihbjboacdaa.SuperEnc Go.Proofs.Ytefmihbjboacdaa.Writer
set_option linter.unusedVariables false

/-- a bit's step, on numbers of any length -/
def S (x : Nat) : Nat := x / 2 ^^^ (if x % 2 = 1 then 0x82F63B78 else 0)
def SN : Nat → Nat → Nat
  | 0, x => x
  | n + 1, x => SN n (S x)
theorem xor_zero_eq {a b : Nat} (h : a ^^^ b = 0) : a = b := by
  have := congrArg (· ^^^ b) h
  simpa [Nat.xor_assoc] using this
theorem SN_succ (n x : Nat) : SN (n + 1) x = SN n (S x) := rfl
theorem leVal_zs (n : Nat) : leVal (zs n) = 0 := leVal_zeros n
theorem S_xor (a b : Nat) : S (a ^^^ b) = S a ^^^ S b := by
  unfold S
  have h2 : (a ^^^ b) / 2 = a / 2 ^^^ b / 2 := Nat.xor_div_two
  have hm : (a ^^^ b) % 2 = (a % 2 + b % 2) % 2 := by
    have := Nat.testBit_xor a b 0
    simp only [Nat.testBit_zero] at this
    rcases Nat.mod_two_eq_zero_or_one a with ha | ha <;> rcases Nat.mod_two_eq_zero_or_one b with hb | hb <;> rcases Nat.mod_two_eq_zero_or_one (a ^^^ b) with hc | hc <;> simp_all
  rw [h2, hm]
  rcases Nat.mod_two_eq_zero_or_one a with ha | ha <;> rcases Nat.mod_two_eq_zero_or_one b with hb | hb <;> rw [ha, hb]
  · simp
  · simp [Nat.xor_assoc]
  · simp
    ac_rfl
  · simp only [Nat.reduceAdd, Nat.reduceMod, if_true, if_neg (by decide : ¬ (0 : Nat) = 1), Nat.xor_zero]
    rw [show a / 2 ^^^ 2197175160 ^^^ (b / 2 ^^^ 2197175160) = (a / 2 ^^^ b / 2) ^^^ (2197175160 ^^^ 2197175160) from by ac_rfl, Nat.xor_self, Nat.xor_zero]
theorem SN_xor (n : Nat) : ∀ a b : Nat, SN n (a ^^^ b) = SN n a ^^^ SN n b := by
  induction n with
  | zero => intro a b; rfl
  | succ n ih => intro a b; show SN n (S (a ^^^ b)) = SN n (S a) ^^^ SN n (S b); rw [S_xor, ih]
theorem SN_add (m n x : Nat) : SN (m + n) x = SN n (SN m x) := by
  induction m generalizing x with
  | zero => rw [Nat.zero_add]; rfl
  | succ m ih => rw [Nat.succ_add]; exact ih (S x)
theorem S_two (y : Nat) : S (2 * y) = y := by
  unfold S
  rw [if_neg (by omega), Nat.xor_zero]
  omega
theorem SN_pow (n y : Nat) : SN n (2 ^ n * y) = y := by
  induction n with
  | zero => simp [SN]
  | succ n ih =>
    show SN n (S (2 ^ (n + 1) * y)) = y
    rw [Nat.pow_succ, Nat.mul_comm (2 ^ n) 2, Nat.mul_assoc, S_two, ih]
theorem S_lt {x : Nat} (h : x < 4294967296) : S x < 4294967296 := by
  unfold S
  have h1 : x / 2 < 2 ^ 32 := by omega
  split
  · exact Nat.xor_lt_two_pow (n := 32) h1 (by decide)
  · exact Nat.xor_lt_two_pow (n := 32) h1 (by decide)
theorem S_lt1 {x : Nat} (h : x < 8589934592) : S x < 4294967296 := by
  unfold S
  have h1 : x / 2 < 2 ^ 32 := by omega
  split
  · exact Nat.xor_lt_two_pow (n := 32) h1 (by decide)
  · exact Nat.xor_lt_two_pow (n := 32) h1 (by decide)
theorem S_zero {x : Nat} (h : x < 4294967296) (h0 : S x = 0) : x = 0 := by
  unfold S at h0
  split at h0
  · have e : x / 2 = 0x82F63B78 := xor_zero_eq h0
    omega
  · rw [Nat.xor_zero] at h0
    omega
theorem SN_zero (n : Nat) : ∀ x : Nat, x < 4294967296 → SN n x = 0 → x = 0 := by
  induction n with
  | zero => intro x _ h; exact h
  | succ n ih => intro x h h0; exact S_zero h (ih _ (S_lt h) h0)
theorem SN_inj (n : Nat) {x y : Nat} (hx : x < 4294967296) (hy : y < 4294967296) (h : SN n x = SN n y) : x = y := by
  have h0 : SN n (x ^^^ y) = 0 := by rw [SN_xor, h, Nat.xor_self]
  exact xor_zero_eq (SN_zero n _ (Nat.xor_lt_two_pow (n := 32) hx hy) h0)
theorem stepB_S (r : BitVec 32) : (stepB r).toNat = S r.toNat := by
  unfold stepB S
  rw [BitVec.toNat_xor, BitVec.toNat_ushiftRight, Nat.shiftRight_eq_div_pow, BitVec.getLsbD, Nat.testBit_zero]
  by_cases h : r.toNat % 2 = 1
  · rw [if_pos (by simpa using h), if_pos h]
    rfl
  · rw [if_neg (by simpa using h), if_neg h]
    rfl
theorem bit_S (r : UInt32) : (bit r).toNat = S r.toNat := stepB_S r.toBitVec
theorem bits8_S (r : UInt32) : (bits8 r).toNat = SN 8 r.toNat := by
  unfold bits8
  rw [bit_S, bit_S, bit_S, bit_S, bit_S, bit_S, bit_S, bit_S]
  rfl
theorem byte_S (r : UInt32) (y : UInt8) : (byte r y).toNat = SN 8 (r.toNat ^^^ y.toNat) := by
  unfold byte
  rw [bits8_S, UInt32.toNat_xor]
  simp
theorem regs_S : ∀ (l : List UInt8) (r : UInt32), (regs r l).toNat = SN (8 * l.length) (r.toNat ^^^ leVal l)
  | [], r => by show r.toNat = r.toNat ^^^ 0; rw [Nat.xor_zero]
  | y :: t, r => by
    show (regs (byte r y) t).toNat = _
    rw [regs_S t, byte_S, List.length_cons, show 8 * (t.length + 1) = 8 + 8 * t.length from by omega, SN_add]
    show _ = SN _ (SN 8 (r.toNat ^^^ (y.toNat + 256 * leVal t)))
    rw [show (256 : Nat) = 2 ^ 8 from rfl, Turn.low_xor 8 _ _ y.toNat_lt, ← Nat.xor_assoc, SN_xor 8 _ (2 ^ 8 * leVal t), SN_pow]
theorem sum_S (l : List UInt8) : (sumU l).toNat = 4294967295 ^^^ SN (8 * l.length) (4294967295 ^^^ leVal l) := by
  unfold sumU
  have h2 : ∀ z : UInt32, ~~~ z = 4294967295 ^^^ z := fun z => by
    apply UInt32.toBitVec_inj.1
    show ~~~ z.toBitVec = (4294967295#32) ^^^ z.toBitVec
    rw [show (4294967295#32) = BitVec.allOnes 32 from by decide, BitVec.allOnes_xor]
  rw [h2, UInt32.toNat_xor, regs_S]
  rfl
/-- lists with like sums differ by no burst -/
theorem burst {l l' : List UInt8} {p a : Nat} (hl : l'.length = l.length) (hv : leVal l' = leVal l ^^^ (2 ^ a * p)) (hp : p < 4294967296) (ha : a ≤ 8 * l.length) (hs : sumU l' = sumU l) : p = 0 := by
  have h := congrArg UInt32.toNat hs
  rw [sum_S, sum_S, hl, hv, ← Nat.xor_assoc, SN_xor, ← Nat.xor_assoc] at h
  have h0 : SN (8 * l.length) (2 ^ a * p) = 0 := by
    generalize SN (8 * l.length) (2 ^ a * p) = z at h ⊢
    generalize 4294967295 ^^^ SN (8 * l.length) (4294967295 ^^^ leVal l) = y at h
    have := congrArg (y ^^^ ·) h
    simp only [← Nat.xor_assoc, Nat.xor_self, Nat.zero_xor] at this
    exact this
  rw [show 8 * l.length = a + (8 * l.length - a) from by omega, SN_add, SN_pow] at h0
  exact SN_zero _ _ hp h0
theorem sealed_sum (l : List UInt8) (h : 4 ≤ l.length) : sumU (sealed4 l) = 0x48674BC7 := by
  have e : sealed4 l = l.take (l.length - 4) ++ le4 (sumU (l.take (l.length - 4))) := by
    unfold sealed4 put
    rw [leN_four, List.drop_eq_nil_of_le (by show l.length ≤ l.length - 4 + 4; omega), List.append_nil]
  rw [e]
  exact residue _
theorem leVal_split (l : List UInt8) (m : Nat) (h : m ≤ l.length) : leVal l = leVal (l.take m) + 256 ^ m * leVal (l.drop m) := by
  conv => lhs; rw [← List.take_append_drop m l, leVal_append, List.length_take, Nat.min_eq_left h]
def R0 : Nat := 2794227271
theorem R0_SN : SN 1023 R0 = 4294967295 ^^^ 0x48674BC7 := by decide +kernel
theorem none_meets : ∀ i : Fin 3, ∀ j : Fin 65, ∀ k : Fin 2, S (4294967295 ^^^ ((i.val + 1) + 65536 * (j.val + 65536 * k.val))) ≠ R0 := by decide +kernel
theorem node_far {f : Nat → Int} (h : NFits f) {p a : Nat} (hp : p < 4294967296) : leVal (nodeBytes fun k => (f k).toNat) ≠ 2 ^ a * p := by
  intro he
  have hl := nodeBytes_length fun k => (f k).toNat
  have h0 := field_of (fun k => (f k).toNat) 0 2 0 (by decide) rfl (by have := h.1; show (f 0).toNat < 65536; omega)
  have h1 := field_of (fun k => (f k).toNat) 1 2 0 (by decide) rfl (by have := h.2.1; show (f 1).toNat < 65536; omega)
  have hs := sealed_sum (put (zs 128) 0 (rowN (fun k => (f k).toNat) 17)) (by rw [NodeLay.put_zs _ 17 (by decide)]; decide)
  have hs2 : sumU (nodeBytes fun k => (f k).toNat) = 0x48674BC7 := hs
  have hS := congrArg UInt32.toNat hs2
  rw [sum_S, hl] at hS
  clear hs hs2
  have hf0 := h.1
  have hf1 := h.2.1
  generalize (nodeBytes fun k => (f k).toNat) = l at *
  unfold SuperDec.fieldAt at h0 h1
  have e0 := leVal_split l 2 (by omega)
  have e1 := leVal_split (l.drop 2) 2 (by rw [List.length_drop]; omega)
  rw [show pos 0 = 0 from rfl, List.drop_zero] at h0
  rw [show pos 1 = 2 from rfl] at h1
  rw [h0] at e0
  rw [h1] at e1
  rw [e1] at e0
  generalize leVal ((l.drop 2).drop 2) = y at e0
  obtain ⟨i, hi⟩ : ∃ i, (f 0).toNat = i + 1 := ⟨(f 0).toNat - 1, by omega⟩
  obtain ⟨j, hj⟩ : ∃ j, (f 1).toNat = j := ⟨_, rfl⟩
  rw [hi, hj] at e0
  have hi3 : i < 3 := by omega
  have hj65 : j < 65 := by omega
  generalize leVal l = x at *
  have ha : a < 2 := by
    refine Nat.lt_of_not_le fun h2 => ?_
    obtain ⟨b, rfl⟩ : ∃ b, a = b + 2 := ⟨a - 2, by omega⟩
    have : x = 4 * (2 ^ b * p) := by
      rw [he, Nat.add_comm b 2, Nat.pow_add, Nat.mul_assoc]
    simp only [Nat.reducePow] at e0
    omega
  have hx : x < 8589934592 := by
    rw [he]
    match a, ha with
    | 0, _ => simp; omega
    | 1, _ => simp; omega
  simp only [Nat.reducePow] at e0
  have hy : y < 2 := by omega
  have hn := none_meets ⟨i, hi3⟩ ⟨j, hj65⟩ ⟨y, hy⟩
  simp only at hn
  rw [← e0] at hn
  apply hn
  have hS2 : SN 1023 (S (4294967295 ^^^ x)) = SN 1023 R0 := by
    rw [R0_SN, ← SN_succ]
    rw [show 8 * 128 = 1023 + 1 from rfl] at hS
    generalize SN (1023 + 1) (4294967295 ^^^ x) = z at hS ⊢
    have := congrArg (4294967295 ^^^ ·) hS
    simp only [← Nat.xor_assoc, Nat.xor_self, Nat.zero_xor] at this
    exact this
  exact SN_inj 1023 (S_lt1 (Nat.xor_lt_two_pow (n := 33) (by decide) hx)) (by decide) hS2
/-- the bytes of a node -/
def NodeOk (l : List UInt8) : Prop := ∃ f, NOk f ∧ nodeOf f = l
theorem NodeOk.len {l : List UInt8} (h : NodeOk l) : l.length = 128 := by
  obtain ⟨f, _, rfl⟩ := h
  exact nodeOf_length f
theorem xor_zero_of {a b : Nat} (h : (0 : Nat) = a ^^^ b) : a = b := xor_zero_eq h.symm
theorem pow_mul_zero {a p : Nat} (h : 2 ^ a * p = 0) : p = 0 := by
  rcases Nat.mul_eq_zero.1 h with h | h
  · exact absurd h (Nat.ne_of_gt (Nat.two_pow_pos a))
  · exact h
theorem node_cases {l : List UInt8} (h : NodeOk l) : l = zs 128 ∨ ∃ f, NFits f ∧ l = nodeBytes fun k => (f k).toNat := by
  obtain ⟨f, hf, rfl⟩ := h
  unfold nodeOf
  by_cases hz : NZero f
  · left; rw [if_pos hz]
  · right; rw [if_neg hz]; exact ⟨f, hf.resolve_left hz, rfl⟩
theorem node_sum (g : Nat → Nat) : sumU (nodeBytes g) = 0x48674BC7 :=
  sealed_sum (put (zs 128) 0 (rowN g 17)) (by rw [NodeLay.put_zs g 17 (by decide)]; decide)
theorem node_burst {l l' : List UInt8} (h : NodeOk l) (h' : NodeOk l') {p a : Nat} (hp : p < 4294967296) (ha : a ≤ 1024) (hv : leVal l' = leVal l ^^^ (2 ^ a * p)) : p = 0 := by
  have hl := h.len
  have hl' := h'.len
  rcases node_cases h with e | ⟨f, hf, e⟩ <;> rcases node_cases h' with e' | ⟨g, hg, e'⟩
  · rw [e, e', leVal_zs, Nat.zero_xor] at hv
    exact pow_mul_zero hv.symm
  · rw [e, leVal_zs, Nat.zero_xor, e'] at hv
    exact absurd hv (node_far hg hp)
  · rw [e', leVal_zs, e] at hv
    exact absurd (xor_zero_of hv) (node_far hf hp)
  · exact burst (hl'.trans hl.symm) hv hp (by rw [hl]; omega) (by rw [e, e', node_sum, node_sum])
/-- the bytes of an entry -/
def EntryOk (l : List UInt8) : Prop := ∃ n k s, EOk n k s ∧ entryOf n k s = l
theorem EntryOk.len {l : List UInt8} (h : EntryOk l) : l.length = 64 := by
  obtain ⟨n, k, s, hf, rfl⟩ := h
  exact entryOf_length hf
theorem entry_cases {l : List UInt8} (h : EntryOk l) : l = zs 64 ∨ ∃ n k s, EFits n k s ∧ l = entryOf n k s ∧ l = entryBytes n.toNat k.toNat s.data.toList := by
  obtain ⟨n, k, s, hf, rfl⟩ := h
  by_cases hz : EZero n k s
  · left; exact if_pos hz
  · right; exact ⟨n, k, s, hf.resolve_left hz, rfl, if_neg hz⟩
theorem entry_sum (n k : Nat) (s : List UInt8) (h : s.length ≤ 54) : sumU (entryBytes n k s) = 0x48674BC7 :=
  sealed_sum _ (by rw [EntryEnc.put_zs _ (by rw [L4_length]; omega)]; decide)
theorem entry_far {n k : Int} {s : ByteArray} (h : EFits n k s) {p a : Nat} (hp : p < 4294967296) : leVal (entryBytes n.toNat k.toNat s.data.toList) ≠ 2 ^ a * p := by
  intro he
  have hsz := size_of_ok h.2.2.2.2
  have hlen : s.data.toList.length = s.size := Array.length_toList
  obtain ⟨f1, f2, f3, f4⟩ := Back.entry_fields n.toNat k.toNat s.data.toList (by have := h.2.1; show n.toNat < 4294967296; omega) (by have := h.2.2.2.1; omega) (by omega)
  have hl := entryBytes_length n.toNat k.toNat s.data.toList (by omega)
  have hbar : Bars.hasBar s = false := by
    have h0 := h.2.2.2.2
    cases hb : Bars.hasBar s with
    | false => rfl
    | true => rw [Name.err_name (by omega) (.inr (.inr (.inr hb)))] at h0; exact absurd h0 (by decide)
  have hn1 := h.1
  have hn2 := h.2.1
  generalize entryBytes n.toNat k.toNat s.data.toList = l at *
  unfold EntryDec.nameOf at f4
  rw [f3] at f4
  unfold SuperDec.fieldAt at f1
  rw [List.drop_zero] at f1
  have e6 := leVal_split l 6 (by omega)
  have e4 := leVal_split l 4 (by omega)
  rw [f1] at e4
  have hpos : 0 < leVal (l.drop 6) := by
    unfold Bars.hasBar at hbar
    cases hs : s.data.toList with
    | nil => rw [hs] at hlen; simp at hlen; omega
    | cons y t =>
      rw [hs] at f4 hbar
      have hy : y ≠ 0 := fun e => by subst e; simp [Bars.isBar] at hbar
      cases hd : l.drop 6 with
      | nil => rw [hd] at f4; simp at f4
      | cons z r =>
        rw [hd] at f4
        obtain rfl : z = y := by simpa using congrArg List.head? f4
        show 0 < z.toNat + 256 * leVal r
        have : z.toNat ≠ 0 := fun e => hy (UInt8.toNat_inj.1 (by simpa using e))
        omega
  simp only [Nat.reducePow] at e6 e4
  generalize leVal (l.drop 6) = u6 at *
  generalize leVal (l.drop 4) = u4 at *
  generalize leVal (l.take 6) = t6 at *
  generalize leVal l = x at *
  have ha : a ≤ 10 := by
    refine Nat.le_of_not_lt fun h2 => ?_
    obtain ⟨b, rfl⟩ : ∃ b, a = 11 + b := ⟨a - 11, by omega⟩
    have : x = 2048 * (2 ^ b * p) := by rw [he, Nat.pow_add, Nat.mul_assoc]
    omega
  have hx : 2 ^ a * p < 1024 * 4294967296 := by
    have : 2 ^ a ≤ 2 ^ 10 := Nat.pow_le_pow_right (by decide) ha
    calc 2 ^ a * p ≤ 2 ^ 10 * p := Nat.mul_le_mul_right _ this
      _ < 1024 * 4294967296 := by omega
  omega
theorem entry_burst {l l' : List UInt8} (h : EntryOk l) (h' : EntryOk l') {p a : Nat} (hp : p < 4294967296) (ha : a ≤ 512) (hv : leVal l' = leVal l ^^^ (2 ^ a * p)) : p = 0 := by
  have hl := h.len
  have hl' := h'.len
  rcases entry_cases h with e | ⟨n, k, s, hf, _, e⟩ <;> rcases entry_cases h' with e' | ⟨n', k', s', hg, _, e'⟩
  · rw [e, e', leVal_zs, Nat.zero_xor] at hv
    exact pow_mul_zero hv.symm
  · rw [e, leVal_zs, Nat.zero_xor, e'] at hv
    exact absurd hv (entry_far hg hp)
  · rw [e', leVal_zs, e] at hv
    exact absurd (xor_zero_of hv) (entry_far hf hp)
  · have h1 := size_of_ok hf.2.2.2.2
    have h2 := size_of_ok hg.2.2.2.2
    have q1 : s.data.toList.length = s.size := Array.length_toList
    have q2 : s'.data.toList.length = s'.size := Array.length_toList
    refine burst (hl'.trans hl.symm) hv hp (by rw [hl]; omega) ?_
    rw [e, e', entry_sum _ _ _ (by omega), entry_sum _ _ _ (by omega)]
theorem super_burst {x y z a b c : Nat} {p i : Nat} (hp : p < 4294967296) (ha : i ≤ 4096) (hv : leVal (superBytes a b c) = leVal (superBytes x y z) ^^^ (2 ^ i * p)) : p = 0 := by
  have hs : ∀ a b c, sumU (superBytes a b c) = 0x48674BC7 := fun a b c => sealed_sum _ (by rw [E_length]; decide)
  exact burst (by rw [superBytes_length, superBytes_length]) hv hp (by rw [superBytes_length]; omega) ((hs _ _ _).trans (hs _ _ _).symm)
end Go.Proofs.Ytefmihbjboacdaa.Burst
