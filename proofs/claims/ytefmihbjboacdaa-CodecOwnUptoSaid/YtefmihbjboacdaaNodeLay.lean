/- A node's cells and its 128 bytes, in plain words. -/
import Derived.Test.YtefmihbjboacdaaLists
import Derived.Test.YtefmihbjboacdaaSuperDec
namespace Go.Proofs.Ytefmihbjboacdaa.NodeLay
open Go.Proofs.Ytefmihbjboacdaa.Crc Go.Proofs.Ytefmihbjboacdaa.Lay Go.Proofs.Ytefmihbjboacdaa.Writer Go.Proofs.Ytefmihbjboacdaa.SuperEnc Go.Proofs.Ytefmihbjboacdaa.SuperDec Go.Proofs.Ytefmihbjboacdaa.Lists
set_option linter.unusedVariables false

/-- a node's cells: Kind, Links, Parent, Size, Owned, ten direct pointers, two more -/
def ncs (f : Nat → Int) : Array Value := #[.int .i64 (f 0), .int .i64 (f 1), .int .i64 (f 2), .int .i64 (f 3), .int .i64 (f 4), .int .i64 (f 5), .int .i64 (f 6), .int .i64 (f 7), .int .i64 (f 8), .int .i64 (f 9), .int .i64 (f 10), .int .i64 (f 11), .int .i64 (f 12), .int .i64 (f 13), .int .i64 (f 14), .int .i64 (f 15), .int .i64 (f 16)]
def fset (f : Nat → Int) (i : Nat) (v : Int) : Nat → Int := fun j => if j = i then v else f j
theorem ncs_get (f : Nat → Int) (i : Nat) (h : i < 17) : (ncs f)[i]? = some (.int .i64 (f i)) := by
  match i, h with
  | 0, _ => rfl
  | 1, _ => rfl
  | 2, _ => rfl
  | 3, _ => rfl
  | 4, _ => rfl
  | 5, _ => rfl
  | 6, _ => rfl
  | 7, _ => rfl
  | 8, _ => rfl
  | 9, _ => rfl
  | 10, _ => rfl
  | 11, _ => rfl
  | 12, _ => rfl
  | 13, _ => rfl
  | 14, _ => rfl
  | 15, _ => rfl
  | 16, _ => rfl
  | i + 17, h => exact absurd h (by omega)
theorem ncs_set (f : Nat → Int) (i : Nat) (v : Int) (h : i < 17) : (ncs f).setIfInBounds i (.int .i64 v) = ncs (fset f i v) := by
  match i, h with
  | 0, _ => rfl
  | 1, _ => rfl
  | 2, _ => rfl
  | 3, _ => rfl
  | 4, _ => rfl
  | 5, _ => rfl
  | 6, _ => rfl
  | 7, _ => rfl
  | 8, _ => rfl
  | 9, _ => rfl
  | 10, _ => rfl
  | 11, _ => rfl
  | 12, _ => rfl
  | 13, _ => rfl
  | 14, _ => rfl
  | 15, _ => rfl
  | 16, _ => rfl
  | i + 17, h => exact absurd h (by omega)
theorem ncs_congr {f g : Nat → Int} (h : ∀ k, k < 17 → f k = g k) : ncs f = ncs g := by
  unfold ncs
  simp only [h 0 (by decide), h 1 (by decide), h 2 (by decide), h 3 (by decide), h 4 (by decide), h 5 (by decide), h 6 (by decide), h 7 (by decide), h 8 (by decide), h 9 (by decide), h 10 (by decide), h 11 (by decide), h 12 (by decide), h 13 (by decide), h 14 (by decide), h 15 (by decide), h 16 (by decide)]
/-- bytes of each field -/
def wd (k : Nat) : Nat := if k < 2 then 2 else if k = 2 then 4 else if k < 5 then 8 else 4
def pos : Nat → Nat
  | 0 => 0
  | k + 1 => pos k + wd k
theorem wd_ptr (i : Nat) : wd (5 + i) = 4 := by
  unfold wd
  rw [if_neg (by omega), if_neg (by omega), if_neg (by omega)]
theorem pos_ptr (i : Nat) : pos (5 + i) = 24 + 4 * i := by
  induction i with
  | zero => rfl
  | succ i ih =>
    show pos (5 + i) + wd (5 + i) = _
    rw [ih, wd_ptr]
    omega
/-- the first fields, one behind the other -/
def rowN (g : Nat → Nat) : Nat → List UInt8
  | 0 => []
  | k + 1 => rowN g k ++ leN (wd k) (g k)
theorem rowN_length (g : Nat → Nat) (k : Nat) : (rowN g k).length = pos k := by
  induction k with
  | zero => rfl
  | succ k ih => rw [rowN, List.length_append, ih, leN_length, pos]
theorem rowN_split (g : Nat → Nat) (k d : Nat) : ∃ C, rowN g (k + 1 + d) = rowN g k ++ leN (wd k) (g k) ++ C := by
  induction d with
  | zero => exact ⟨[], by rw [List.append_nil]; rfl⟩
  | succ d ih =>
    obtain ⟨C, h⟩ := ih
    exact ⟨C ++ leN (wd (k + 1 + d)) (g (k + 1 + d)), by rw [← Nat.add_assoc, rowN, h, List.append_assoc]⟩
theorem rowN_congr {g h : Nat → Nat} {n : Nat} (e : ∀ k, k < n → g k = h k) : rowN g n = rowN h n := by
  induction n with
  | zero => rfl
  | succ n ih => rw [rowN, rowN, ih (fun k hk => e k (by omega)), e n (by omega)]
/-- the node's 128 bytes -/
def nodeBytes (g : Nat → Nat) : List UInt8 := sealed4 (put (zs 128) 0 (rowN g 17))
theorem put_zs (g : Nat → Nat) (k : Nat) (h : pos k ≤ 128) : (put (zs 128) 0 (rowN g k)).length = 128 := by
  rw [put_length _ _ _ (by rw [rowN_length, zs_length]; omega), zs_length]
theorem pos17 : pos 17 = 72 := rfl
theorem nodeBytes_length (g : Nat → Nat) : (nodeBytes g).length = 128 := by
  have h := put_zs g 17 (by decide)
  unfold nodeBytes
  rw [sealed4_length _ (by rw [h]; decide), h]
def NZero (f : Nat → Int) : Prop := ∀ k, k < 17 → f k = 0
def NFits (f : Nat → Int) : Prop := (1 ≤ f 0 ∧ f 0 ≤ 3) ∧ (0 ≤ f 1 ∧ f 1 ≤ 64) ∧ (0 ≤ f 3 ∧ f 3 ≤ 8459264) ∧ (0 ≤ f 4 ∧ f 4 ≤ 2048) ∧ (f 0 = 2 → 1 ≤ f 2 ∧ f 2 ≤ 1024) ∧ (¬ f 0 = 2 → f 2 = 0) ∧ ∀ i, i < 12 → 0 ≤ f (5 + i) ∧ f (5 + i) ≤ 2047
instance (f : Nat → Int) : Decidable (NZero f) := by unfold NZero; infer_instance
instance (f : Nat → Int) : Decidable (NFits f) := by unfold NFits; infer_instance
def NOk (f : Nat → Int) : Prop := NZero f ∨ NFits f
instance (f : Nat → Int) : Decidable (NOk f) := by unfold NOk; infer_instance
def nodeOf (f : Nat → Int) : List UInt8 := if NZero f then zs 128 else nodeBytes (fun k => (f k).toNat)
theorem nodeOf_length (f : Nat → Int) : (nodeOf f).length = 128 := by
  unfold nodeOf
  split
  · exact zs_length _
  · exact nodeBytes_length _
theorem nzero_congr {f g : Nat → Int} (h : ∀ k, k < 17 → f k = g k) : NZero f ↔ NZero g :=
  ⟨fun hz k hk => (h k hk).symm.trans (hz k hk), fun hz k hk => (h k hk).trans (hz k hk)⟩
theorem nfits_congr {f g : Nat → Int} (h : ∀ k, k < 17 → f k = g k) (hf : NFits f) : NFits g := by
  unfold NFits at hf ⊢
  rw [← h 0 (by decide), ← h 1 (by decide), ← h 2 (by decide), ← h 3 (by decide), ← h 4 (by decide)]
  exact ⟨hf.1, hf.2.1, hf.2.2.1, hf.2.2.2.1, hf.2.2.2.2.1, hf.2.2.2.2.2.1, fun i hi => by rw [← h (5 + i) (by omega)]; exact hf.2.2.2.2.2.2 i hi⟩
theorem nok_congr {f g : Nat → Int} (h : ∀ k, k < 17 → f k = g k) : NOk f ↔ NOk g :=
  ⟨fun hf => hf.elim (fun hz => .inl ((nzero_congr h).1 hz)) (fun hf => .inr (nfits_congr h hf)), fun hf => hf.elim (fun hz => .inl ((nzero_congr h).2 hz)) (fun hf => .inr (nfits_congr (fun k hk => (h k hk).symm) hf))⟩
theorem nodeOf_congr {f g : Nat → Int} (h : ∀ k, k < 17 → f k = g k) : nodeOf f = nodeOf g := by
  unfold nodeOf nodeBytes
  rw [rowN_congr (g := fun k => (f k).toNat) (h := fun k => (g k).toNat) (fun k hk => by simp only [h k hk])]
  by_cases hz : NZero f
  · rw [if_pos hz, if_pos ((nzero_congr h).1 hz)]
  · rw [if_neg hz, if_neg (fun hg => hz ((nzero_congr h).2 hg))]
/-- each field of one that may be laid down is a small number -/
theorem nok_bounds {f : Nat → Int} (h : NOk f) : (0 ≤ f 0 ∧ f 0 ≤ 3) ∧ (0 ≤ f 1 ∧ f 1 ≤ 64) ∧ (0 ≤ f 2 ∧ f 2 ≤ 1024) ∧ (0 ≤ f 3 ∧ f 3 ≤ 8459264) ∧ (0 ≤ f 4 ∧ f 4 ≤ 2048) ∧ ∀ i, i < 12 → 0 ≤ f (5 + i) ∧ f (5 + i) ≤ 2047 := by
  rcases h with h | ⟨h0, h1, h3, h4, h2, h2', h5⟩
  · refine ⟨?_, ?_, ?_, ?_, ?_, fun i hi => ?_⟩
    · rw [h 0 (by decide)]; decide
    · rw [h 1 (by decide)]; decide
    · rw [h 2 (by decide)]; decide
    · rw [h 3 (by decide)]; decide
    · rw [h 4 (by decide)]; decide
    · rw [h (5 + i) (by omega)]; decide
  · refine ⟨⟨by omega, h0.2⟩, h1, ?_, h3, h4, h5⟩
    by_cases hk : f 0 = 2
    · have := h2 hk; omega
    · have := h2' hk; omega
theorem nok_lt {f : Nat → Int} (h : NOk f) : ∀ k, k < 17 → 0 ≤ f k ∧ (f k).toNat < 256 ^ wd k := by
  obtain ⟨h0, h1, h2, h3, h4, h5⟩ := nok_bounds h
  intro k hk
  match k, hk with
  | 0, _ => exact ⟨h0.1, by show _ < 256 ^ 2; omega⟩
  | 1, _ => exact ⟨h1.1, by show _ < 256 ^ 2; omega⟩
  | 2, _ => exact ⟨h2.1, by show _ < 256 ^ 4; omega⟩
  | 3, _ => exact ⟨h3.1, by show _ < 256 ^ 8; omega⟩
  | 4, _ => exact ⟨h4.1, by show _ < 256 ^ 8; omega⟩
  | k + 5, hk => 
    have := h5 k (by omega)
    rw [Nat.add_comm k 5, wd_ptr]
    exact ⟨this.1, by omega⟩
/-- what the two decoders read: theirs differ in two fields' widths -/
def readN (l : List UInt8) (k : Nat) : Nat := fieldAt l (pos k) (wd k)
def wr (k : Nat) : Nat := if k = 0 then 1 else if k = 4 then 4 else wd k
def readR (l : List UInt8) (k : Nat) : Nat := fieldAt l (pos k) (wr k)
theorem pos_le (k : Nat) (hk : k < 17) : pos k + wd k ≤ 72 := by
  match k, hk with
  | 0, _ => decide
  | 1, _ => decide
  | 2, _ => decide
  | 3, _ => decide
  | 4, _ => decide
  | k + 5, hk => rw [Nat.add_comm k 5, wd_ptr, pos_ptr]; omega
theorem put_zero (xs : List UInt8) (n : Nat) : put (zs n) 0 xs = xs ++ (zs n).drop xs.length := by
  unfold put
  simp
/-- a field's first bytes, read out of a node's bytes -/
theorem field_of (g : Nat → Nat) (k m r : Nat) (hk : k < 17) (hm : m + r = wd k) (hv : g k < 256 ^ m) : fieldAt (nodeBytes g) (pos k) m = g k := by
  have h1 := pos_le k hk
  have hl := put_zs g 17 (by decide)
  unfold fieldAt nodeBytes
  rw [field_sealed (by rw [hl]; omega)]
  obtain ⟨C, hC⟩ := rowN_split g k (16 - k)
  rw [show k + 1 + (16 - k) = 17 by omega] at hC
  rw [put_zero, hC, ← hm, leN_add]
  have e : rowN g k ++ (leN m (g k) ++ leN r (g k / 256 ^ m)) ++ C ++ List.drop (rowN g k ++ (leN m (g k) ++ leN r (g k / 256 ^ m)) ++ C).length (zs 128) = rowN g k ++ leN m (g k) ++ (leN r (g k / 256 ^ m) ++ C ++ List.drop (rowN g k ++ (leN m (g k) ++ leN r (g k / 256 ^ m)) ++ C).length (zs 128)) := by
    simp only [List.append_assoc]
  rw [e]
  exact field_mid (rowN_length g k).symm hv
theorem field_zero (p n : Nat) : fieldAt (zs 128) p n = 0 := by
  unfold fieldAt zs
  rw [List.drop_replicate, List.take_replicate, leVal_zeros]
theorem wr_le (k : Nat) : ∃ r, wr k + r = wd k := by
  unfold wr
  by_cases h0 : k = 0
  · subst h0; exact ⟨1, rfl⟩
  · rw [if_neg h0]
    by_cases h4 : k = 4
    · subst h4; exact ⟨4, rfl⟩
    · rw [if_neg h4]; exact ⟨0, rfl⟩
theorem nok_lt_r {f : Nat → Int} (h : NOk f) (k : Nat) (hk : k < 17) : (f k).toNat < 256 ^ wr k := by
  unfold wr
  by_cases h0 : k = 0
  · subst h0
    have := (nok_bounds h).1
    show _ < 256 ^ 1
    omega
  · rw [if_neg h0]
    by_cases h4 : k = 4
    · subst h4
      have := (nok_bounds h).2.2.2.2.1
      show _ < 256 ^ 4
      omega
    · rw [if_neg h4]
      exact (nok_lt h k hk).2
theorem read_of {f : Nat → Int} (h : NOk f) (k : Nat) (hk : k < 17) (m r : Nat) (hm : m + r = wd k) (hv : (f k).toNat < 256 ^ m) : (fieldAt (nodeOf f) (pos k) m : Int) = f k := by
  unfold nodeOf
  by_cases hz : NZero f
  · rw [if_pos hz, field_zero, hz k hk]
    rfl
  · rw [if_neg hz, field_of (fun k => (f k).toNat) k m r hk hm hv]
    have := (nok_lt h k hk).1
    omega
def nI (g : Nat → Nat) : Nat → Int := fun k => (g k : Int)
def IsNode (l : List UInt8) : Prop := NOk (nI (readN l)) ∧ nodeOf (nI (readN l)) = l
def IsNodeR (l : List UInt8) : Prop := NOk (nI (readR l)) ∧ nodeOf (nI (readR l)) = l
instance (l : List UInt8) : Decidable (IsNode l) := by unfold IsNode; infer_instance
theorem readN_of {f : Nat → Int} (h : NOk f) : ∀ k, k < 17 → nI (readN (nodeOf f)) k = f k := fun k hk => read_of h k hk (wd k) 0 rfl (nok_lt h k hk).2
theorem readR_of {f : Nat → Int} (h : NOk f) : ∀ k, k < 17 → nI (readR (nodeOf f)) k = f k := fun k hk => by
  obtain ⟨r, hr⟩ := wr_le k
  exact read_of h k hk (wr k) r hr (nok_lt_r h k hk)
theorem same_reads {l : List UInt8} (h : IsNode l) : ∀ k, k < 17 → nI (readR l) k = nI (readN l) k := fun k hk => by
  have h1 := readR_of h.1 k hk
  rw [h.2] at h1
  exact h1
theorem isNode_iff (l : List UInt8) : IsNodeR l ↔ IsNode l := by
  constructor
  · intro h
    have e : ∀ k, k < 17 → nI (readN l) k = nI (readR l) k := fun k hk => by
      have h1 := readN_of h.1 k hk
      rw [h.2] at h1
      exact h1
    exact ⟨(nok_congr e).2 h.1, (nodeOf_congr e).trans h.2⟩
  · intro h
    have e := same_reads h
    exact ⟨(nok_congr e).2 h.1, (nodeOf_congr e).trans h.2⟩
theorem isNode_of {f : Nat → Int} (h : NOk f) : IsNode (nodeOf f) := by
  have e := readN_of h
  exact ⟨(nok_congr e).2 h, nodeOf_congr e⟩
end Go.Proofs.Ytefmihbjboacdaa.NodeLay
