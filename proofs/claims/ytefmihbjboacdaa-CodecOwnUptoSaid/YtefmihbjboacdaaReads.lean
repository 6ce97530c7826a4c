/- What comes in, read: lists of bytes, lists of lists of bytes. -/
import Derived.Test.YtefmihbjboacdaaStructs
import Derived.Test.YtefmihbjboacdaaCrc
namespace Go.Proofs.Ytefmihbjboacdaa.Reads
open Go.ChangeShapes Go.WideShapes Go.Deep Go.RowKit
open Go.Proofs.Ytefmihbjboacdaa.Crc Go.Proofs.Ytefmihbjboacdaa.Kit
set_option linter.unusedVariables false

/-- a byte as a cell; bytes as cells -/
def bv (y : UInt8) : Value := .int .u8 (v8 y)
def bvs (l : List UInt8) : Array Value := (l.map bv).toArray
theorem bvs_get (l : List UInt8) (i : Nat) (h : i < l.length) : (bvs l)[i]? = some (.int .u8 (v8 l[i])) := by
  unfold bvs
  simp [List.getElem?_eq_getElem h, bv]
/-- these bytes lie from A on -/
def Bytes (w : World) (A : Option Addr) (l : List UInt8) : Prop := ∀ i (h : i < l.length), ∃ ad, A = some ad ∧ w.cell? (ad.add i) = some (.int .u8 (v8 l[i]))
theorem Bytes.below {w w' : World} {A : Option Addr} {l : List UInt8} (h : Bytes w A l) (hb : Below w.heap.size w w') : Bytes w' A l := fun i hi => by
  obtain ⟨ad, e, hc⟩ := h i hi
  exact ⟨ad, e, (hb.cell (World.block_lt_of_cell? w _ hc)).trans hc⟩
theorem Bytes.nil (w : World) (A : Option Addr) : Bytes w A [] := fun i hi => absurd hi (Nat.not_lt_zero i)
theorem add_block (b i : Nat) : (⟨b, 0, none⟩ : Addr).add i = ⟨b, i, none⟩ := by
  unfold Addr.add
  by_cases h : i = 0
  · simp [h]
  · simp [h]
theorem Bytes.own {w : World} {B : Nat} {t : TypeId} {l r : List UInt8} (h : Blk w B (bvs (l ++ r)) t) : Bytes w (some ⟨B, 0, none⟩) l := fun i hi => by
  refine ⟨_, rfl, ?_⟩
  rw [add_block, h.cell, bvs_get _ _ (by simp; omega)]
  rw [List.getElem_append_left hi]
theorem Bytes.own' {w : World} {B : Nat} {t : TypeId} {l : List UInt8} (h : Blk w B (bvs l) t) : Bytes w (some ⟨B, 0, none⟩) l := Bytes.own (r := []) (by simpa using h)

theorem weights_all {H : Type} {P : Program} {e : TypeId} : ∀ {l : List (DataW H)} {x : DataW H}, x ∈ l → ∀ n ∈ x.weights P e, n ∈ DataW.weightsAll P e l
  | y :: r, x, hx, n, hn => by
    simp only [DataW.weightsAll, List.mem_append]
    rcases List.mem_cons.1 hx with rfl | h
    · exact .inl hn
    · exact .inr (weights_all h n hn)

section
variable {H : Type} {enc : TypeId × Value → H} {P : Program} {w : World}
theorem bytes_read {t e : TypeId} {fuel : Nat} {cs : List Value} {x : DataW H × List MemPlace} (ht : P.underlying t = some (.slice e)) (he : P.underlying e = some (.int .u8)) (hc : P.cellsOf e = 1) (hB : P.bytesOf e = 1)
    (h : DataW.trod enc P w 0 (fun _ => true) true fuel t cs = some x) (hw : ∀ n ∈ x.1.weights P t, n ≤ reachBytes) :
    ∃ A c l, cs = [.slice A l.length c] ∧ l.length ≤ c ∧ c ≤ 140737488351232 ∧ Bytes w A l := by
  rcases open_ints ht he hc h with ⟨hcs, _⟩ | ⟨a, len, cap, zs, hcs, _, hl, hm, hz, hx, hcell, hwz⟩
  · exact ⟨none, 0, [], hcs, Nat.le_refl _, by omega, Bytes.nil _ _⟩
  · have hz' : zs.length = cap := by simpa using hz
    subst hx
    have hcap : cap ≤ 140737488351232 := by
      have h1 := hw ((lits (H := H) .u8 (zs.take len)).length + (lits (H := H) .u8 (zs.drop len)).length) (by
        simp only [DataW.weights, ht, hB, Nat.mul_one]
        exact List.mem_cons_self ..)
      have h2 : (lits (H := H) .u8 (zs.take len)).length + (lits (H := H) .u8 (zs.drop len)).length = zs.length := by
        simp [lits]
        omega
      rw [h2, hz'] at h1
      exact h1
    have hlen : ((zs.take len).map fun n => UInt8.ofNat n.toNat).length = len := by simp; omega
    refine ⟨some a, cap, (zs.take len).map fun n => UInt8.ofNat n.toNat, by rw [hlen]; exact hcs, by rw [hlen]; exact hl, hcap, fun i hi => ⟨a, rfl, ?_⟩⟩
    rw [hlen] at hi
    rw [hcell i (by omega)]
    have hi2 : i < zs.length := by omega
    have hwf := hwz zs[i] (List.getElem_mem hi2)
    have hb : 0 ≤ zs[i] ∧ zs[i] ≤ 255 := by simpa [Lit.wf, IntKind.min, IntKind.max, IntKind.signed, IntKind.bits] using hwf
    simp only [List.getElem_map, List.getElem_take]
    rw [v8_mk _ hb.1 (by omega)]
    simp [List.getD, hi2]

/-- the cells of a list of lists of bytes -/
def Lists (w : World) (A : Option Addr) (n : Nat) : Prop :=
  ∀ i, i < n → ∃ ad Ai ci li, A = some ad ∧ w.cell? (ad.add i) = some (.slice Ai li.length ci) ∧ li.length ≤ ci ∧ ci ≤ 140737488351232 ∧ Bytes w Ai li
theorem lists_read {t s e : TypeId} {v : Value} {d : DataW H} {p : List MemPlace} (ht : P.underlying t = some (.slice s)) (hs : P.underlying s = some (.slice e)) (he : P.underlying e = some (.int .u8)) (hcs1 : P.cellsOf s = 1) (hB1 : P.bytesOf s = 24)
    (hc : P.cellsOf e = 1) (hB : P.bytesOf e = 1) {r : Reach} {b0 : Nat} (hv : Value.okWide P w r b0 t v) (h : DataW.Trod enc P w 0 (fun _ => true) true t v d p) (hw : ∀ n ∈ d.weights P t, n ≤ reachBytes) :
    ∃ A n c, v = .slice A n c ∧ n * 24 ≤ 140737488351232 ∧ Lists w A n := by
  obtain ⟨A, n, c, rfl⟩ := okWide_slice ht hv
  obtain ⟨fuel, hf⟩ := h
  rcases open_slice ht hf with ⟨hcs, _⟩ | ⟨a, len, cap, m, n', D, Pl, hcs, _, hl, hm, hmm, hx, hi⟩
  · simp [Value.cells] at hcs
    obtain ⟨rfl, rfl, rfl⟩ := hcs
    exact ⟨none, 0, 0, rfl, by omega, fun i h => absurd h (Nat.not_lt_zero i)⟩
  · simp [Value.cells] at hcs
    obtain ⟨rfl, rfl, rfl⟩ := hcs
    simp at hmm
    subst hmm
    simp only [Prod.mk.injEq] at hx
    obtain ⟨rfl, _⟩ := hx
    refine ⟨some a, n, _, rfl, ?_, fun i hlt => ?_⟩
    · have h1 := hw ((((List.range n).map D).length + ((List.range (m - n)).map fun j => D (n + j)).length) * 24) (by
        simp only [DataW.weights, ht, hB1]
        exact List.mem_cons_self ..)
      simp only [List.length_map, List.length_range] at h1
      have h2 : n * 24 ≤ (n + (m - n)) * 24 := Nat.mul_le_mul_right _ (by omega)
      exact Nat.le_trans h2 h1
    · obtain ⟨cs', hcell, htr⟩ := hi i (by omega)
      rw [hcs1] at hcell
      have hwi : ∀ k ∈ (D i).weights P s, k ≤ reachBytes := fun k hk => hw k (by
        simp only [DataW.weights, ht]
        refine List.mem_cons_of_mem _ (List.mem_append_left _ (weights_all (x := D i) ?_ k hk))
        exact List.mem_map.2 ⟨i, List.mem_range.2 hlt, rfl⟩)
      obtain ⟨Ai, ci, li, rfl, hle, hci, hby⟩ := bytes_read hs he hc hB htr hwi
      obtain ⟨_, hcl, hat⟩ := World.cells?_some hcell
      have h0 := hat 0 (by omega)
      refine ⟨a, Ai, ci, li, rfl, ?_, hle, hci, hby⟩
      simpa [Addr.add] using h0
end
end Go.Proofs.Ytefmihbjboacdaa.Reads
