/- What is encoded is decoded to the same value: a node, an entry, a superblock. -/
import Derived.Test.YtefmihbjboacdaaForms
namespace Go.Proofs.Ytefmihbjboacdaa.Back
open Go.ChangeShapes Go.WideShapes Go.ChangeAt Go.RowKit
open Go.Proofs.Ytefmihbjboacdaa.Kit Go.Proofs.Ytefmihbjboacdaa.Crc Go.Proofs.Ytefmihbjboacdaa.Reads Go.Proofs.Ytefmihbjboacdaa.Copy Go.Proofs.Ytefmihbjboacdaa.Lay Go.Proofs.Ytefmihbjboacdaa.Plan Go.Proofs.Ytefmihbjboacdaa.Writer Go.Proofs.Ytefmihbjboacdaa.Lists Go.Proofs.Ytefmihbjboacdaa.NodeLay Go.Proofs.Ytefmihbjboacdaa.EntryEnc Go.Proofs.Ytefmihbjboacdaa.EntryDec Go.Proofs.Ytefmihbjboacdaa.SuperEnc Go.Proofs.Ytefmihbjboacdaa.SuperDec Go.Proofs.Ytefmihbjboacdaa.Equal
set_option linter.unusedVariables false

theorem node_back (f : Nat → Int) (A : Option Addr) (w : World) (h : NOk f) (H : Hid (Bytes w A (nodeOf f))) : Calls Try.prog 28 #[.slice A 128 128] w (NodesBoth.DecBoth f 0 w) := by
  refine (NodeDecAll.dec_full A 128 (nodeOf f) w (nodeOf_length f) (by decide) (by decide) H).mono ?_
  rintro e' w' ⟨rfl, hb⟩
  exact ⟨by rw [NodeDecAll.nodeDec_yes (nodeOf_length f) (isNode_of h), ncs_congr (readN_of h)], hb⟩
theorem text_bytes (s : ByteArray) : text s.data.toList = s := by
  unfold text
  cases s
  simp
theorem entry_fields (n k : Nat) (s : List UInt8) (hn : n < 256 ^ 4) (hk : k < 256) (hs : s.length ≤ 54) :
    fieldAt (entryBytes n k s) 0 4 = n ∧ fieldAt (entryBytes n k s) 4 1 = k ∧ fieldAt (entryBytes n k s) 5 1 = s.length ∧ nameOf (entryBytes n k s) = s := by
  have hl : (put (zs 64) 0 (L4 n k s)).length = 64 := EntryEnc.put_zs _ (by rw [L4_length]; omega)
  have e : ∀ p m, p + m + 4 ≤ 64 → ((entryBytes n k s).drop p).take m = ((L4 n k s ++ (zs 64).drop (L4 n k s).length).drop p).take m := fun p m h => by
    unfold entryBytes
    rw [field_sealed (by rw [hl]; exact h), put_zero]
  have h5 : fieldAt (entryBytes n k s) 5 1 = s.length := by
    unfold fieldAt
    rw [e 5 1 (by decide)]
    have h : L4 n k s ++ (zs 64).drop (L4 n k s).length = L2 n k ++ leN 1 s.length ++ (s ++ (zs 64).drop (L4 n k s).length) := by
      unfold L4 L3
      simp only [List.append_assoc]
    rw [h]
    exact field_mid (L2_length n k).symm (by omega)
  refine ⟨?_, ?_, h5, ?_⟩
  · unfold fieldAt
    rw [e 0 4 (by decide)]
    have h : L4 n k s ++ (zs 64).drop (L4 n k s).length = [] ++ leN 4 n ++ (leN 1 k ++ leN 1 s.length ++ s ++ (zs 64).drop (L4 n k s).length) := by
      unfold L4 L3 L2 L1
      simp only [List.append_assoc, List.nil_append]
    rw [h]
    exact field_mid rfl hn
  · unfold fieldAt
    rw [e 4 1 (by decide)]
    have h : L4 n k s ++ (zs 64).drop (L4 n k s).length = L1 n ++ leN 1 k ++ (leN 1 s.length ++ s ++ (zs 64).drop (L4 n k s).length) := by
      unfold L4 L3 L2
      simp only [List.append_assoc]
    rw [h]
    exact field_mid (L1_length n).symm (by omega)
  · unfold nameOf
    rw [h5, e 6 s.length (by omega)]
    unfold L4
    rw [List.append_assoc, List.drop_left' (L3_length n k s.length), List.take_left' rfl]
theorem entry_back (n k : Int) (s : ByteArray) (A : Option Addr) (w : World) (h : EFits n k s) (H : Hid (Bytes w A (entryOf n k s))) : Calls Try.prog 34 #[.slice A 64 64] w (EntriesBoth.DecBoth (n, k, s) 0 w) := by
  have hok : EOk n k s := .inr h
  have hz : ¬ EZero n k s := fun e => by have := h.1; have := e.1; omega
  have hsz := size_of_ok h.2.2.2.2
  have hlen : s.data.toList.length = s.size := Array.length_toList
  have he : entryOf n k s = entryBytes n.toNat k.toNat s.data.toList := if_neg hz
  have hb := eok_bounds hok
  obtain ⟨f1, f2, f3, f4⟩ := entry_fields n.toNat k.toNat s.data.toList (by omega) (by omega) (by omega)
  rw [← he] at f1 f2 f3 f4
  have g1 : ((fieldAt (entryOf n k s) 0 4 : Nat) : Int) = n := by rw [f1]; omega
  have g2 : ((fieldAt (entryOf n k s) 4 1 : Nat) : Int) = k := by rw [f2]; omega
  have g4 : text (nameOf (entryOf n k s)) = s := by rw [f4, text_bytes]
  have hs : IsEntry (entryOf n k s) := by
    refine ⟨by rw [f3]; omega, ?_, ?_⟩
    · rw [g1, g2, g4]; exact hok
    · rw [g1, g2, g4]
  refine (EntryDec.dec_full A 64 (entryOf n k s) w (entryOf_length hok) (by decide) (by decide) H).mono ?_
  rintro e' w' ⟨rfl, hbb⟩
  refine ⟨?_, hbb⟩
  rw [entryDec_yes (entryOf_length hok) hs, g1, g2, g4]
  rfl
theorem super_back (a b c : Nat) (A : Option Addr) (w : World) (h : Fits a b c) (H : Hid (Bytes w A (superBytes a b c))) : Calls Try.prog 23 #[.slice A 512 512] w (SupersBoth.DecBoth a b c 0 w) := by
  have hE : E a b c 3 = put (zs 512) 0 (magic ++ leN 4 a ++ leN 4 b ++ leN 4 c) := by
    show put (put (put (put zeros512 0 magic) 8 (leN 4 a)) 12 (leN 4 b)) 16 (leN 4 c) = _
    have hm : magic.length = 8 := rfl
    have hz : zeros512.length = 512 := zeros512_length
    have s1 : put (put zeros512 0 magic) 8 (leN 4 a) = put zeros512 0 (magic ++ leN 4 a) := put_put (by rw [hm]) (by rw [hz, leN_length]; decide)
    have s2 : put (put zeros512 0 (magic ++ leN 4 a)) 12 (leN 4 b) = put zeros512 0 (magic ++ leN 4 a ++ leN 4 b) := put_put (by rw [List.length_append, hm, leN_length]) (by rw [hz, leN_length]; decide)
    have s3 : put (put zeros512 0 (magic ++ leN 4 a ++ leN 4 b)) 16 (leN 4 c) = put zeros512 0 (magic ++ leN 4 a ++ leN 4 b ++ leN 4 c) := put_put (by rw [List.length_append, List.length_append, hm, leN_length, leN_length]) (by rw [hz, leN_length]; decide)
    rw [s1, s2, s3]
    rfl
  obtain ⟨h1, h2, h3, h4, h5, h6, h7⟩ := h
  have e : ∀ p m, p + m + 4 ≤ 512 → ((superBytes a b c).drop p).take m = ((magic ++ leN 4 a ++ leN 4 b ++ leN 4 c ++ (zs 512).drop (magic ++ leN 4 a ++ leN 4 b ++ leN 4 c).length).drop p).take m := fun p m h => by
    unfold superBytes
    rw [field_sealed (by rw [E_length]; exact h), hE, put_zero]
  have f1 : fieldAt (superBytes a b c) 8 4 = a := by
    unfold fieldAt
    rw [e 8 4 (by decide)]
    have h : magic ++ leN 4 a ++ leN 4 b ++ leN 4 c ++ (zs 512).drop (magic ++ leN 4 a ++ leN 4 b ++ leN 4 c).length = magic ++ leN 4 a ++ (leN 4 b ++ leN 4 c ++ (zs 512).drop (magic ++ leN 4 a ++ leN 4 b ++ leN 4 c).length) := by simp only [List.append_assoc]
    rw [h]
    exact field_mid rfl (by omega)
  have f2 : fieldAt (superBytes a b c) 12 4 = b := by
    unfold fieldAt
    rw [e 12 4 (by decide)]
    have h : magic ++ leN 4 a ++ leN 4 b ++ leN 4 c ++ (zs 512).drop (magic ++ leN 4 a ++ leN 4 b ++ leN 4 c).length = (magic ++ leN 4 a) ++ leN 4 b ++ (leN 4 c ++ (zs 512).drop (magic ++ leN 4 a ++ leN 4 b ++ leN 4 c).length) := by simp only [List.append_assoc]
    rw [h]
    exact field_mid (by rw [List.length_append, leN_length]; rfl) (by omega)
  have f3 : fieldAt (superBytes a b c) 16 4 = c := by
    unfold fieldAt
    rw [e 16 4 (by decide)]
    exact field_mid (by rw [List.length_append, List.length_append, leN_length, leN_length]; rfl) (by omega)
  have hs : IsSuper (superBytes a b c) := by
    unfold IsSuper
    rw [f1, f2, f3]
    exact ⟨⟨h1, h2, h3, h4, h5, h6, h7⟩, rfl⟩
  refine (SuperDec.dec_full A 512 (superBytes a b c) w (superBytes_length a b c) (by decide) (by decide) H).mono ?_
  rintro e' w' ⟨rfl, hb⟩
  exact ⟨by rw [decoded_yes (superBytes_length a b c) hs, f1, f2, f3], hb⟩
end Go.Proofs.Ytefmihbjboacdaa.Back
