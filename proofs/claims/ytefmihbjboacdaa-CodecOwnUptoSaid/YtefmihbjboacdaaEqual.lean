/- bytes.Equal: whether two lists of bytes are the same; bytes as a text. -/
import Derived.Test.YtefmihbjboacdaaCopy
import Derived.Laws.BytesArg
import Derived.Laws.Strings
namespace Go.Proofs.Ytefmihbjboacdaa.Equal
open Go.ChangeShapes Go.WideShapes Go.ChangeAt Go.RowKit
open Go.Proofs.Ytefmihbjboacdaa.Kit Go.Proofs.Ytefmihbjboacdaa.Crc Go.Proofs.Ytefmihbjboacdaa.Reads Go.Proofs.Ytefmihbjboacdaa.Copy
set_option linter.unusedVariables false

/-- bytes as a text -/
def text (l : List UInt8) : ByteArray := ⟨l.toArray⟩
theorem text_inj {a b : List UInt8} (h : text a = text b) : a = b := by
  have h1 : (text a).data.toList = (text b).data.toList := by rw [h]
  simpa [text] using h1
theorem nums_text (l : List UInt8) : strOfNums (l.map v8) = text l := by
  unfold strOfNums text
  rw [List.map_map]
  congr 2
  conv => rhs; rw [← List.map_id l]
  congr 1
  funext y
  simp [v8]
theorem string_bytes {P : Program} {w : World} {src dst e : TypeId} {A : Option Addr} {c : Nat} {l : List UInt8} (hs : P.underlying src = some (.slice e)) (he : P.underlying e = some (.int .u8)) (hd : P.underlying dst = some .string)
    (h : Bytes w A l) : (convert src dst (.slice A l.length c)).run P w = .ok (.string (text l)) w := by
  by_cases h0 : l.length = 0
  · obtain rfl := List.eq_nil_of_length_eq_zero h0
    rw [run_convert_bytes_string w src dst e _ _ c hs he hd]
    cases A with
    | none => simp [Conv.bytesToString]; rfl
    | some a =>
      have := run_bytesToString (P := P) w a 0 c [] (by simpa using run_loadCells_list (P := P) w a [] (by simp))
      rw [List.length_nil, this]
      rfl
  · obtain ⟨ad, rfl, hsrc⟩ := bytes_src h (by rw [List.length_map]; omega)
    have hl : (loadCells ad l.length).run P w = .ok ((l.map v8).map (Value.int .u8)).toArray w := by
      have := run_loadCells_list (P := P) w ad ((l.map v8).map (Value.int .u8)) (by rw [List.map_map]; exact hsrc)
      simpa using this
    rw [run_convert_bytes_string w src dst e _ _ c hs he hd, run_bytesToString w _ _ c (l.map v8) hl, foldl_push_bytes]
    rw [← nums_text]
    simp [strOfNums, ByteArray.empty, ByteArray.emptyWithCapacity]
    rfl

set_option maxRecDepth 100000 in
set_option maxHeartbeats 1600000 in
theorem equal_any (A A' : Option Addr) (n n' c c' : Nat) (l l' : List UInt8) (w : World) (hn : l.length = n) (hn' : l'.length = n') (H : Hid (Bytes w A l)) (H' : Hid (Bytes w A' l')) :
    Calls Try.prog 51 #[.slice A n c, .slice A' n' c'] w fun e w' => e = .returned (.bool (decide (l = l'))) ∧ w = w' := by
  subst hn hn'
  have h1 := string_bytes (P := Try.prog) (src := 34) (dst := 9) (c := c) Try.underlying34 Try.underlying5 Try.underlying9 H.out
  have h2 := string_bytes (P := Try.prog) (src := 34) (dst := 9) (c := c') Try.underlying34 Try.underlying5 Try.underlying9 H'.out
  have h3 : ((text l).toList == (text l').toList) = decide (l = l') := by
    rw [ByteArray.toList_eq, ByteArray.toList_eq]
    show (l == l') = decide (l = l')
    rw [Bool.eq_iff_iff]
    simp
  generalize text l = t at *
  generalize text l' = t' at *
  go_enter Try.func51, Try.ntmps51
  go_wp2_with fail
  go_ret
  exact ⟨rfl, rfl⟩
end Go.Proofs.Ytefmihbjboacdaa.Equal
