/- strings.Builder: copyCheck, WriteByte, WriteString at a builder of the call's own: the shelf's contracts, laid by hand (the shelf's own command does not find .. Words of a line, byte by byte: plain. The document's words of a line: its reader's walk. -/
import Derived.Test.YtcdhkeahcliefaaGreatDoorPrint01
import Derived.Test.YtcdhkeahcliefaaGreatDoorPrint04
import Derived.Test.YtcdhkeahcliefaaGreatDoorPrint02
import Derived.Deep.CutBlock
import Derived.Deep.DeepCutAuto
/- strings.Builder: copyCheck, WriteByte, WriteString at a builder of the call's own: the shelf's contracts, laid by hand (the shelf's own command does not find the numbers of two types that no body names). -/
namespace Go.Proofs.YtcdhkeahcliefaaGreatDoor.Bld
open Go.ChangeShapes Go.WideShapes Go.ChangeAt Go.RowKit Go.Shelf
open Go.Proofs.YtcdhkeahcliefaaGreatDoor.Kit
set_option linter.unusedVariables false

def ren : Go.Shelf.Ren := ⟨fun | 240 => 49 | 276 => 66 | 167 => 27 | 166 => 29 | n => n, fun | 37 => 60 | 70 => 82 | 72 => 84 | 75 => 86 | 80 => 92 | 164 => 127 | n => n, fun | n => n⟩
theorem lays240 : Go.Proofs.Lays.n240 Tryz.prog ren := {
  mixed := by kernel_rfl
  f240 := Tryz.func49.trans (congrArg some (by kernel_rfl))
  f276 := Tryz.func66.trans (congrArg some (by kernel_rfl))
  t0 := Tryz.underlying0
  a0 := Tryz.isAgg0
  z0 := Tryz.sizeOf0
  v0 := Tryz.zeroValue0
  t4 := Tryz.underlying4
  a4 := Tryz.isAgg4
  z4 := Tryz.sizeOf4
  v4 := Tryz.zeroValue4
  t9 := Tryz.underlying9
  a9 := Tryz.isAgg9
  z9 := Tryz.sizeOf9
  v9 := Tryz.zeroValue9
  t20 := Tryz.underlying20
  a20 := Tryz.isAgg20
  z20 := Tryz.sizeOf20
  v20 := Tryz.zeroValue20
  t70 := Tryz.underlying82
  a70 := Tryz.isAgg82
  z70 := Tryz.sizeOf82
  v70 := Tryz.zeroValue82
  t72 := Tryz.underlying84
  a72 := Tryz.isAgg84
  z72 := Tryz.sizeOf84
  v72 := Tryz.zeroValue84
  t164 := Tryz.underlying127
  a164 := Tryz.isAgg127
  z164 := Tryz.sizeOf127
  v164 := Tryz.zeroValue127 }
theorem lays167 : Go.Proofs.Lays.n167 Tryz.prog ren := {
  mixed := by kernel_rfl
  f167 := Tryz.func27.trans (congrArg some (by kernel_rfl))
  f240 := Tryz.func49.trans (congrArg some (by kernel_rfl))
  f276 := Tryz.func66.trans (congrArg some (by kernel_rfl))
  t0 := Tryz.underlying0
  a0 := Tryz.isAgg0
  z0 := Tryz.sizeOf0
  v0 := Tryz.zeroValue0
  t4 := Tryz.underlying4
  a4 := Tryz.isAgg4
  z4 := Tryz.sizeOf4
  v4 := Tryz.zeroValue4
  t5 := Tryz.underlying5
  a5 := Tryz.isAgg5
  z5 := Tryz.sizeOf5
  v5 := Tryz.zeroValue5
  t9 := Tryz.underlying9
  a9 := Tryz.isAgg9
  z9 := Tryz.sizeOf9
  v9 := Tryz.zeroValue9
  t20 := Tryz.underlying20
  a20 := Tryz.isAgg20
  z20 := Tryz.sizeOf20
  v20 := Tryz.zeroValue20
  t37 := Tryz.underlying60
  a37 := Tryz.isAgg60
  z37 := Tryz.sizeOf60
  v37 := Tryz.zeroValue60
  t70 := Tryz.underlying82
  a70 := Tryz.isAgg82
  z70 := Tryz.sizeOf82
  v70 := Tryz.zeroValue82
  t72 := Tryz.underlying84
  a72 := Tryz.isAgg84
  z72 := Tryz.sizeOf84
  v72 := Tryz.zeroValue84
  t75 := Tryz.underlying86
  a75 := Tryz.isAgg86
  z75 := Tryz.sizeOf86
  v75 := Tryz.zeroValue86
  t164 := Tryz.underlying127
  a164 := Tryz.isAgg127
  z164 := Tryz.sizeOf127
  v164 := Tryz.zeroValue127 }
theorem lays166 : Go.Proofs.Lays.n166 Tryz.prog ren := {
  mixed := by kernel_rfl
  f166 := Tryz.func29.trans (congrArg some (by kernel_rfl))
  f240 := Tryz.func49.trans (congrArg some (by kernel_rfl))
  f276 := Tryz.func66.trans (congrArg some (by kernel_rfl))
  t0 := Tryz.underlying0
  a0 := Tryz.isAgg0
  z0 := Tryz.sizeOf0
  v0 := Tryz.zeroValue0
  t3 := Tryz.underlying3
  a3 := Tryz.isAgg3
  z3 := Tryz.sizeOf3
  v3 := Tryz.zeroValue3
  t4 := Tryz.underlying4
  a4 := Tryz.isAgg4
  z4 := Tryz.sizeOf4
  v4 := Tryz.zeroValue4
  t9 := Tryz.underlying9
  a9 := Tryz.isAgg9
  z9 := Tryz.sizeOf9
  v9 := Tryz.zeroValue9
  t20 := Tryz.underlying20
  a20 := Tryz.isAgg20
  z20 := Tryz.sizeOf20
  v20 := Tryz.zeroValue20
  t37 := Tryz.underlying60
  a37 := Tryz.isAgg60
  z37 := Tryz.sizeOf60
  v37 := Tryz.zeroValue60
  t70 := Tryz.underlying82
  a70 := Tryz.isAgg82
  z70 := Tryz.sizeOf82
  v70 := Tryz.zeroValue82
  t72 := Tryz.underlying84
  a72 := Tryz.isAgg84
  z72 := Tryz.sizeOf84
  v72 := Tryz.zeroValue84
  t75 := Tryz.underlying86
  a75 := Tryz.isAgg86
  z75 := Tryz.sizeOf86
  v75 := Tryz.zeroValue86
  t164 := Tryz.underlying127
  a164 := Tryz.isAgg127
  z164 := Tryz.sizeOf127
  v164 := Tryz.zeroValue127 }
theorem extra : Builder.Extra Tryz.prog ren := {
  sizeBuilder := by kernel_rfl
  liesBuilder := by kernel_rfl
  t5 := Tryz.underlying5
  a5 := Tryz.isAgg5
  z5 := Tryz.sizeOf5
  v5 := Tryz.zeroValue5
  infoByte := by kernel_rfl
  cellsByte := by kernel_rfl
  sizeByte := by kernel_rfl
  neB5 := by decide }
/-- the builder at block b of the call's own memory holds the bytes l -/
def Bd (B b : Nat) (l : List UInt8) (w : World) : Prop := Lib.IsBuilder 84 5 B b (Lib.byteCells l) w
theorem byteCells_append (l r : List UInt8) : Lib.byteCells (l ++ r) = Lib.byteCells l ++ Lib.byteCells r := by
  unfold Lib.byteCells
  rw [List.map_append]
theorem byteCells_length (l : List UInt8) : (Lib.byteCells l).length = l.length := by
  unfold Lib.byteCells
  rw [List.length_map]
theorem writeByte (B b : Nat) (l : List UInt8) (c : UInt8) (w : World) (h : Hid (Bd B b l w)) (hlen : l.length + 1 ≤ 140737488355328) (hB : B ≤ w.heap.size) :
    Calls Tryz.prog 27 #[.pointer (some ⟨b, 0, none⟩), .int .u8 (c.toNat : Int)] w fun e w' => e = .returned .nilIface ∧ Hid (Bd B b (l ++ [c]) w' ∧ Below B w w') := by
  refine (Any.Builder_WriteByte lays167 extra B b (Lib.byteCells l) c.toNat w h.out (by rw [byteCells_length]; exact hlen) hB).mono ?_
  rintro e w' ⟨rfl, h1, h2⟩
  refine ⟨rfl, .inr ?_, h2⟩
  rw [byteCells_append]
  exact h1
theorem writeString (B b : Nat) (l : List UInt8) (s : ByteArray) (w : World) (h : Hid (Bd B b l w)) (hlen : l.length + s.size ≤ 140737488355328) (hB : B ≤ w.heap.size) :
    Calls Tryz.prog 29 #[.pointer (some ⟨b, 0, none⟩), .string s] w fun e w' => e = .returned (.tuple #[.int .i64 s.size, .nilIface]) ∧ Hid (Bd B b (l ++ s.data.toList) w' ∧ Below B w w') := by
  refine (Any.Builder_WriteString lays166 extra B b (Lib.byteCells l) s w h.out (by rw [byteCells_length]; exact hlen) hB).mono ?_
  rintro e w' ⟨rfl, h1, h2⟩
  refine ⟨rfl, .inr ?_, h2⟩
  rw [byteCells_append]
  exact h1
theorem string_any (B b : Nat) (l : List UInt8) (w : World) (h : Hid (Bd B b l w)) (hB : B ≤ w.heap.size) :
    Calls Tryz.prog 30 #[.pointer (some ⟨b, 0, none⟩)] w fun e w' => e = .returned (.string ⟨l.toArray⟩) ∧ Hid (Below B w w') := by
  refine (Tryz.Builder_String_any B b l w h.out hB).mono ?_
  rintro e w' ⟨rfl, h2⟩
  exact ⟨rfl, h2⟩
end Go.Proofs.YtcdhkeahcliefaaGreatDoor.Bld
/- Words of a line, byte by byte: plain. -/
namespace Go.Proofs.YtcdhkeahcliefaaGreatDoor.Lex
open Go.ChangeShapes Go.WideShapes Go.ChangeAt Go.RowKit
open Go.Proofs.YtcdhkeahcliefaaGreatDoor.Kit Go.Proofs.YtcdhkeahcliefaaGreatDoor.Base Go.Proofs.YtcdhkeahcliefaaGreatDoor.Bld
set_option linter.unusedVariables false

/-- a reader of a line -/
structure Lx where
  (pos : Nat) (word : List UInt8) (words : List (List UInt8)) (dig : Int) (bad : Bool)
def isBlank (c : Nat) : Bool := c == 32 || c == 9
def isBarred (c : Nat) : Bool := decide (c < 32) || c == 127
def hexv (c : Nat) : Int := if 48 ≤ c ∧ c ≤ 57 then (c : Int) - 48 else if 97 ≤ c ∧ c ≤ 102 then (c : Int) - 97 + 10 else if 65 ≤ c ∧ c ≤ 70 then (c : Int) - 65 + 10 else -1
def plainS (s : Lx) (c : UInt8) : Lx := { s with word := s.word ++ [c], bad := s.bad || (isBarred c.toNat || c.toNat == 34 || c.toNat == 92) }
def endsS (s : Lx) : Lx := { s with words := s.words ++ [s.word], word := [] }
def firstS (s : Lx) (c : UInt8) : Lx := if isBlank c.toNat then { s with pos := 0 } else if c.toNat = 35 then { s with pos := 7 } else if c.toNat = 34 then { s with pos := 2 } else plainS { s with pos := 1 } c
def insideS (s : Lx) (c : UInt8) : Lx := if c.toNat = 34 then { endsS s with pos := 6 } else if c.toNat = 92 then { s with pos := 3 } else if isBarred c.toNat then { s with bad := true } else { s with word := s.word ++ [c] }
def escapedS (s : Lx) (c : UInt8) : Lx := if c.toNat = 92 ∨ c.toNat = 34 then { s with pos := 2, word := s.word ++ [c] } else if c.toNat = 110 then { s with pos := 2, word := s.word ++ [10] } else if c.toNat = 116 then { s with pos := 2, word := s.word ++ [9] } else if c.toNat = 120 then { s with pos := 4 } else { s with pos := 2, bad := true }
def lowS (s : Lx) (c : UInt8) : Lx := if hexv c.toNat < 0 then { s with pos := 2, bad := true } else { s with pos := 2, word := s.word ++ [UInt8.ofNat (16 * s.dig + hexv c.toNat).toNat] }
def nextS (s : Lx) (c : UInt8) : Lx :=
  if s.pos = 0 then firstS s c
  else if s.pos = 1 then (if isBlank c.toNat then { endsS s with pos := 0 } else plainS s c)
  else if s.pos = 2 then insideS s c
  else if s.pos = 3 then escapedS s c
  else if s.pos = 4 then { s with dig := hexv c.toNat, pos := 5, bad := s.bad || decide (hexv c.toNat < 0) }
  else if s.pos = 5 then lowS s c
  else if s.pos = 6 then { s with pos := 0, bad := s.bad || !isBlank c.toNat }
  else s
def lx0 : Lx := ⟨0, [], [], 0, false⟩
/-- the reader behind some bytes; what is bad stays as it is -/
def runS (s : Lx) : List UInt8 → Lx
  | [] => s
  | c :: r => if s.bad then s else runS (nextS s c) r
theorem runS_bad {s : Lx} (h : s.bad = true) (l : List UInt8) : runS s l = s := by
  cases l with
  | nil => rfl
  | cons c r => show (if s.bad then s else _) = s; rw [if_pos h]
theorem runS_append (s : Lx) (l r : List UInt8) : runS s (l ++ r) = runS (runS s l) r := by
  induction l generalizing s with
  | nil => rfl
  | cons c l ih =>
    by_cases h : s.bad = true
    · rw [runS_bad h, runS_bad h, runS_bad h]
    · show (if s.bad then s else runS (nextS s c) (l ++ r)) = runS (if s.bad then s else runS (nextS s c) l) r
      rw [if_neg h, if_neg h]
      exact ih _
theorem runS_snoc {s : Lx} {l : List UInt8} {c : UInt8} (h : (runS s l).bad = false) : runS s (l ++ [c]) = nextS (runS s l) c := by
  rw [runS_append]
  show (if (runS s l).bad then _ else runS (nextS (runS s l) c) []) = _
  rw [if_neg (by rw [h]; simp)]
  rfl
/-- what the words are: of a line's bytes -/
def lexed (l : List UInt8) : Option (List (List UInt8)) :=
  let s := runS lx0 l
  let t := if s.pos = 1 then endsS s else s
  if t.bad ∨ t.pos = 2 ∨ t.pos = 3 ∨ t.pos = 4 ∨ t.pos = 5 then none else some t.words

/-- the sizes: each byte makes at most one byte more or one word more -/
def Small (s : Lx) (n : Nat) : Prop := s.word.length + s.words.length ≤ n ∧ (s.pos = 5 → s.bad = false → 0 ≤ s.dig ∧ s.dig ≤ 15)
theorem hexv_le (c : Nat) : hexv c ≤ 15 ∧ -1 ≤ hexv c := by
  unfold hexv
  split
  · omega
  · split
    · omega
    · split <;> omega
theorem small_plain {s : Lx} {n : Nat} {c : UInt8} (h : s.word.length + s.words.length ≤ n) (h5 : s.pos ≠ 5) : Small (plainS s c) (n + 1) := by
  refine ⟨?_, fun e => absurd e h5⟩
  show (s.word ++ [c]).length + s.words.length ≤ n + 1
  simp
  omega
theorem small_next {s : Lx} {n : Nat} {c : UInt8} (h : Small s n) : Small (nextS s c) (n + 1) := by
  have h0 := h.1
  have hw : ∀ y : UInt8, (s.word ++ [y]).length + s.words.length ≤ n + 1 := fun y => by simp; omega
  have he : (endsS s).word.length + (endsS s).words.length ≤ n + 1 := by
    show ([] : List UInt8).length + (s.words ++ [s.word]).length ≤ n + 1
    simp
    omega
  have hs : s.word.length + s.words.length ≤ n + 1 := by omega
  unfold nextS
  split
  · unfold firstS
    split
    · exact ⟨hs, fun e => by cases e⟩
    · split
      · exact ⟨hs, fun e => by cases e⟩
      · split
        · exact ⟨hs, fun e => by cases e⟩
        · exact small_plain (s := { s with pos := 1 }) h0 (show (1 : Nat) ≠ 5 from by decide)
  · split
    · split
      · exact ⟨he, fun e => by cases e⟩
      · exact small_plain h0 (by omega)
    · split
      · unfold insideS
        split
        · exact ⟨he, fun e => by cases e⟩
        · split
          · exact ⟨hs, fun e => by cases e⟩
          · split
            · exact ⟨hs, fun _ e => by cases e⟩
            · exact ⟨hw c, fun e => absurd e (by show s.pos ≠ 5; omega)⟩
      · split
        · unfold escapedS
          split
          · exact ⟨hw _, fun e => by cases e⟩
          · split
            · exact ⟨hw _, fun e => by cases e⟩
            · split
              · exact ⟨hw _, fun e => by cases e⟩
              · split
                · exact ⟨hs, fun e => by cases e⟩
                · exact ⟨hs, fun e => by cases e⟩
        · split
          · refine ⟨hs, fun _ hb => ?_⟩
            have hb2 : (s.bad || decide (hexv c.toNat < 0)) = false := hb
            rw [Bool.or_eq_false_iff] at hb2
            have := of_decide_eq_false hb2.2
            have := hexv_le c.toNat
            show 0 ≤ hexv c.toNat ∧ hexv c.toNat ≤ 15
            omega
          · split
            · unfold lowS
              split
              · exact ⟨hs, fun e => by cases e⟩
              · exact ⟨hw _, fun e => by cases e⟩
            · split
              · exact ⟨hs, fun e => by cases e⟩
              · exact ⟨hs, h.2⟩
theorem small_run (l : List UInt8) : Small (runS lx0 l) l.length := by
  have key : ∀ (s : Lx) (n : Nat) (l : List UInt8), Small s n → Small (runS s l) (n + l.length) := by
    intro s n l
    induction l generalizing s n with
    | nil => exact fun h => h
    | cons c l ih =>
      intro h
      by_cases hb : s.bad = true
      · rw [runS_bad hb]
        exact ⟨by have := h.1; simp; omega, h.2⟩
      · show Small (if s.bad then s else runS (nextS s c) l) _
        rw [if_neg hb]
        have := ih _ _ (small_next (c := c) h)
        rw [List.length_cons]
        rw [show n + (l.length + 1) = n + 1 + l.length from by omega]
        exact this
  have := key lx0 0 l ⟨Nat.le_refl _, fun e => by cases e⟩
  simpa using this
end Go.Proofs.YtcdhkeahcliefaaGreatDoor.Lex
/- The document's words of a line: its reader's walk. -/
namespace Go.Proofs.YtcdhkeahcliefaaGreatDoor.LexB
open Go.ChangeShapes Go.WideShapes Go.ChangeAt Go.RowKit
open Go.Proofs.YtcdhkeahcliefaaGreatDoor.Kit Go.Proofs.YtcdhkeahcliefaaGreatDoor.Base Go.Proofs.YtcdhkeahcliefaaGreatDoor.Bld Go.Proofs.YtcdhkeahcliefaaGreatDoor.Lex
set_option linter.unusedVariables false

def strs (l : List (List UInt8)) : List Value := l.map fun x => .string (str x)
/-- the document's reader at block P -/
def RdV (Z P : Nat) (w0 w : World) (s : Lx) (vw vs : Value) : Prop := Since Z w0 w ∧ Z ≤ P ∧ Blk w P #[.int .i64 s.pos, vw, vs, .int .i64 s.dig, .bool s.bad] 104 ∧ w.ownsRow Z 5 1 vw s.word.length (Lib.byteCells s.word) ∧ w.ownsRow Z 9 1 vs s.words.length (strs s.words)
def Rd (Z P : Nat) (w0 w : World) (s : Lx) : Prop := ∃ vw vs, RdV Z P w0 w s vw vs
def Sm (s : Lx) : Prop := s.word.length + s.words.length ≤ 1000000
theorem Sm.byte {s : Lx} (h : Hid (Sm s)) : (s.word.length + 1) * 1 ≤ 140737488355328 := by
  have := h.out
  unfold Sm at this
  omega
section
variable {Z P : Nat} {w0 w w' : World} {s : Lx} {vw vs : Value}
theorem RdV.setPos (h : RdV Z P w0 w s vw vs) (q : Nat) : RdV Z P w0 (w.setCell ⟨P, 0, none⟩ (.int .i64 q)) { s with pos := q } vw vs :=
  ⟨h.1.set h.2.1, h.2.1, h.2.2.1.put 0 _, owns_set h.2.2.2.1 h.2.2.1 (by decide), owns_set h.2.2.2.2 h.2.2.1 (by decide)⟩
theorem RdV.setBad (h : RdV Z P w0 w s vw vs) (q : Bool) : RdV Z P w0 (w.setCell ⟨P, 4, none⟩ (.bool q)) { s with bad := q } vw vs :=
  ⟨h.1.set h.2.1, h.2.1, h.2.2.1.put 4 _, owns_set h.2.2.2.1 h.2.2.1 (by decide), owns_set h.2.2.2.2 h.2.2.1 (by decide)⟩
theorem RdV.setDig (h : RdV Z P w0 w s vw vs) (q : Int) : RdV Z P w0 (w.setCell ⟨P, 3, none⟩ (.int .i64 q)) { s with dig := q } vw vs :=
  ⟨h.1.set h.2.1, h.2.1, h.2.2.1.put 3 _, owns_set h.2.2.2.1 h.2.2.1 (by decide), owns_set h.2.2.2.2 h.2.2.1 (by decide)⟩
theorem RdV.clear (h : RdV Z P w0 w s vw vs) : RdV Z P w0 (w.setCell ⟨P, 1, none⟩ (.slice none 0 0)) { s with word := [] } (.slice none 0 0) vs :=
  ⟨h.1.set h.2.1, h.2.1, h.2.2.1.put 1 _, ⟨rfl, .inl ⟨rfl, rfl⟩⟩, owns_set h.2.2.2.2 h.2.2.1 (by decide)⟩
theorem RdV.drew (h : RdV Z P w0 w s vw vs) : RdV Z P w0 w.drew s vw vs := ⟨h.1.drew, h.2⟩
theorem RdV.raw (h : Hid (RdV Z P w0 w s vw vs)) : Hid (Since Z w0 w ∧ w.ownsRow Z 5 1 vw s.word.length (Lib.byteCells s.word)) := ⟨h.out.1, h.out.2.2.2.1⟩
theorem RdV.raws (h : Hid (RdV Z P w0 w s vw vs)) : Hid (Since Z w0 w ∧ w.ownsRow Z 9 1 vs s.words.length (strs s.words)) := ⟨h.out.1, h.out.2.2.2.2⟩
/-- a byte more in the word -/
theorem RdV.push (h : RdV Z P w0 w s vw vs) (c : UInt8) {v' : Value} {xs : List Value} (hx : xs = [.int .u8 c.toNat]) (h7 : Since Z w0 w' ∧ w'.ownsRow Z 5 1 v' (s.word.length + 1) (Lib.byteCells s.word ++ xs)) (hk : Keeps 5 w w') :
    RdV Z P w0 (w'.setCell ⟨P, 1, none⟩ v') { s with word := s.word ++ [c] } v' vs := by
  have hb := hk.blk h.2.2.1 (by decide)
  refine ⟨h7.1.set h.2.1, h.2.1, hb.put 1 _, ?_, owns_set (hk.owns h.2.2.2.2 (by decide)) hb (by decide)⟩
  show World.ownsRow _ Z 5 1 v' (s.word ++ [c]).length (Lib.byteCells (s.word ++ [c]))
  rw [List.length_append, byteCells_append]
  subst hx
  exact owns_set h7.2 hb (by decide)
/-- a word more -/
theorem RdV.word (h : RdV Z P w0 w s vw vs) {v' : Value} {xs : List Value} (hx : xs = [.string (str s.word)]) (h7 : Since Z w0 w' ∧ w'.ownsRow Z 9 1 v' (s.words.length + 1) (strs s.words ++ xs)) (hk : Keeps 9 w w') :
    RdV Z P w0 (w'.setCell ⟨P, 2, none⟩ v') { s with words := s.words ++ [s.word] } vw v' := by
  have hb := hk.blk h.2.2.1 (by decide)
  refine ⟨h7.1.set h.2.1, h.2.1, hb.put 2 _, owns_set (hk.owns h.2.2.2.1 (by decide)) hb (by decide), ?_⟩
  show World.ownsRow _ Z 9 1 v' (s.words ++ [s.word]).length (strs (s.words ++ [s.word]))
  rw [List.length_append, show strs (s.words ++ [s.word]) = strs s.words ++ [.string (str s.word)] from by simp [strs]]
  subst hx
  exact owns_set h7.2 hb (by decide)
end

set_option maxRecDepth 100000 in
set_option maxHeartbeats 1600000 in
theorem ends_any (Z P : Nat) (w0 w : World) (s : Lx) (h : Hid (Rd Z P w0 w s)) (hs : Hid (Sm s)) :
    Calls Tryz.prog 39 #[.pointer (some ⟨P, 0, none⟩)] w fun e w' => e = .returned (.tuple #[]) ∧ Hid (Rd Z P w0 w' (endsS s)) := by
  obtain ⟨vw, vs, hv⟩ := h.out
  have HV := Lib.hid hv
  have c1 : w.cell? ⟨P, 1, none⟩ = some vw := (hv.2.2.1.cell 1).trans rfl
  have c2 : w.cell? ⟨P, 2, none⟩ = some vs := (hv.2.2.1.cell 2).trans rfl
  have hcv : (convert 60 9 vw).run Tryz.prog w.drew = .ok (.string (str s.word)) w.drew := str_own hv.drew.2.2.2.1
  have c2a : (w.alloc (.cells #[.string (str s.word)] 9)).cell? ⟨P, 2, none⟩ = some vs := ((hv.2.2.1.alloc _).cell 2).trans rfl
  clear hv h
  go_enter Tryz.func39, Tryz.ntmps39
  go_upto_region 0 with (fail)
  go_region_law (first | (refine step_keep (v := vs) el22 rfl (.tmp 6) (.tmp 12) rfl rfl (RdV.raws (Lib.hid HV.out.drew)) #[.string (str s.word)] 1 1 rfl (by decide) rfl (one_cell _ rfl) (by have := hs.out; unfold Sm at this; omega) ?_; intro A7 c7 w7 h7 hk7; have d2 : w7.cell? ⟨P, 2, none⟩ = some vs := ((hk7.out.blk HV.out.drew.2.2.1 (by decide)).cell 2).trans rfl; have f2 := (hk7.out.blk HV.out.drew.2.2.1 (by decide)).frozen 2))
  all_goals (
    have h8 : Hid (RdV Z P w0 (w7.setCell ⟨P, 2, none⟩ (.slice A7 (s.words.length + 1) c7)) { s with words := s.words ++ [s.word] } vw (.slice A7 (s.words.length + 1) c7)) := HV.out.drew.word rfl h7.out hk7.out
    clear d2 f2
    generalize w7.setCell ⟨P, 2, none⟩ (.slice A7 (s.words.length + 1) c7) = w8 at *
    have e1 : w8.cell? ⟨P, 1, none⟩ = some vw := (h8.out.2.2.1.cell 1).trans rfl
    have g1 := h8.out.2.2.1.frozen 1
    go_wp2_with fail
    go_end0
    exact ⟨rfl, _, _, h8.out.clear⟩)

theorem bar_cases (c : UInt8) : (((c.toNat < 32 ∨ (¬ c.toNat < 32 ∧ c.toNat = 127) ∨ c.toNat = 34 ∨ c.toNat = 92) ∧ (isBarred c.toNat || c.toNat == 34 || c.toNat == 92) = true) ∨ ((¬ c.toNat < 32 ∧ c.toNat ≠ 127 ∧ c.toNat ≠ 34 ∧ c.toNat ≠ 92) ∧ (isBarred c.toNat || c.toNat == 34 || c.toNat == 92) = false)) := by
  unfold isBarred
  by_cases h1 : c.toNat < 32
  · left; simp [h1]
  by_cases h2 : c.toNat = 127
  · left; simp [h2]
  by_cases h3 : c.toNat = 34
  · left; simp [h3]
  by_cases h4 : c.toNat = 92
  · left; simp [h4]
  · right; simp [h1, h2, h3, h4]
set_option maxRecDepth 100000 in
set_option maxHeartbeats 1600000 in
theorem plain_any (Z P : Nat) (w0 w : World) (s : Lx) (c : UInt8) (h : Hid (Rd Z P w0 w s)) (hs : Hid (Sm s)) :
    Calls Tryz.prog 55 #[.pointer (some ⟨P, 0, none⟩), .int .u8 (c.toNat : Int)] w fun e w' => e = .returned (.tuple #[]) ∧ Hid (Rd Z P w0 w' (plainS s c)) := by
  obtain ⟨vw, vs, hv⟩ := h.out
  have HV := Lib.hid hv
  have c1 : w.cell? ⟨P, 1, none⟩ = some vw := (hv.2.2.1.cell 1).trans rfl
  have c4 : w.cell? ⟨P, 4, none⟩ = some (.bool s.bad) := (hv.2.2.1.cell 4).trans rfl
  have g4 := hv.2.2.1.frozen 4
  clear hv h
  rcases bar_cases c with ⟨hc, hb⟩ | ⟨hc, hb⟩
  · have HB := Lib.hid hb
    clear hb
    rcases hc with hc | hc | hc | hc
    · have e1 : (c.toNat : Int) < 32 := by omega
      clear hc
      go_enter Tryz.func55, Tryz.ntmps55
      go_upto_region 2 with (fail)
      have h2 : Hid (RdV Z P w0 (w.setCell ⟨P, 4, none⟩ (.bool true)) { s with bad := true } vw vs) := HV.out.setBad true
      clear c1 c4 g4
      generalize w.setCell ⟨P, 4, none⟩ (.bool true) = w2 at *
      have c1 : w2.cell? ⟨P, 1, none⟩ = some vw := (h2.out.2.2.1.cell 1).trans rfl
      go_wp2_with (first | (at_builtin; go_loud (refine app_keep (v := vw) el60 rfl (.tmp 25) (.tmp 27) rfl rfl (RdV.raw h2) #[.int .u8 c.toNat] 1 1 rfl rfl (one_cell _ rfl) (Sm.byte hs) ?_); intro A7 c7 w7 h7 hk7; have d1 : w7.cell? ⟨P, 1, none⟩ = some vw := ((hk7.out.blk h2.out.2.2.1 (by decide)).cell 1).trans rfl; have f1 := (hk7.out.blk h2.out.2.2.1 (by decide)).frozen 1))
      go_end0
      refine ⟨rfl, .slice A7 (s.word.length + 1) c7, vs, ?_⟩
      have h8 := h2.out.push c rfl h7.out hk7.out
      unfold plainS
      rw [HB.out, Bool.or_true]
      exact h8
    · have e1 : ¬ ((c.toNat : Int) < 32) := by omega
      have e2 : ((c.toNat : Int) == 127) = true := beq_iff_eq.2 (by omega)
      clear hc
      go_enter Tryz.func55, Tryz.ntmps55
      go_upto_region 2 with (fail)
      have h2 : Hid (RdV Z P w0 (w.setCell ⟨P, 4, none⟩ (.bool true)) { s with bad := true } vw vs) := HV.out.setBad true
      clear c1 c4 g4
      generalize w.setCell ⟨P, 4, none⟩ (.bool true) = w2 at *
      have c1 : w2.cell? ⟨P, 1, none⟩ = some vw := (h2.out.2.2.1.cell 1).trans rfl
      go_wp2_with (first | (at_builtin; go_loud (refine app_keep (v := vw) el60 rfl (.tmp 25) (.tmp 27) rfl rfl (RdV.raw h2) #[.int .u8 c.toNat] 1 1 rfl rfl (one_cell _ rfl) (Sm.byte hs) ?_); intro A7 c7 w7 h7 hk7; have d1 : w7.cell? ⟨P, 1, none⟩ = some vw := ((hk7.out.blk h2.out.2.2.1 (by decide)).cell 1).trans rfl; have f1 := (hk7.out.blk h2.out.2.2.1 (by decide)).frozen 1))
      go_end0
      refine ⟨rfl, .slice A7 (s.word.length + 1) c7, vs, ?_⟩
      have h8 := h2.out.push c rfl h7.out hk7.out
      unfold plainS
      rw [HB.out, Bool.or_true]
      exact h8
    · have e1 : ¬ ((c.toNat : Int) < 32) := by omega
      have e2 : ((c.toNat : Int) == 127) = false := beq_eq_false_iff_ne.2 (by omega)
      have e3 : ((c.toNat : Int) == 34) = true := beq_iff_eq.2 (by omega)
      clear hc
      go_enter Tryz.func55, Tryz.ntmps55
      go_upto_region 2 with (fail)
      have h2 : Hid (RdV Z P w0 (w.setCell ⟨P, 4, none⟩ (.bool true)) { s with bad := true } vw vs) := HV.out.setBad true
      clear c1 c4 g4
      generalize w.setCell ⟨P, 4, none⟩ (.bool true) = w2 at *
      have c1 : w2.cell? ⟨P, 1, none⟩ = some vw := (h2.out.2.2.1.cell 1).trans rfl
      go_wp2_with (first | (at_builtin; go_loud (refine app_keep (v := vw) el60 rfl (.tmp 25) (.tmp 27) rfl rfl (RdV.raw h2) #[.int .u8 c.toNat] 1 1 rfl rfl (one_cell _ rfl) (Sm.byte hs) ?_); intro A7 c7 w7 h7 hk7; have d1 : w7.cell? ⟨P, 1, none⟩ = some vw := ((hk7.out.blk h2.out.2.2.1 (by decide)).cell 1).trans rfl; have f1 := (hk7.out.blk h2.out.2.2.1 (by decide)).frozen 1))
      go_end0
      refine ⟨rfl, .slice A7 (s.word.length + 1) c7, vs, ?_⟩
      have h8 := h2.out.push c rfl h7.out hk7.out
      unfold plainS
      rw [HB.out, Bool.or_true]
      exact h8
    · have e1 : ¬ ((c.toNat : Int) < 32) := by omega
      have e2 : ((c.toNat : Int) == 127) = false := beq_eq_false_iff_ne.2 (by omega)
      have e3 : ((c.toNat : Int) == 34) = false := beq_eq_false_iff_ne.2 (by omega)
      have e4 : ((c.toNat : Int) == 92) = true := beq_iff_eq.2 (by omega)
      clear hc
      go_enter Tryz.func55, Tryz.ntmps55
      go_upto_region 2 with (fail)
      have h2 : Hid (RdV Z P w0 (w.setCell ⟨P, 4, none⟩ (.bool true)) { s with bad := true } vw vs) := HV.out.setBad true
      clear c1 c4 g4
      generalize w.setCell ⟨P, 4, none⟩ (.bool true) = w2 at *
      have c1 : w2.cell? ⟨P, 1, none⟩ = some vw := (h2.out.2.2.1.cell 1).trans rfl
      go_wp2_with (first | (at_builtin; go_loud (refine app_keep (v := vw) el60 rfl (.tmp 25) (.tmp 27) rfl rfl (RdV.raw h2) #[.int .u8 c.toNat] 1 1 rfl rfl (one_cell _ rfl) (Sm.byte hs) ?_); intro A7 c7 w7 h7 hk7; have d1 : w7.cell? ⟨P, 1, none⟩ = some vw := ((hk7.out.blk h2.out.2.2.1 (by decide)).cell 1).trans rfl; have f1 := (hk7.out.blk h2.out.2.2.1 (by decide)).frozen 1))
      go_end0
      refine ⟨rfl, .slice A7 (s.word.length + 1) c7, vs, ?_⟩
      have h8 := h2.out.push c rfl h7.out hk7.out
      unfold plainS
      rw [HB.out, Bool.or_true]
      exact h8
  · have HB := Lib.hid hb
    have e1 : ¬ ((c.toNat : Int) < 32) := by omega
    have e2 : ((c.toNat : Int) == 127) = false := beq_eq_false_iff_ne.2 (by omega)
    have e3 : ((c.toNat : Int) == 34) = false := beq_eq_false_iff_ne.2 (by omega)
    have e4 : ((c.toNat : Int) == 92) = false := beq_eq_false_iff_ne.2 (by omega)
    clear hb hc
    go_enter Tryz.func55, Tryz.ntmps55
    go_wp2_with (first | (at_builtin; go_loud (refine app_keep (v := vw) el60 rfl (.tmp 25) (.tmp 27) rfl rfl (RdV.raw HV) #[.int .u8 c.toNat] 1 1 rfl rfl (one_cell _ rfl) (Sm.byte hs) ?_); intro A7 c7 w7 h7 hk7; have d1 : w7.cell? ⟨P, 1, none⟩ = some vw := ((hk7.out.blk HV.out.2.2.1 (by decide)).cell 1).trans rfl; have f1 := (hk7.out.blk HV.out.2.2.1 (by decide)).frozen 1))
    go_end0
    refine ⟨rfl, .slice A7 (s.word.length + 1) c7, vs, ?_⟩
    have h8 := HV.out.push c rfl h7.out hk7.out
    unfold plainS
    rw [HB.out, Bool.or_false]
    exact h8

set_option maxRecDepth 100000 in
set_option maxHeartbeats 1600000 in
theorem first_any (Z P : Nat) (w0 w : World) (s : Lx) (c : UInt8) (h : Hid (Rd Z P w0 w s)) (hs : Hid (Sm s)) :
    Calls Tryz.prog 54 #[.pointer (some ⟨P, 0, none⟩), .int .u8 (c.toNat : Int)] w fun e w' => e = .returned (.tuple #[]) ∧ Hid (Rd Z P w0 w' (firstS s c)) := by
  obtain ⟨vw, vs, hv⟩ := h.out
  have HV := Lib.hid hv
  have c0 : w.cell? ⟨P, 0, none⟩ = some (.int .i64 s.pos) := (hv.2.2.1.cell 0).trans rfl
  have g0 := hv.2.2.1.frozen 0
  clear hv h
  by_cases hc : c.toNat = 32
  · have HR : Hid (firstS s c = { s with pos := 0 }) := by show _ = _; unfold firstS isBlank; rw [hc]; rfl
    have e1 : ((c.toNat : Int) == 32) = true := beq_iff_eq.2 (by omega)
    clear hc
    go_enter Tryz.func54, Tryz.ntmps54
    go_wp2_with fail
    go_end0
    refine ⟨rfl, ?_⟩
    rw [HR.out]
    exact ⟨_, _, HV.out.setPos 0⟩
  have x1 : ((c.toNat : Int) == 32) = false := beq_eq_false_iff_ne.2 (by omega)
  have y1 := Lib.hid hc
  clear hc
  by_cases hc : c.toNat = 9
  · have HR : Hid (firstS s c = { s with pos := 0 }) := by show _ = _; unfold firstS isBlank; rw [hc]; rfl
    have e1 : ((c.toNat : Int) == 9) = true := beq_iff_eq.2 (by omega)
    clear hc
    go_enter Tryz.func54, Tryz.ntmps54
    go_wp2_with fail
    go_end0
    refine ⟨rfl, ?_⟩
    rw [HR.out]
    exact ⟨_, _, HV.out.setPos 0⟩
  have x2 : ((c.toNat : Int) == 9) = false := beq_eq_false_iff_ne.2 (by omega)
  have y2 := Lib.hid hc
  clear hc
  by_cases hc : c.toNat = 35
  · have HR : Hid (firstS s c = { s with pos := 7 }) := by show _ = _; unfold firstS isBlank; rw [hc]; rfl
    have e1 : ((c.toNat : Int) == 35) = true := beq_iff_eq.2 (by omega)
    clear hc
    go_enter Tryz.func54, Tryz.ntmps54
    go_wp2_with fail
    go_end0
    refine ⟨rfl, ?_⟩
    rw [HR.out]
    exact ⟨_, _, HV.out.setPos 7⟩
  have x3 : ((c.toNat : Int) == 35) = false := beq_eq_false_iff_ne.2 (by omega)
  have y3 := Lib.hid hc
  clear hc
  by_cases hc : c.toNat = 34
  · have HR : Hid (firstS s c = { s with pos := 2 }) := by show _ = _; unfold firstS isBlank; rw [hc]; rfl
    have e1 : ((c.toNat : Int) == 34) = true := beq_iff_eq.2 (by omega)
    clear hc
    go_enter Tryz.func54, Tryz.ntmps54
    go_wp2_with fail
    go_end0
    refine ⟨rfl, ?_⟩
    rw [HR.out]
    exact ⟨_, _, HV.out.setPos 2⟩
  have x4 : ((c.toNat : Int) == 34) = false := beq_eq_false_iff_ne.2 (by omega)
  have HR : Hid (firstS s c = plainS { s with pos := 1 } c) := by
    show _ = _
    unfold firstS isBlank
    have := y1.out
    have := y2.out
    have := y3.out
    rw [if_neg (by simp; omega), if_neg (by omega), if_neg hc]
  clear hc
  go_enter Tryz.func54, Tryz.ntmps54
  go_wp2_with fail
  refine (plain_any Z P w0 _ { s with pos := 1 } c ⟨_, _, HV.out.setPos 1⟩ hs).mono ?_
  rintro e w2 ⟨rfl, h2⟩
  go_wp2_with fail
  go_end0
  refine ⟨rfl, ?_⟩
  rw [HR.out]
  exact h2
end Go.Proofs.YtcdhkeahcliefaaGreatDoor.LexB
