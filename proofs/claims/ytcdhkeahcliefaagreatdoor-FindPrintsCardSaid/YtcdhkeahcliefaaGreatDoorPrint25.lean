/- The program's parse of a query. shell.Quote: bytes as one quoted word. The text of a query's term: plain; what a text's walk needs. -/
import Derived.Test.YtcdhkeahcliefaaGreatDoorPrint21
import Derived.Test.YtcdhkeahcliefaaGreatDoorPrint22
import Derived.Test.YtcdhkeahcliefaaGreatDoorPrint24
import Derived.Test.YtcdhkeahcliefaaGreatDoorPrint02
import Derived.Test.YtcdhkeahcliefaaGreatDoorPrint05
import Derived.Deep.CutBlock
import Derived.Deep.DeepCutAuto
import Derived.Test.YtcdhkeahcliefaaGreatDoorPrint04
import Derived.Lib.SmallJoins
/- The program's parse of a query. -/
namespace Go.Proofs.YtcdhkeahcliefaaGreatDoor.Parse
open Go.ChangeShapes Go.WideShapes Go.ChangeAt Go.RowKit
open Go.Proofs.YtcdhkeahcliefaaGreatDoor.Kit Go.Proofs.YtcdhkeahcliefaaGreatDoor.Base Go.Proofs.YtcdhkeahcliefaaGreatDoor.PatA Go.Proofs.YtcdhkeahcliefaaGreatDoor.Tok Go.Proofs.YtcdhkeahcliefaaGreatDoor.Term Go.Proofs.YtcdhkeahcliefaaGreatDoor.TermB Go.Proofs.YtcdhkeahcliefaaGreatDoor.Syn Go.Proofs.YtcdhkeahcliefaaGreatDoor.ParseU Go.Proofs.YtcdhkeahcliefaaGreatDoor.ParseR Go.Proofs.YtcdhkeahcliefaaGreatDoor.ParseA Go.Proofs.YtcdhkeahcliefaaGreatDoor.ParseO Go.Proofs.YtcdhkeahcliefaaGreatDoor.Lex
open Go.Proofs.YtcdhkeahcliefaaGreatDoor.LexE (WordsPost)
set_option linter.unusedVariables false

def sumS (s : Lx) : Nat := s.word.length + (s.words.map List.length).sum + s.words.length
theorem sum_word (s : Lx) (y : UInt8) : (s.word ++ [y]).length + (s.words.map List.length).sum + s.words.length ≤ sumS s + 1 := by
  unfold sumS
  simp
  omega
theorem sum_ends (s : Lx) : sumS (endsS s) = sumS s + 1 := by
  unfold sumS endsS
  simp
  omega
theorem sum_next (s : Lx) (c : UInt8) : sumS (nextS s c) ≤ sumS s + 1 := by
  have hs : sumS s ≤ sumS s + 1 := Nat.le_succ _
  have he := Nat.le_of_eq (sum_ends s)
  have hw := sum_word s
  unfold nextS
  split
  · unfold firstS
    split
    · exact hs
    · split
      · exact hs
      · split
        · exact hs
        · exact hw c
  · split
    · split
      · exact he
      · exact hw c
    · split
      · unfold insideS
        split
        · exact he
        · split
          · exact hs
          · split
            · exact hs
            · exact hw c
      · split
        · unfold escapedS
          split
          · exact hw _
          · split
            · exact hw _
            · split
              · exact hw _
              · split
                · exact hs
                · exact hs
        · split
          · exact hs
          · split
            · unfold lowS
              split
              · exact hs
              · exact hw _
            · split
              · exact hs
              · exact hs
theorem sum_run (l : List UInt8) : ∀ s, sumS (runS s l) ≤ sumS s + l.length := by
  induction l with
  | nil => exact fun s => Nat.le_refl _
  | cons c l ih =>
    intro s
    by_cases hb : s.bad = true
    · rw [runS_bad hb]; simp
    · show sumS (if s.bad then s else runS (nextS s c) l) ≤ _
      rw [if_neg hb]
      have h1 := ih (nextS s c)
      have h2 := sum_next s c
      rw [List.length_cons]
      omega
theorem lexed_sum {l : List UInt8} {ws : List W} (h : lexed l = some ws) : (ws.map List.length).sum + ws.length ≤ l.length + 1 := by
  have h1 := sum_run l lx0
  have h0 : sumS lx0 = 0 := rfl
  obtain ⟨t, ht⟩ : ∃ t, (if (runS lx0 l).pos = 1 then endsS (runS lx0 l) else runS lx0 l) = t := ⟨_, rfl⟩
  have h : (if t.bad ∨ t.pos = 2 ∨ t.pos = 3 ∨ t.pos = 4 ∨ t.pos = 5 then none else some t.words) = some ws := by rw [← ht]; exact h
  have h2 : ws = t.words := by
    by_cases hc : t.bad ∨ t.pos = 2 ∨ t.pos = 3 ∨ t.pos = 4 ∨ t.pos = 5
    · rw [if_pos hc] at h; cases h
    · rw [if_neg hc] at h; injection h with h; exact h.symm
  subst h2
  rw [← ht]
  clear h ht
  split
  · have h3 := sum_ends (runS lx0 l)
    unfold sumS at h3
    unfold sumS at h1 h0
    omega
  · unfold sumS at h1 h0
    omega
theorem one_sum : ∀ (l : List Nat) (x : Nat), x ∈ l → x ≤ l.sum := by
  intro l
  induction l with
  | nil => intro x h; cases h
  | cons y l ih =>
    intro x h
    rw [List.sum_cons]
    rcases List.mem_cons.1 h with rfl | h
    · omega
    · have := ih x h; omega
theorem lexed_small {l : List UInt8} {ws : List W} (h : lexed l = some ws) (hl : l.length ≤ 1023) : ws.length ≤ 1024 ∧ ∀ x ∈ ws, x.length ≤ 1023 := by
  have h1 := lexed_sum h
  refine ⟨by omega, fun x hx => ?_⟩
  have h2 : x.length ≤ (ws.map List.length).sum := one_sum _ _ (List.mem_map_of_mem hx)
  have h3 : 0 < ws.length := List.length_pos_of_mem hx
  omega
theorem or_of_unit {o : Nat} (h : UnitC o) : OrC o := by
  have hand : ∀ (p : Pw) (i : Nat) (w : World), Hid p.Ok → Hid (Words p) → Hid (Pr p w i o) → Calls Tryz.prog 36 #[.pointer (some ⟨p.P, 0, none⟩)] w (TermPost p i o (andF (unitF (16 - o)) (p.ws.drop i))) :=
    fun p i w hp hw hh => and_any o (unitF (16 - o)) (unit_fine _) h p i w hp hw hh
  exact fun p i w hp hw hh => or_any o (andF (unitF (16 - o))) (and_fine (unit_fine _)) hand p i w hp hw hh
theorem unit_all : ∀ n o, o + n = 16 → UnitC o := by
  intro n
  induction n with
  | zero => exact fun o ho => unit_step o (fun h => by omega) (fun h => by omega)
  | succ n ih => exact fun o ho => unit_step o (fun _ => ih (o + 1) (by omega)) (fun _ => or_of_unit (ih (o + 1) (by omega)))
def endQ (n : Nat) : Res → Except Int Term
  | .error e => .error e
  | .ok (t, j) => if j < n then .error 191 else .ok t
theorem parse_end (ws : List W) : parseF ws = endQ ws.length (orF (unitF 16) ws) := by
  unfold parseF
  cases orF (unitF 16) ws with
  | error e => rfl
  | ok x => rfl
/-- what a query's bytes are -/
noncomputable def parseQ (l : List UInt8) : Except Int Term :=
  if 1023 < l.length then .error 7 else match lexed l with
  | none => .error 191
  | some ws => parseF ws
def ParsePost (r : Except Int Term) (w : World) (e : Ending) (w' : World) : Prop :=
  (∃ x, r = .error x ∧ Threw x e ∧ Hid (Below w.heap.size w w')) ∨ (∃ t v, r = .ok t ∧ e = .returned v ∧ Hid (TermIs (fun k => w.heap.size ≤ k) w' v t) ∧ Hid (Below w.heap.size w w'))
/-- the parser in new memory -/
theorem new_parser {w : World} {A : Option Addr} {c : Nat} {ws : List W} (hs : Strs w A (ws.map str)) (hn : ws.length ≤ 1024) :
    (⟨w.heap.size, w, A, c, ws, w.alloc (.cells #[.slice A ws.length c, .int .i64 0, .int .i64 0] 69)⟩ : Pw).Ok ∧
    Pr ⟨w.heap.size, w, A, c, ws, w.alloc (.cells #[.slice A ws.length c, .int .i64 0, .int .i64 0] 69)⟩ (w.alloc (.cells #[.slice A ws.length c, .int .i64 0, .int .i64 0] 69)) 0 0 :=
  ⟨⟨rfl, hs, hn⟩, (Since.refl w).alloc _, Blk.new w _ _, Nat.zero_le _, Nat.zero_le _, Chg.refl _ _, by simp⟩
set_option maxRecDepth 100000 in
set_option maxHeartbeats 3200000 in
theorem parse_any (l : List UInt8) (w : World) (hT : Hid (Lib.Utf8Tabs 0 1 w)) : Calls Tryz.prog 9 #[.string (str l)] w (ParsePost (parseQ l) w) := by
  by_cases hl : 1023 < l.length
  · have HR : Hid (parseQ l = .error 7) := if_pos hl
    rw [HR.out]
    have hpn := panics 7
    have e1 : decide ((1023 : Int) < ((str l).size : Int)) = true := decide_eq_true (by rw [str_size]; omega)
    have e2 : (1023 : Int) < ((str l).size : Int) := by rw [str_size]; omega
    clear hl
    go_enter Tryz.func9, Tryz.ntmps9
    go_wp2_with fail
    exact ⟨rfl, .inl ⟨_, rfl, rfl, Below.refl _ _⟩⟩
  have HL : Hid (l.length ≤ 1023) := by show _ ≤ _; omega
  have HW := Lib.hid (LexG.words_any l w HL.out hT)
  have e1 : decide ((1023 : Int) < ((str l).size : Int)) = false := decide_eq_false (by rw [str_size]; omega)
  have e2 : ¬ (1023 : Int) < ((str l).size : Int) := by rw [str_size]; omega
  have hpn := panics 191
  have HR : Hid (parseQ l = match lexed l with | none => .error 191 | some ws => parseF ws) := if_neg hl
  clear hl
  obtain ⟨r, hr⟩ : ∃ r, parseQ l = r := ⟨_, rfl⟩
  have HR : Hid (r = match lexed l with | none => .error 191 | some ws => parseF ws) := by rw [← hr]; exact HR.out
  rw [hr]
  clear hr
  go_enter Tryz.func9, Tryz.ntmps9
  go_wp2_with fail
  refine HW.out.mono ?_
  clear HW
  rintro e w2 (⟨hx, rfl, hb⟩ | ⟨ws, A, c, hx, rfl, hb, hst⟩)
  · have HR2 : Hid (r = .error 191) := by show _ = _; rw [HR.out, hx]
    clear hx
    go_wp2_with fail
    exact ⟨rfl, .inl ⟨_, HR2.out, rfl, hb⟩⟩
  · obtain ⟨hn, hw1⟩ := lexed_small hx HL.out
    have HR2 : Hid (r = parseF ws) := by show _ = _; rw [HR.out, hx]
    obtain ⟨hok, hpr⟩ := new_parser (c := c) hst.out hn
    obtain ⟨o1, ho1⟩ : ∃ o1, orF (unitF 16) ws = o1 := ⟨_, rfl⟩
    have HO := Lib.hid (or_of_unit (unit_all 16 0 rfl) _ 0 _ hok hw1 hpr)
    have HO : Hid (Calls Tryz.prog 19 #[.pointer (some ⟨w2.heap.size, 0, none⟩)] (w2.alloc (.cells #[.slice A ws.length c, .int .i64 0, .int .i64 0] 69)) (TermPost ⟨w2.heap.size, w2, A, c, ws, w2.alloc (.cells #[.slice A ws.length c, .int .i64 0, .int .i64 0] 69)⟩ 0 0 o1)) := by rw [← ho1]; exact HO.out
    have HPF : Hid (parseF ws = endQ ws.length o1) := by show _ = _; rw [← ho1]; exact parse_end ws
    clear hok hpr hx hn hw1 ho1
    go_wp2_with fail
    refine HO.out.mono ?_
    clear HO
    rintro e w3 (⟨x, rfl, he, h3⟩ | ⟨t, j, v, rfl, rfl, ht, h3⟩)
    · unfold Threw at he
      subst he
      go_wp2_with fail
      exact ⟨rfl, .inl ⟨_, by rw [HR2.out, HPF.out]; rfl, rfl, (hb.out.trans (h3.out.1.mono hb.out.size))⟩⟩
    · have hb3 := h3.out.2.1
      have hB : Hid (Below w.heap.size w w3) := hb.out.trans (h3.out.1.1.mono hb.out.size)
      have c1 : w3.cell? ⟨w2.heap.size, 1, none⟩ = some (.int .i64 ((0 + j : Nat) : Int)) := (hb3.cell 1).trans rfl
      have g1 := hb3.frozen 1
      rw [Nat.zero_add] at c1
      have HTT : Hid (TermIs (fun k => w.heap.size ≤ k) w3 v t) := ht.out.mono (fun k _ hk => by have h1 := hb.out.size; simp at hk; omega)
      obtain ⟨n, hn⟩ : ∃ n, ws.length = n := ⟨_, rfl⟩
      rw [hn] at HPF ⊢
      clear hb3 hn ht h3
      by_cases hj : j < n
      · have e3 : decide ((j : Int) < (n : Int)) = true := decide_eq_true (by omega)
        have e4 : (j : Int) < (n : Int) := by omega
        have HE : Hid (r = .error 191) := by show _ = _; rw [HR2.out, HPF.out]; exact if_pos hj
        clear hj
        go_wp2_with fail
        exact ⟨rfl, .inl ⟨_, HE.out, rfl, hB⟩⟩
      · have e3 : decide ((j : Int) < (n : Int)) = false := decide_eq_false (by omega)
        have e4 : ¬ (j : Int) < (n : Int) := by omega
        have HE : Hid (r = .ok t) := by show _ = _; rw [HR2.out, HPF.out]; exact if_neg hj
        clear hj
        go_wp2_with fail
        go_ret
        exact .inr ⟨_, _, HE.out, rfl, HTT, hB⟩
end Go.Proofs.YtcdhkeahcliefaaGreatDoor.Parse
/- shell.Quote: bytes as one quoted word. -/
namespace Go.Proofs.YtcdhkeahcliefaaGreatDoor.Quo
open Go.ChangeShapes Go.WideShapes Go.ChangeAt Go.RowKit
open Go.Proofs.YtcdhkeahcliefaaGreatDoor.Kit Go.Proofs.YtcdhkeahcliefaaGreatDoor.Base Go.Proofs.YtcdhkeahcliefaaGreatDoor.Bld
set_option linter.unusedVariables false

def sgn (c : Nat) : Nat := if c = 92 ∨ c = 34 then c else if c = 10 then 110 else if c = 9 then 116 else 0
def hexd (n : Nat) : Nat := if n < 10 then 48 + n else 87 + n
/-- what stands for a byte -/
def q1 (c : UInt8) : List UInt8 := if sgn c.toNat ≠ 0 then [92, UInt8.ofNat (sgn c.toNat)] else if c.toNat < 32 ∨ 127 ≤ c.toNat then [92, 120, UInt8.ofNat (hexd (c.toNat / 16)), UInt8.ofNat (hexd (c.toNat % 16))] else [c]
def quo (l : List UInt8) : List UInt8 := 34 :: (l.flatMap q1 ++ [34])
theorem q1_len (c : UInt8) : (q1 c).length ≤ 4 := by
  unfold q1
  split
  · simp
  · split <;> simp
theorem flat_len (l : List UInt8) : (l.flatMap q1).length ≤ 4 * l.length := by
  induction l with
  | nil => simp
  | cons c l ih =>
    rw [List.flatMap_cons, List.length_append, List.length_cons]
    have := q1_len c
    omega
set_option maxRecDepth 100000 in
theorem sign_any (c : Nat) (w : World) (hc : c < 256) : Calls Tryz.prog 28 #[.int .u8 c] w fun e w' => e = .returned (.int .u8 (sgn c)) ∧ w = w' := by
  have HC := Lib.hid hc
  have hs : Hid (c = 92 ∧ sgn c = 92 ∨ c = 34 ∧ sgn c = 34 ∨ c = 10 ∧ sgn c = 110 ∨ c = 9 ∧ sgn c = 116 ∨ (c ≠ 92 ∧ c ≠ 34 ∧ c ≠ 10 ∧ c ≠ 9) ∧ sgn c = 0) := by
    show _ ∨ _
    unfold sgn
    by_cases h1 : c = 92
    · simp [h1]
    by_cases h2 : c = 34
    · simp [h2]
    by_cases h3 : c = 10
    · simp [h3]
    by_cases h4 : c = 9
    · simp [h4]
    simp [h1, h2, h3, h4]
  generalize sgn c = d at *
  rcases hs.out with ⟨rfl, rfl⟩ | ⟨rfl, rfl⟩ | ⟨rfl, rfl⟩ | ⟨rfl, rfl⟩ | ⟨⟨h1, h2, h3, h4⟩, rfl⟩
  · go_enter Tryz.func28, Tryz.ntmps28
    go_wp2_with fail
    go_ret
    exact ⟨rfl, rfl⟩
  · go_enter Tryz.func28, Tryz.ntmps28
    go_wp2_with fail
    go_ret
    exact ⟨rfl, rfl⟩
  · go_enter Tryz.func28, Tryz.ntmps28
    go_wp2_with fail
    go_ret
    exact ⟨rfl, rfl⟩
  · go_enter Tryz.func28, Tryz.ntmps28
    go_wp2_with fail
    go_ret
    exact ⟨rfl, rfl⟩
  · have e1 : ((c : Int) == 92) = false := beq_eq_false_iff_ne.2 (by omega)
    have e2 : ((c : Int) == 34) = false := beq_eq_false_iff_ne.2 (by omega)
    have e3 : ((c : Int) == 10) = false := beq_eq_false_iff_ne.2 (by omega)
    have e4 : ((c : Int) == 9) = false := beq_eq_false_iff_ne.2 (by omega)
    clear h1 h2 h3 h4
    go_enter Tryz.func28, Tryz.ntmps28
    go_wp2_with fail
    go_ret
    exact ⟨rfl, rfl⟩
theorem sgn_lt {c : Nat} (h : c < 256) : sgn c < 256 := by
  unfold sgn
  by_cases h1 : c = 92 ∨ c = 34
  · rw [if_pos h1]; exact h
  rw [if_neg h1]
  by_cases h2 : c = 10
  · rw [if_pos h2]; decide
  rw [if_neg h2]
  by_cases h3 : c = 9
  · rw [if_pos h3]; decide
  rw [if_neg h3]
  decide
theorem hex_at (m : Nat) (h : m < (⟨#[48, 49, 50, 51, 52, 53, 54, 55, 56, 57, 97, 98, 99, 100, 101, 102]⟩ : ByteArray).size) : (⟨#[48, 49, 50, 51, 52, 53, 54, 55, 56, 57, 97, 98, 99, 100, 101, 102]⟩ : ByteArray)[m] = UInt8.ofNat (hexd m) := by
  have h16 : m < 16 := h
  match m, h16 with
  | 0, _ => rfl
  | 1, _ => rfl
  | 2, _ => rfl
  | 3, _ => rfl
  | 4, _ => rfl
  | 5, _ => rfl
  | 6, _ => rfl
  | 7, _ => rfl
  | 8, _ => rfl
  | 9, _ => rfl
  | 10, _ => rfl
  | 11, _ => rfl
  | 12, _ => rfl
  | 13, _ => rfl
  | 14, _ => rfl
  | 15, _ => rfl
  | n + 16, hn => exact absurd hn (by omega)
theorem wb (Z b : Nat) (l : List UInt8) (c : UInt8) (z : Int) (hz : z = (c.toNat : Int)) (w0 w : World) (h : Hid (Since Z w0 w ∧ Bd Z b l w)) (hlen : l.length + 1 ≤ 140737488355328) :
    Calls Tryz.prog 27 #[.pointer (some ⟨b, 0, none⟩), .int .u8 z] w fun e w' => e = .returned .nilIface ∧ Hid (Since Z w0 w' ∧ Bd Z b (l ++ [c]) w') := by
  subst hz
  refine (writeByte Z b l c w h.out.2 hlen h.out.1.2).mono ?_
  rintro e w' ⟨rfl, hb⟩
  exact ⟨rfl, h.out.1.on hb.out.2, hb.out.1⟩
theorem ws (Z b : Nat) (l : List UInt8) (s : ByteArray) (w0 w : World) (h : Hid (Since Z w0 w ∧ Bd Z b l w)) (hlen : l.length + s.size ≤ 140737488355328) :
    Calls Tryz.prog 29 #[.pointer (some ⟨b, 0, none⟩), .string s] w fun e w' => e = .returned (.tuple #[.int .i64 s.size, .nilIface]) ∧ Hid (Since Z w0 w' ∧ Bd Z b (l ++ s.data.toList) w') := by
  refine (writeString Z b l s w h.out.2 hlen h.out.1.2).mono ?_
  rintro e w' ⟨rfl, hb⟩
  exact ⟨rfl, h.out.1.on hb.out.2, hb.out.1⟩
set_option maxRecDepth 100000 in
set_option maxHeartbeats 1600000 in
theorem quote_any (A : Option Addr) (n c : Nat) (l : List UInt8) (w : World) (hn : l.length = n) (hl : n ≤ 65536) (H : Hid (Bytes w A l)) :
    Calls Tryz.prog 17 #[.slice A n c] w fun e w' => e = .returned (.string (str (quo l))) ∧ Hid (Below w.heap.size w w') := by
  have HN := Lib.hid (And.intro hn hl)
  obtain ⟨Z, hZ⟩ : ∃ Z, w.heap.size = Z := ⟨_, rfl⟩
  have HZ := Lib.hid hZ
  rw [hZ]
  clear hn hl hZ
  go_enter Tryz.func17, Tryz.ntmps17
  go_upto_region 2 with (fail)
  rw [HZ.out]
  refine gen_world (fun w' => Hid (Since Z w w' ∧ Bd Z Z [] w')) ?_ ?_
  · have h := Since.refl w
    rw [HZ.out] at h
    refine ⟨h.alloc _, ?_⟩
    have h2 := Lib.fresh_isBuilder 84 5 w
    rw [HZ.out] at h2
    exact h2
  rintro w1 h1
  go_wp2_with fail
  refine (wb Z Z [] 34 _ rfl w _ h1 (by decide)).mono ?_
  rintro e w2 ⟨rfl, h2⟩
  clear h1 w1
  go_wp2_with fail
  go_loopg [10] n (fun g i wr => ∃ (k : Nat), g = n - k ∧ k ≤ n ∧ i = .int .i64 k ∧ Hid (Since Z w wr ∧ Bd Z Z (34 :: (l.take k).flatMap q1) wr))
  case atStart => exact ⟨0, rfl, Nat.zero_le _, rfl, h2⟩
  case round =>
    clear h2 w2
    obtain ⟨k, rfl, hk, rfl, h1⟩ := hrel
    have hk9 : (k : Int) ≤ 65536 := by have := HN.out; omega
    have k0 : (0 : Int) ≤ (k : Int) := by omega
    by_cases hlt : k < n
    · have hlti : (k : Int) < (n : Int) := by omega
      have HLT := Lib.hid hlt
      obtain ⟨ad, rfl, hc⟩ := H.out k (by rw [HN.out.1]; exact hlt)
      have hcw : wr.cell? (ad.add k) = some (.int .u8 (l[k]'(by rw [HN.out.1]; exact hlt)).toNat) := (h1.out.1.1.cell (by rw [← HZ.out]; exact World.block_lt_of_cell? w _ hc)).trans hc
      have HSN : Hid ((l.take (k + 1)).flatMap q1 = (l.take k).flatMap q1 ++ q1 (l[k]'(by rw [HN.out.1]; exact hlt))) := by
        show _ = _
        rw [List.take_succ_eq_append_getElem (by rw [HN.out.1]; exact hlt), List.flatMap_append]
        simp
      have HTL : Hid (((l.take k).flatMap q1).length ≤ 300000) := by
        show _ ≤ _
        have := flat_len (l.take k)
        rw [List.length_take] at this
        have := HN.out
        omega
      generalize (l[k]'(by rw [HN.out.1]; exact hlt)) = y at *
      have hy9 : (y.toNat : Int) < 256 := by have := y.toNat_lt; omega
      obtain ⟨d, hd⟩ : ∃ d, sgn y.toNat = d := ⟨_, rfl⟩
      have HD := Lib.hid hd
      generalize hpre : (l.take k).flatMap q1 = pre at *
      clear hpre hc hk hlt
      by_cases hd0 : d = 0
      · have t0 : ((d : Int) != 0) = false := by rw [hd0]; rfl
        have HD0 : Hid (sgn y.toNat = 0) := HD.out.trans hd0
        clear hd0
        by_cases hlow : y.toNat < 32 ∨ 127 ≤ y.toNat
        · have HQ : Hid (q1 y = [92, 120, UInt8.ofNat (hexd (y.toNat / 16)), UInt8.ofNat (hexd (y.toNat % 16))]) := by
            show _ = _
            unfold q1
            rw [if_neg (by rw [HD0.out]; simp), if_pos hlow]
          rcases Nat.lt_or_ge y.toNat 32 with h32 | h32
          · have h32i : (y.toNat : Int) < 32 := by omega
            clear hlow h32
            go_wp2_with fail
            refine (sign_any y.toNat _ y.toNat_lt).mono ?_
            rintro e w3 ⟨rfl, rfl⟩
            rw [HD.out]
            go_wp2_with fail
            refine (ws Z Z _ ⟨#[92, 120]⟩ w _ h1 (by have := HTL.out; rw [show (⟨#[92, 120]⟩ : ByteArray).size = 2 from rfl, List.length_cons]; omega)).mono ?_
            rintro e w3 ⟨rfl, h3⟩
            clear h1
            go_wp2_with fail
            refine (wb Z Z _ _ _ rfl w _ h3 (by have := HTL.out; simp; omega)).mono ?_
            rintro e w4 ⟨rfl, h4⟩
            rw [hex_at] at h4
            clear h3
            go_wp2_with fail
            refine (wb Z Z _ _ _ rfl w _ h4 (by have := HTL.out; simp; omega)).mono ?_
            rintro e w5 ⟨rfl, h5⟩
            rw [hex_at] at h5
            clear h4
            go_wp2_with fail
            go_roundg (n - (k + 1))
            case measure => have := HLT.out; omega
            case rel =>
              refine ⟨k + 1, rfl, HLT.out, by go_num, ?_⟩
              rw [HSN.out, HQ.out, show 34 :: (pre ++ [92, 120, UInt8.ofNat (hexd (y.toNat / 16)), UInt8.ofNat (hexd (y.toNat % 16))]) = 34 :: pre ++ [92, 120] ++ [UInt8.ofNat (hexd (y.toNat / 16))] ++ [UInt8.ofNat (hexd (y.toNat % 16))] from by simp]
              exact h5
          · have h32i : ¬ ((y.toNat : Int) < 32) := by omega
            have h127 : (127 : Int) ≤ (y.toNat : Int) := by omega
            clear hlow h32
            go_wp2_with fail
            refine (sign_any y.toNat _ y.toNat_lt).mono ?_
            rintro e w3 ⟨rfl, rfl⟩
            rw [HD.out]
            go_wp2_with fail
            refine (ws Z Z _ ⟨#[92, 120]⟩ w _ h1 (by have := HTL.out; rw [show (⟨#[92, 120]⟩ : ByteArray).size = 2 from rfl, List.length_cons]; omega)).mono ?_
            rintro e w3 ⟨rfl, h3⟩
            clear h1
            go_wp2_with fail
            refine (wb Z Z _ _ _ rfl w _ h3 (by have := HTL.out; simp; omega)).mono ?_
            rintro e w4 ⟨rfl, h4⟩
            rw [hex_at] at h4
            clear h3
            go_wp2_with fail
            refine (wb Z Z _ _ _ rfl w _ h4 (by have := HTL.out; simp; omega)).mono ?_
            rintro e w5 ⟨rfl, h5⟩
            rw [hex_at] at h5
            clear h4
            go_wp2_with fail
            go_roundg (n - (k + 1))
            case measure => have := HLT.out; omega
            case rel =>
              refine ⟨k + 1, rfl, HLT.out, by go_num, ?_⟩
              rw [HSN.out, HQ.out, show 34 :: (pre ++ [92, 120, UInt8.ofNat (hexd (y.toNat / 16)), UInt8.ofNat (hexd (y.toNat % 16))]) = 34 :: pre ++ [92, 120] ++ [UInt8.ofNat (hexd (y.toNat / 16))] ++ [UInt8.ofNat (hexd (y.toNat % 16))] from by simp]
              exact h5
        · have h32i : ¬ ((y.toNat : Int) < 32) := by omega
          have h127 : ¬ ((127 : Int) ≤ (y.toNat : Int)) := by omega
          have HQ : Hid (q1 y = [y]) := by
            show _ = _
            unfold q1
            rw [if_neg (by rw [HD0.out]; simp), if_neg hlow]
          clear hlow
          go_wp2_with fail
          refine (sign_any y.toNat _ y.toNat_lt).mono ?_
          rintro e w3 ⟨rfl, rfl⟩
          rw [HD.out]
          go_wp2_with fail
          refine (wb Z Z _ y _ rfl w _ h1 (by have := HTL.out; rw [List.length_cons]; omega)).mono ?_
          rintro e w3 ⟨rfl, h3⟩
          clear h1
          go_wp2_with fail
          go_roundg (n - (k + 1))
          case measure => have := HLT.out; omega
          case rel =>
            refine ⟨k + 1, rfl, HLT.out, by go_num, ?_⟩
            rw [HSN.out, HQ.out, show 34 :: (pre ++ [y]) = 34 :: pre ++ [y] from by simp]
            exact h3
      · have t0 : ((d : Int) != 0) = true := by rw [bne_iff_ne]; omega
        have HD9 : Hid (d < 256) := by rw [← HD.out]; exact sgn_lt y.toNat_lt
        have HQ : Hid (q1 y = [92, UInt8.ofNat d]) := by
          show _ = _
          unfold q1
          rw [HD.out, if_pos hd0]
        clear hd0
        go_wp2_with fail
        refine (sign_any y.toNat _ y.toNat_lt).mono ?_
        rintro e w3 ⟨rfl, rfl⟩
        rw [HD.out]
        go_wp2_with fail
        refine (wb Z Z _ 92 _ rfl w _ h1 (by have := HTL.out; simp; omega)).mono ?_
        rintro e w3 ⟨rfl, h3⟩
        clear h1
        go_wp2_with fail
        refine (wb Z Z _ (UInt8.ofNat d) _ (by have := HD9.out; simp; omega) w _ h3 (by have := HTL.out; simp; omega)).mono ?_
        rintro e w4 ⟨rfl, h4⟩
        clear h3
        go_wp2_with fail
        go_roundg (n - (k + 1))
        case measure => have := HLT.out; omega
        case rel =>
          refine ⟨k + 1, rfl, HLT.out, by go_num, ?_⟩
          rw [HSN.out, HQ.out, show 34 :: (pre ++ [92, UInt8.ofNat d]) = 34 :: pre ++ [92] ++ [UInt8.ofNat d] from by simp]
          exact h4
    · obtain rfl : n = k := by omega
      have hlti : ¬ ((n : Int) < (n : Int)) := by omega
      have HE : Hid ((l.take n).flatMap q1 = l.flatMap q1) := by
        show _ = _
        rw [List.take_of_length_le (by rw [HN.out.1]; exact Nat.le_refl _)]
      have h2 : Hid (Since Z w wr ∧ Bd Z Z (34 :: l.flatMap q1) wr) := by rw [← HE.out]; exact h1
      have HLL : Hid ((l.flatMap q1).length ≤ 300000) := by
        show _ ≤ _
        have := flat_len l
        have := HN.out
        omega
      clear h1 hk hlt
      go_wp2_with fail
      refine (wb Z Z _ 34 _ rfl w _ h2 (by have := HLL.out; rw [List.length_cons]; omega)).mono ?_
      rintro e w3 ⟨rfl, h3⟩
      clear h2
      go_wp2_with fail
      refine (string_any Z Z _ _ h3.out.2 h3.out.1.2).mono ?_
      rintro e w4 ⟨rfl, hb⟩
      have h4 : Hid (Below Z w w4) := h3.out.1.1.trans hb.out
      go_wp2_with fail
      go_ret
      exact ⟨rfl, h4⟩
end Go.Proofs.YtcdhkeahcliefaaGreatDoor.Quo
/- The text of a query's term: plain; what a text's walk needs. -/
namespace Go.Proofs.YtcdhkeahcliefaaGreatDoor.Text
open Go.ChangeShapes Go.WideShapes Go.ChangeAt Go.RowKit
open Go.Proofs.YtcdhkeahcliefaaGreatDoor.Kit Go.Proofs.YtcdhkeahcliefaaGreatDoor.Base Go.Proofs.YtcdhkeahcliefaaGreatDoor.Quo Go.Proofs.YtcdhkeahcliefaaGreatDoor.Term Go.Proofs.YtcdhkeahcliefaaGreatDoor.Syn
set_option linter.unusedVariables false

theorem q1_pos (c : UInt8) : 1 ≤ (q1 c).length := by
  unfold q1
  split
  · simp
  · split <;> simp
theorem quo_len (x : W) : x.length + 2 ≤ (quo x).length := by
  have key : x.length ≤ (x.flatMap q1).length := by
    induction x with
    | nil => exact Nat.le_refl _
    | cons c x ih =>
      have := q1_pos c
      rw [List.flatMap_cons, List.length_append, List.length_cons]
      omega
  unfold quo
  simp only [List.length_cons, List.length_append, List.length_nil]
  omega
def isE : Term → Bool
  | .either _ => true
  | _ => false
def isC : Term → Bool
  | .either _ => true
  | .both _ => true
  | _ => false
def br (x : W) : W := [40, 32] ++ x ++ [32, 41]
def brIf (b : Bool) (x : W) : W := if b then br x else x
mutual
noncomputable def textT : Term → W
  | .all => [97, 108, 108]
  | .empty => [101, 109, 112, 116, 121]
  | .sparse => [115, 112, 97, 114, 115, 101]
  | .kind k => [107, 105, 110, 100, 32] ++ k
  | .field a h n => a ++ [32] ++ h ++ [32] ++ Lib.itoa (n : Nat)
  | .pattern a x => a ++ [32] ++ quo x
  | .under x => [117, 110, 100, 101, 114, 32] ++ quo x
  | .same x => [115, 97, 109, 101, 32] ++ quo x
  | .content a x => a ++ [32] ++ quo x
  | .not t => [110, 111, 116, 32] ++ brIf (isC t) (textT t)
  | .has t => [104, 97, 115, 32] ++ brIf (isC t) (textT t)
  | .both l => Lib.join (textsB l) [32, 97, 110, 100, 32]
  | .either l => Lib.join (textsE l) [32, 111, 114, 32]
noncomputable def textsB : List Term → List W
  | [] => []
  | t :: l => brIf (isE t) (textT t) :: textsB l
noncomputable def textsE : List Term → List W
  | [] => []
  | t :: l => textT t :: textsE l
end
theorem textsB_map (l : List Term) : textsB l = l.map fun t => brIf (isE t) (textT t) := by
  induction l with
  | nil => rfl
  | cons t l ih => rw [textsB, ih]; rfl
theorem textsE_map (l : List Term) : textsE l = l.map textT := by
  induction l with
  | nil => rfl
  | cons t l ih => rw [textsE, ih]; rfl
theorem brIf_len (b : Bool) (x : W) : x.length ≤ (brIf b x).length ∧ (brIf b x).length ≤ x.length + 4 := by
  cases b
  · exact ⟨Nat.le_refl _, Nat.le_add_right _ _⟩
  · show x.length ≤ ([40, 32] ++ x ++ [32, 41]).length ∧ ([40, 32] ++ x ++ [32, 41]).length ≤ _
    simp
    omega
theorem join_len (sep : W) : ∀ (l : List W), (∀ x ∈ l, x.length ≤ (Lib.join l sep).length) ∧ (l.length - 1) * sep.length ≤ (Lib.join l sep).length := by
  intro l
  induction l with
  | nil => exact ⟨fun x h => (by cases h), by simp⟩
  | cons a l ih =>
    rw [Lib.join_cons]
    cases l with
    | nil => exact ⟨fun x h => (by simp at h; subst h; simp [Lib.joinTail]), (by simp)⟩
    | cons b l =>
      have e : Lib.joinTail sep (b :: l) = sep ++ Lib.join (b :: l) sep := by
        rw [Lib.join_cons]
        simp [Lib.joinTail]
      rw [e]
      refine ⟨fun x h => ?_, ?_⟩
      · rcases List.mem_cons.1 h with rfl | h
        · simp
        · have := ih.1 x h
          simp
          omega
      · have h2 := ih.2
        simp only [List.length_cons, List.length_append, Nat.add_sub_cancel] at h2 ⊢
        rw [Nat.add_mul]
        omega
/-- the tables of the library that a text's and a query's walk read -/
def Tabs (w : World) : Prop := Lib.Utf8Tabs 0 1 w ∧ Lib.TabIs Tryz.prog w "internal/strconv.uint64pow10" .u64 Lib.pow10Tab
theorem pow10_at : ∃ g, Tryz.prog.globalNamed "internal/strconv.uint64pow10" = some g := Option.isSome_iff_exists.1 (by kernel_rfl)
theorem Tabs.below {w w' : World} (h : Tabs w) (hb : Below w.heap.size w w') : Tabs w' := by
  obtain ⟨⟨h1, h2⟩, h3⟩ := h
  obtain ⟨g, hg⟩ := pow10_at
  refine ⟨⟨fun c hc => ?_, fun i hi => ?_⟩, Joins.var_stays hg h3 hb (Nat.le_refl _)⟩
  · exact (hb.cell (World.block_lt_of_cell? w _ (h1 c hc))).trans (h1 c hc)
  · obtain ⟨a, b⟩ := h2 i hi
    exact ⟨(hb.cell (World.block_lt_of_cell? w _ a)).trans a, (hb.cell (World.block_lt_of_cell? w _ b)).trans b⟩
def TextPost (l : W) (w : World) (e : Ending) (w' : World) : Prop := e = .returned (.string (str l)) ∧ Hid (Below w.heap.size w w')
theorem itoa_any (n : Nat) (hn : n ≤ 999999999) (w : World) (ht : Hid (Tabs w)) : Calls Tryz.prog 16 #[.int .i64 (n : Nat)] w (TextPost (Lib.itoa (n : Nat)) w) := by
  refine (Tryz.strconv_Itoa (n : Nat) (by omega) (by omega) w ht.out.2).mono ?_
  rintro e w' ⟨rfl, k, os, rfl⟩
  refine ⟨rfl, ?_⟩
  have h1 : Below w.heap.size w (w.drewN k) := ((Still.refl w).drewN k).below _
  refine h1.trans ?_
  exact ⟨rfl, rfl, rfl, by simp [Sort.grow], fun j hj => by simp only [Sort.grow]; rw [Array.getElem?_append_left (by simpa using hj)]⟩
theorem below_bytes (w : World) (s : ByteArray) : Below w.heap.size w (Lib.bytesWorld w 5 s) :=
  ⟨rfl, rfl, rfl, by rw [Lib.bytesWorld_size]; omega, fun j hj => Lib.bytesWorld_at_old w 5 s j hj⟩
/-- a text's bytes laid in new memory -/
theorem conv_str (src : TypeId) (hs : Tryz.prog.underlying src = some .string) (x : W) (w : World) : (convert src 60 (.string (str x))).run Tryz.prog w = .ok (.slice (some ⟨w.heap.size, 0, none⟩) x.length (grownCap w x.length 0 5)) (Lib.bytesWorld w 5 (str x)) := by
  have h := Lib.run_convert_string_bytes (P := Tryz.prog) w src 60 5 (str x) hs Tryz.underlying60 Tryz.underlying5
  rw [str_size] at h
  exact h
theorem bytes_conv (x : W) (w : World) : Bytes (Lib.bytesWorld w 5 (str x)) (some ⟨w.heap.size, 0, none⟩) x := fun i hi => by
  refine ⟨_, rfl, ?_⟩
  rw [add_block, Lib.bytesWorld_cell w 5 (str x) i (by rw [str_size]; exact hi)]
  rw [str_list]
  simp [hi]
/-- a text's quotation, its bytes just laid -/
theorem quote_conv (x : W) (hx : Hid (x.length ≤ 65536)) (c : Nat) (w : World) : Calls Tryz.prog 17 #[.slice (some ⟨w.heap.size, 0, none⟩) x.length c] (Lib.bytesWorld w 5 (str x)) (TextPost (quo x) w) := by
  refine (quote_any (some ⟨w.heap.size, 0, none⟩) x.length c x (Lib.bytesWorld w 5 (str x)) rfl (by have := hx.out; omega) (bytes_conv x w)).mono ?_
  rintro e w' ⟨rfl, hb⟩
  exact ⟨rfl, (below_bytes w (str x)).trans (hb.out.mono (below_bytes w (str x)).size)⟩
/-- two cells that are read among calls that make memory -/
theorem keep2 {w w1 w2 : World} {a b : Addr} {u v : Value} (h : Hid (Below w.heap.size w w1) ∧ w1.cell? a = some u ∧ w1.cell? b = some v) (hb : Below w1.heap.size w1 w2) : Hid (Below w.heap.size w w2) ∧ w2.cell? a = some u ∧ w2.cell? b = some v :=
  ⟨h.1.out.trans (hb.mono h.1.out.size), (hb.cell (World.block_lt_of_cell? w1 _ h.2.1)).trans h.2.1, (hb.cell (World.block_lt_of_cell? w1 _ h.2.2)).trans h.2.2⟩
theorem below_drew (w : World) : Below w.heap.size w w.drew := (Below.refl _ _).drew
theorem quote_at (x : W) (hx : Hid (x.length ≤ 65536)) (c n : Nat) (w : World) (hn : w.heap.size = n) : Calls Tryz.prog 17 #[.slice (some ⟨n, 0, none⟩) x.length c] (Lib.bytesWorld w 5 (str x)) (TextPost (quo x) w) := by
  subst hn
  exact quote_conv x hx c w
end Go.Proofs.YtcdhkeahcliefaaGreatDoor.Text
