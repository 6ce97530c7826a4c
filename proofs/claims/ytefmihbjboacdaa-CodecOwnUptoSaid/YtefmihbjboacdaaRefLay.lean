/- The document's lay. -/
import Derived.Test.YtefmihbjboacdaaWriter
import Derived.Test.YtefmihbjboacdaaRefSum
namespace Go.Proofs.Ytefmihbjboacdaa.RefLay
open Go.ChangeShapes Go.WideShapes Go.ChangeAt Go.RowKit
open Go.Proofs.Ytefmihbjboacdaa.Kit Go.Proofs.Ytefmihbjboacdaa.Crc Go.Proofs.Ytefmihbjboacdaa.Reads Go.Proofs.Ytefmihbjboacdaa.Copy Go.Proofs.Ytefmihbjboacdaa.Lay Go.Proofs.Ytefmihbjboacdaa.Writer
set_option linter.unusedVariables false

set_option maxRecDepth 100000 in
set_option maxHeartbeats 1600000 in
theorem lay_any (B c at' n v : Nat) (l : List UInt8) (w : World) (hn : n ≤ 8) (hv : v < 9223372036854775808) (hfit : at' + n ≤ l.length) (hl : l.length ≤ 140737488351232) (HK : Hid (Blk w B (bvs l) 5)) :
    Calls Try.prog 54 #[.slice (some ⟨B, 0, none⟩) l.length c, .int .i64 at', .int .i64 n, .int .i64 v] w fun e w' => e = .returned (.tuple #[]) ∧ Hid (Only B w w' ∧ Blk w' B (bvs (put l at' (leN n v))) 5) := by
  go_enter Try.func54, Try.ntmps54
  go_wp2_with fail
  go_loopw [3, 8] (fun q i wr => ∃ (k : Nat), i = .int .i64 k ∧ q = .int .i64 ((v / 256 ^ k : Nat) : Int) ∧ k ≤ n ∧ Hid (Only B w wr ∧ Blk wr B (bvs (put l at' (leN k v))) 5)) (fun _ i _ => n - (intOf i).toNat)
  case atStart => 
    refine ⟨0, rfl, by simp, Nat.zero_le _, Only.refl _ _, ?_⟩
    rw [leN, put_nil]
    exact HK
  case round =>
    obtain ⟨k, rfl, rfl, hk, HR⟩ := hrel
    by_cases hlt : k < n
    · have i1 : (at' : Int) + (k : Int) < (l.length : Int) := by omega
      have i0 : (0 : Int) ≤ (at' : Int) + (k : Int) := by omega
      obtain ⟨y, c2⟩ : ∃ y, wr.cell? ⟨B, at' + k, none⟩ = some (.int .u8 y) := ⟨_, (HR.out.2.cell _).trans (bvs_get _ _ (by rw [put_length _ _ _ (by rw [leN_length]; omega)]; omega))⟩
      have f2 := HR.out.2.frozen (at' + k)
      have HQ := Lib.hid (show v8 (nb v k) = ((v / 256 ^ k : Nat) : Int) % 256 from by rw [v8_nb]; omega)
      have HQ2 := Lib.hid (show ((v / 256 ^ (k + 1) : Nat) : Int) = ((v / 256 ^ k : Nat) : Int) / 256 from by rw [Nat.pow_succ, ← Nat.div_div_eq_div_mul]; omega)
      have b1 : v / 256 ^ k < 9223372036854775808 := Nat.lt_of_le_of_lt (Nat.div_le_self _ _) hv
      generalize v / 256 ^ k = q at *
      go_wp2_with fail
      refine ⟨⟨k + 1, by go_num, by rw [HQ2.out], by omega, HR.out.1.setCell _ rfl _, ?_⟩, by simp [intOf]; omega⟩
      have h := HR.out.2.put (at' + k) (.int .u8 (v8 (nb v k)))
      rw [bvs_set, put_leN _ _ _ _ (by omega), HQ.out] at h
      trace_state
      exact h
    · have ek : k = n := by omega
      subst ek
      go_wp2_with fail
      go_end0
      exact ⟨rfl, HR⟩
end Go.Proofs.Ytefmihbjboacdaa.RefLay
