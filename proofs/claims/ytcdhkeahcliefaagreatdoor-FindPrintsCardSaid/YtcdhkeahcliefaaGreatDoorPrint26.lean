/- The program's text: what is asked of a term's type. The program's text: terms without a call. The program's text: paths. The program's text: a word and a quotation. The program's text: a word and a quotation. The program's text: numbers. -/
import Derived.Test.YtcdhkeahcliefaaGreatDoorPrint25
/- The program's text: what is asked of a term's type. -/
namespace Go.Proofs.YtcdhkeahcliefaaGreatDoor.TextA
open Go.ChangeShapes Go.WideShapes Go.ChangeAt Go.RowKit
open Go.Proofs.YtcdhkeahcliefaaGreatDoor.Kit Go.Proofs.YtcdhkeahcliefaaGreatDoor.Base Go.Proofs.YtcdhkeahcliefaaGreatDoor.Quo Go.Proofs.YtcdhkeahcliefaaGreatDoor.Term Go.Proofs.YtcdhkeahcliefaaGreatDoor.Syn Go.Proofs.YtcdhkeahcliefaaGreatDoor.Text
set_option linter.unusedVariables false
theorem yes43 (W : World) (v : Value) : (Instr.typeAssert (.iface 43 v) 32 43 true).run Tryz.prog W = .ok (.tuple #[v, .bool true]) W := by kernel_rfl
theorem no43 (W : World) (u : TypeId) (v : Value) (h : u ≠ 43) : (Instr.typeAssert (.iface u v) 32 43 true).run Tryz.prog W = .ok (.tuple #[.slice none 0 0, .bool false]) W := by
  have e : (Instr.typeAssert (.iface u v) 32 43 true).run Tryz.prog W = (if u = 43 then (pure (Value.tuple #[v, .bool true]) : Sem Value) else (do pure (Value.tuple #[← zeroValue 43, .bool false]))).run Tryz.prog W := by kernel_rfl
  rw [e, if_neg h]
  have e2 : (do pure (Value.tuple #[← zeroValue 43, .bool false]) : Sem Value).run Tryz.prog W = .ok (.tuple #[.slice none 0 0, .bool false]) W := by kernel_rfl
  exact e2
theorem yes45 (W : World) (v : Value) : (Instr.typeAssert (.iface 45 v) 32 45 true).run Tryz.prog W = .ok (.tuple #[v, .bool true]) W := by kernel_rfl
theorem no45 (W : World) (u : TypeId) (v : Value) (h : u ≠ 45) : (Instr.typeAssert (.iface u v) 32 45 true).run Tryz.prog W = .ok (.tuple #[.slice none 0 0, .bool false]) W := by
  have e : (Instr.typeAssert (.iface u v) 32 45 true).run Tryz.prog W = (if u = 45 then (pure (Value.tuple #[v, .bool true]) : Sem Value) else (do pure (Value.tuple #[← zeroValue 45, .bool false]))).run Tryz.prog W := by kernel_rfl
  rw [e, if_neg h]
  have e2 : (do pure (Value.tuple #[← zeroValue 45, .bool false]) : Sem Value).run Tryz.prog W = .ok (.tuple #[.slice none 0 0, .bool false]) W := by kernel_rfl
  exact e2
theorem yes47 (W : World) (v : Value) : (Instr.typeAssert (.iface 47 v) 32 47 true).run Tryz.prog W = .ok (.tuple #[v, .bool true]) W := by kernel_rfl
theorem no47 (W : World) (u : TypeId) (v : Value) (h : u ≠ 47) : (Instr.typeAssert (.iface u v) 32 47 true).run Tryz.prog W = .ok (.tuple #[.agg #[.nilIface], .bool false]) W := by
  have e : (Instr.typeAssert (.iface u v) 32 47 true).run Tryz.prog W = (if u = 47 then (pure (Value.tuple #[v, .bool true]) : Sem Value) else (do pure (Value.tuple #[← zeroValue 47, .bool false]))).run Tryz.prog W := by kernel_rfl
  rw [e, if_neg h]
  have e2 : (do pure (Value.tuple #[← zeroValue 47, .bool false]) : Sem Value).run Tryz.prog W = .ok (.tuple #[.agg #[.nilIface], .bool false]) W := by kernel_rfl
  exact e2
theorem yes48 (W : World) (v : Value) : (Instr.typeAssert (.iface 48 v) 32 48 true).run Tryz.prog W = .ok (.tuple #[v, .bool true]) W := by kernel_rfl
theorem no48 (W : World) (u : TypeId) (v : Value) (h : u ≠ 48) : (Instr.typeAssert (.iface u v) 32 48 true).run Tryz.prog W = .ok (.tuple #[.agg #[.nilIface], .bool false]) W := by
  have e : (Instr.typeAssert (.iface u v) 32 48 true).run Tryz.prog W = (if u = 48 then (pure (Value.tuple #[v, .bool true]) : Sem Value) else (do pure (Value.tuple #[← zeroValue 48, .bool false]))).run Tryz.prog W := by kernel_rfl
  rw [e, if_neg h]
  have e2 : (do pure (Value.tuple #[← zeroValue 48, .bool false]) : Sem Value).run Tryz.prog W = .ok (.tuple #[.agg #[.nilIface], .bool false]) W := by kernel_rfl
  exact e2
theorem yes50 (W : World) (v : Value) : (Instr.typeAssert (.iface 50 v) 32 50 true).run Tryz.prog W = .ok (.tuple #[v, .bool true]) W := by kernel_rfl
theorem no50 (W : World) (u : TypeId) (v : Value) (h : u ≠ 50) : (Instr.typeAssert (.iface u v) 32 50 true).run Tryz.prog W = .ok (.tuple #[.agg #[], .bool false]) W := by
  have e : (Instr.typeAssert (.iface u v) 32 50 true).run Tryz.prog W = (if u = 50 then (pure (Value.tuple #[v, .bool true]) : Sem Value) else (do pure (Value.tuple #[← zeroValue 50, .bool false]))).run Tryz.prog W := by kernel_rfl
  rw [e, if_neg h]
  have e2 : (do pure (Value.tuple #[← zeroValue 50, .bool false]) : Sem Value).run Tryz.prog W = .ok (.tuple #[.agg #[], .bool false]) W := by kernel_rfl
  exact e2
theorem yes51 (W : World) (v : Value) : (Instr.typeAssert (.iface 51 v) 32 51 true).run Tryz.prog W = .ok (.tuple #[v, .bool true]) W := by kernel_rfl
theorem no51 (W : World) (u : TypeId) (v : Value) (h : u ≠ 51) : (Instr.typeAssert (.iface u v) 32 51 true).run Tryz.prog W = .ok (.tuple #[.agg #[], .bool false]) W := by
  have e : (Instr.typeAssert (.iface u v) 32 51 true).run Tryz.prog W = (if u = 51 then (pure (Value.tuple #[v, .bool true]) : Sem Value) else (do pure (Value.tuple #[← zeroValue 51, .bool false]))).run Tryz.prog W := by kernel_rfl
  rw [e, if_neg h]
  have e2 : (do pure (Value.tuple #[← zeroValue 51, .bool false]) : Sem Value).run Tryz.prog W = .ok (.tuple #[.agg #[], .bool false]) W := by kernel_rfl
  exact e2
theorem yes52 (W : World) (v : Value) : (Instr.typeAssert (.iface 52 v) 32 52 true).run Tryz.prog W = .ok (.tuple #[v, .bool true]) W := by kernel_rfl
theorem no52 (W : World) (u : TypeId) (v : Value) (h : u ≠ 52) : (Instr.typeAssert (.iface u v) 32 52 true).run Tryz.prog W = .ok (.tuple #[.agg #[], .bool false]) W := by
  have e : (Instr.typeAssert (.iface u v) 32 52 true).run Tryz.prog W = (if u = 52 then (pure (Value.tuple #[v, .bool true]) : Sem Value) else (do pure (Value.tuple #[← zeroValue 52, .bool false]))).run Tryz.prog W := by kernel_rfl
  rw [e, if_neg h]
  have e2 : (do pure (Value.tuple #[← zeroValue 52, .bool false]) : Sem Value).run Tryz.prog W = .ok (.tuple #[.agg #[], .bool false]) W := by kernel_rfl
  exact e2
theorem yes53 (W : World) (v : Value) : (Instr.typeAssert (.iface 53 v) 32 53 true).run Tryz.prog W = .ok (.tuple #[v, .bool true]) W := by kernel_rfl
theorem no53 (W : World) (u : TypeId) (v : Value) (h : u ≠ 53) : (Instr.typeAssert (.iface u v) 32 53 true).run Tryz.prog W = .ok (.tuple #[.string ⟨#[]⟩, .bool false]) W := by
  have e : (Instr.typeAssert (.iface u v) 32 53 true).run Tryz.prog W = (if u = 53 then (pure (Value.tuple #[v, .bool true]) : Sem Value) else (do pure (Value.tuple #[← zeroValue 53, .bool false]))).run Tryz.prog W := by kernel_rfl
  rw [e, if_neg h]
  have e2 : (do pure (Value.tuple #[← zeroValue 53, .bool false]) : Sem Value).run Tryz.prog W = .ok (.tuple #[.string ⟨#[]⟩, .bool false]) W := by kernel_rfl
  exact e2
theorem yes55 (W : World) (v : Value) : (Instr.typeAssert (.iface 55 v) 32 55 true).run Tryz.prog W = .ok (.tuple #[v, .bool true]) W := by kernel_rfl
theorem no55 (W : World) (u : TypeId) (v : Value) (h : u ≠ 55) : (Instr.typeAssert (.iface u v) 32 55 true).run Tryz.prog W = .ok (.tuple #[.agg #[.string ⟨#[]⟩, .string ⟨#[]⟩, .int .i64 0], .bool false]) W := by
  have e : (Instr.typeAssert (.iface u v) 32 55 true).run Tryz.prog W = (if u = 55 then (pure (Value.tuple #[v, .bool true]) : Sem Value) else (do pure (Value.tuple #[← zeroValue 55, .bool false]))).run Tryz.prog W := by kernel_rfl
  rw [e, if_neg h]
  have e2 : (do pure (Value.tuple #[← zeroValue 55, .bool false]) : Sem Value).run Tryz.prog W = .ok (.tuple #[.agg #[.string ⟨#[]⟩, .string ⟨#[]⟩, .int .i64 0], .bool false]) W := by kernel_rfl
  exact e2
theorem yes58 (W : World) (v : Value) : (Instr.typeAssert (.iface 58 v) 32 58 true).run Tryz.prog W = .ok (.tuple #[v, .bool true]) W := by kernel_rfl
theorem no58 (W : World) (u : TypeId) (v : Value) (h : u ≠ 58) : (Instr.typeAssert (.iface u v) 32 58 true).run Tryz.prog W = .ok (.tuple #[.agg #[.string ⟨#[]⟩, .string ⟨#[]⟩, .slice none 0 0], .bool false]) W := by
  have e : (Instr.typeAssert (.iface u v) 32 58 true).run Tryz.prog W = (if u = 58 then (pure (Value.tuple #[v, .bool true]) : Sem Value) else (do pure (Value.tuple #[← zeroValue 58, .bool false]))).run Tryz.prog W := by kernel_rfl
  rw [e, if_neg h]
  have e2 : (do pure (Value.tuple #[← zeroValue 58, .bool false]) : Sem Value).run Tryz.prog W = .ok (.tuple #[.agg #[.string ⟨#[]⟩, .string ⟨#[]⟩, .slice none 0 0], .bool false]) W := by kernel_rfl
  exact e2
theorem yes61 (W : World) (v : Value) : (Instr.typeAssert (.iface 61 v) 32 61 true).run Tryz.prog W = .ok (.tuple #[v, .bool true]) W := by kernel_rfl
theorem no61 (W : World) (u : TypeId) (v : Value) (h : u ≠ 61) : (Instr.typeAssert (.iface u v) 32 61 true).run Tryz.prog W = .ok (.tuple #[.string ⟨#[]⟩, .bool false]) W := by
  have e : (Instr.typeAssert (.iface u v) 32 61 true).run Tryz.prog W = (if u = 61 then (pure (Value.tuple #[v, .bool true]) : Sem Value) else (do pure (Value.tuple #[← zeroValue 61, .bool false]))).run Tryz.prog W := by kernel_rfl
  rw [e, if_neg h]
  have e2 : (do pure (Value.tuple #[← zeroValue 61, .bool false]) : Sem Value).run Tryz.prog W = .ok (.tuple #[.string ⟨#[]⟩, .bool false]) W := by kernel_rfl
  exact e2
theorem yes62 (W : World) (v : Value) : (Instr.typeAssert (.iface 62 v) 32 62 true).run Tryz.prog W = .ok (.tuple #[v, .bool true]) W := by kernel_rfl
theorem no62 (W : World) (u : TypeId) (v : Value) (h : u ≠ 62) : (Instr.typeAssert (.iface u v) 32 62 true).run Tryz.prog W = .ok (.tuple #[.string ⟨#[]⟩, .bool false]) W := by
  have e : (Instr.typeAssert (.iface u v) 32 62 true).run Tryz.prog W = (if u = 62 then (pure (Value.tuple #[v, .bool true]) : Sem Value) else (do pure (Value.tuple #[← zeroValue 62, .bool false]))).run Tryz.prog W := by kernel_rfl
  rw [e, if_neg h]
  have e2 : (do pure (Value.tuple #[← zeroValue 62, .bool false]) : Sem Value).run Tryz.prog W = .ok (.tuple #[.string ⟨#[]⟩, .bool false]) W := by kernel_rfl
  exact e2
theorem yes64 (W : World) (v : Value) : (Instr.typeAssert (.iface 64 v) 32 64 true).run Tryz.prog W = .ok (.tuple #[v, .bool true]) W := by kernel_rfl
theorem no64 (W : World) (u : TypeId) (v : Value) (h : u ≠ 64) : (Instr.typeAssert (.iface u v) 32 64 true).run Tryz.prog W = .ok (.tuple #[.agg #[.string ⟨#[]⟩, .string ⟨#[]⟩], .bool false]) W := by
  have e : (Instr.typeAssert (.iface u v) 32 64 true).run Tryz.prog W = (if u = 64 then (pure (Value.tuple #[v, .bool true]) : Sem Value) else (do pure (Value.tuple #[← zeroValue 64, .bool false]))).run Tryz.prog W := by kernel_rfl
  rw [e, if_neg h]
  have e2 : (do pure (Value.tuple #[← zeroValue 64, .bool false]) : Sem Value).run Tryz.prog W = .ok (.tuple #[.agg #[.string ⟨#[]⟩, .string ⟨#[]⟩], .bool false]) W := by kernel_rfl
  exact e2
end Go.Proofs.YtcdhkeahcliefaaGreatDoor.TextA
/- The program's text: terms without a call. -/
namespace Go.Proofs.YtcdhkeahcliefaaGreatDoor.TextB
open Go.ChangeShapes Go.WideShapes Go.ChangeAt Go.RowKit
open Go.Proofs.YtcdhkeahcliefaaGreatDoor.Kit Go.Proofs.YtcdhkeahcliefaaGreatDoor.Base Go.Proofs.YtcdhkeahcliefaaGreatDoor.Quo Go.Proofs.YtcdhkeahcliefaaGreatDoor.Term Go.Proofs.YtcdhkeahcliefaaGreatDoor.Syn Go.Proofs.YtcdhkeahcliefaaGreatDoor.Text Go.Proofs.YtcdhkeahcliefaaGreatDoor.TextA
set_option linter.unusedVariables false
set_option maxRecDepth 100000 in
set_option maxHeartbeats 3200000 in
theorem text_all (w : World) (ht : Hid (Tabs w)) (hN : Hid ((textT (.all)).length ≤ 65536)) : Calls Tryz.prog 8 #[.iface 50 (.agg #[])] w (TextPost (textT (.all)) w) := by
  have n43 : ∀ W, (Instr.typeAssert (.iface 50 (.agg #[])) 32 43 true).run Tryz.prog W = .ok (.tuple #[.slice none 0 0, .bool false]) W := fun W => no43 W 50 _ (by decide)
  have n45 : ∀ W, (Instr.typeAssert (.iface 50 (.agg #[])) 32 45 true).run Tryz.prog W = .ok (.tuple #[.slice none 0 0, .bool false]) W := fun W => no45 W 50 _ (by decide)
  have n47 : ∀ W, (Instr.typeAssert (.iface 50 (.agg #[])) 32 47 true).run Tryz.prog W = .ok (.tuple #[.agg #[.nilIface], .bool false]) W := fun W => no47 W 50 _ (by decide)
  have n48 : ∀ W, (Instr.typeAssert (.iface 50 (.agg #[])) 32 48 true).run Tryz.prog W = .ok (.tuple #[.agg #[.nilIface], .bool false]) W := fun W => no48 W 50 _ (by decide)
  have y50 : ∀ W, (Instr.typeAssert (.iface 50 (.agg #[])) 32 50 true).run Tryz.prog W = .ok (.tuple #[(.agg #[]), .bool true]) W := fun W => yes50 W _
  go_enter Tryz.func8, Tryz.ntmps8
  go_wp2_with fail
  go_ret
  exact ⟨by rw [textT]; rfl, (Below.refl _ _).alloc (Nat.le_refl _) _⟩
set_option maxRecDepth 100000 in
set_option maxHeartbeats 3200000 in
theorem text_empty (w : World) (ht : Hid (Tabs w)) (hN : Hid ((textT (.empty)).length ≤ 65536)) : Calls Tryz.prog 8 #[.iface 51 (.agg #[])] w (TextPost (textT (.empty)) w) := by
  have n43 : ∀ W, (Instr.typeAssert (.iface 51 (.agg #[])) 32 43 true).run Tryz.prog W = .ok (.tuple #[.slice none 0 0, .bool false]) W := fun W => no43 W 51 _ (by decide)
  have n45 : ∀ W, (Instr.typeAssert (.iface 51 (.agg #[])) 32 45 true).run Tryz.prog W = .ok (.tuple #[.slice none 0 0, .bool false]) W := fun W => no45 W 51 _ (by decide)
  have n47 : ∀ W, (Instr.typeAssert (.iface 51 (.agg #[])) 32 47 true).run Tryz.prog W = .ok (.tuple #[.agg #[.nilIface], .bool false]) W := fun W => no47 W 51 _ (by decide)
  have n48 : ∀ W, (Instr.typeAssert (.iface 51 (.agg #[])) 32 48 true).run Tryz.prog W = .ok (.tuple #[.agg #[.nilIface], .bool false]) W := fun W => no48 W 51 _ (by decide)
  have n50 : ∀ W, (Instr.typeAssert (.iface 51 (.agg #[])) 32 50 true).run Tryz.prog W = .ok (.tuple #[.agg #[], .bool false]) W := fun W => no50 W 51 _ (by decide)
  have y51 : ∀ W, (Instr.typeAssert (.iface 51 (.agg #[])) 32 51 true).run Tryz.prog W = .ok (.tuple #[(.agg #[]), .bool true]) W := fun W => yes51 W _
  go_enter Tryz.func8, Tryz.ntmps8
  go_wp2_with fail
  go_ret
  exact ⟨by rw [textT]; rfl, (Below.refl _ _).alloc (Nat.le_refl _) _⟩
set_option maxRecDepth 100000 in
set_option maxHeartbeats 3200000 in
theorem text_sparse (w : World) (ht : Hid (Tabs w)) (hN : Hid ((textT (.sparse)).length ≤ 65536)) : Calls Tryz.prog 8 #[.iface 52 (.agg #[])] w (TextPost (textT (.sparse)) w) := by
  have n43 : ∀ W, (Instr.typeAssert (.iface 52 (.agg #[])) 32 43 true).run Tryz.prog W = .ok (.tuple #[.slice none 0 0, .bool false]) W := fun W => no43 W 52 _ (by decide)
  have n45 : ∀ W, (Instr.typeAssert (.iface 52 (.agg #[])) 32 45 true).run Tryz.prog W = .ok (.tuple #[.slice none 0 0, .bool false]) W := fun W => no45 W 52 _ (by decide)
  have n47 : ∀ W, (Instr.typeAssert (.iface 52 (.agg #[])) 32 47 true).run Tryz.prog W = .ok (.tuple #[.agg #[.nilIface], .bool false]) W := fun W => no47 W 52 _ (by decide)
  have n48 : ∀ W, (Instr.typeAssert (.iface 52 (.agg #[])) 32 48 true).run Tryz.prog W = .ok (.tuple #[.agg #[.nilIface], .bool false]) W := fun W => no48 W 52 _ (by decide)
  have n50 : ∀ W, (Instr.typeAssert (.iface 52 (.agg #[])) 32 50 true).run Tryz.prog W = .ok (.tuple #[.agg #[], .bool false]) W := fun W => no50 W 52 _ (by decide)
  have n51 : ∀ W, (Instr.typeAssert (.iface 52 (.agg #[])) 32 51 true).run Tryz.prog W = .ok (.tuple #[.agg #[], .bool false]) W := fun W => no51 W 52 _ (by decide)
  have y52 : ∀ W, (Instr.typeAssert (.iface 52 (.agg #[])) 32 52 true).run Tryz.prog W = .ok (.tuple #[(.agg #[]), .bool true]) W := fun W => yes52 W _
  go_enter Tryz.func8, Tryz.ntmps8
  go_wp2_with fail
  go_ret
  exact ⟨by rw [textT]; rfl, (Below.refl _ _).alloc (Nat.le_refl _) _⟩
set_option maxRecDepth 100000 in
set_option maxHeartbeats 3200000 in
theorem text_kind (k : W) (w : World) (ht : Hid (Tabs w)) (hN : Hid ((textT (.kind k)).length ≤ 65536)) : Calls Tryz.prog 8 #[.iface 53 (.string (str k))] w (TextPost (textT (.kind k)) w) := by
  have n43 : ∀ W, (Instr.typeAssert (.iface 53 (.string (str k))) 32 43 true).run Tryz.prog W = .ok (.tuple #[.slice none 0 0, .bool false]) W := fun W => no43 W 53 _ (by decide)
  have n45 : ∀ W, (Instr.typeAssert (.iface 53 (.string (str k))) 32 45 true).run Tryz.prog W = .ok (.tuple #[.slice none 0 0, .bool false]) W := fun W => no45 W 53 _ (by decide)
  have n47 : ∀ W, (Instr.typeAssert (.iface 53 (.string (str k))) 32 47 true).run Tryz.prog W = .ok (.tuple #[.agg #[.nilIface], .bool false]) W := fun W => no47 W 53 _ (by decide)
  have n48 : ∀ W, (Instr.typeAssert (.iface 53 (.string (str k))) 32 48 true).run Tryz.prog W = .ok (.tuple #[.agg #[.nilIface], .bool false]) W := fun W => no48 W 53 _ (by decide)
  have n50 : ∀ W, (Instr.typeAssert (.iface 53 (.string (str k))) 32 50 true).run Tryz.prog W = .ok (.tuple #[.agg #[], .bool false]) W := fun W => no50 W 53 _ (by decide)
  have n51 : ∀ W, (Instr.typeAssert (.iface 53 (.string (str k))) 32 51 true).run Tryz.prog W = .ok (.tuple #[.agg #[], .bool false]) W := fun W => no51 W 53 _ (by decide)
  have n52 : ∀ W, (Instr.typeAssert (.iface 53 (.string (str k))) 32 52 true).run Tryz.prog W = .ok (.tuple #[.agg #[], .bool false]) W := fun W => no52 W 53 _ (by decide)
  have y53 : ∀ W, (Instr.typeAssert (.iface 53 (.string (str k))) 32 53 true).run Tryz.prog W = .ok (.tuple #[(.string (str k)), .bool true]) W := fun W => yes53 W _
  have HX : Hid (textT (.kind k) = [107, 105, 110, 100, 32] ++ k) := by show _ = _; rw [textT]
  have n1 : ¬ (9223372036854775807 < 5 + (str k).size) := by have h := hN.out; rw [HX.out] at h; simp at h; rw [str_size]; omega
  go_enter Tryz.func8, Tryz.ntmps8
  go_wp2_with fail
  go_ret
  exact ⟨by rw [HX.out, ← str_append]; rfl, Below.refl _ _⟩
end Go.Proofs.YtcdhkeahcliefaaGreatDoor.TextB
/- The program's text: paths. -/
namespace Go.Proofs.YtcdhkeahcliefaaGreatDoor.TextC
open Go.ChangeShapes Go.WideShapes Go.ChangeAt Go.RowKit
open Go.Proofs.YtcdhkeahcliefaaGreatDoor.Kit Go.Proofs.YtcdhkeahcliefaaGreatDoor.Base Go.Proofs.YtcdhkeahcliefaaGreatDoor.Quo Go.Proofs.YtcdhkeahcliefaaGreatDoor.Term Go.Proofs.YtcdhkeahcliefaaGreatDoor.Syn Go.Proofs.YtcdhkeahcliefaaGreatDoor.Text Go.Proofs.YtcdhkeahcliefaaGreatDoor.TextA
set_option linter.unusedVariables false
set_option maxRecDepth 100000 in
set_option maxHeartbeats 3200000 in
theorem text_under (x : W) (w : World) (ht : Hid (Tabs w)) (hN : Hid ((textT (.under x)).length ≤ 65536)) : Calls Tryz.prog 8 #[.iface 61 (.string (str x))] w (TextPost (textT (.under x)) w) := by
  have n43 : ∀ W, (Instr.typeAssert (.iface 61 (.string (str x))) 32 43 true).run Tryz.prog W = .ok (.tuple #[.slice none 0 0, .bool false]) W := fun W => no43 W 61 _ (by decide)
  have n45 : ∀ W, (Instr.typeAssert (.iface 61 (.string (str x))) 32 45 true).run Tryz.prog W = .ok (.tuple #[.slice none 0 0, .bool false]) W := fun W => no45 W 61 _ (by decide)
  have n47 : ∀ W, (Instr.typeAssert (.iface 61 (.string (str x))) 32 47 true).run Tryz.prog W = .ok (.tuple #[.agg #[.nilIface], .bool false]) W := fun W => no47 W 61 _ (by decide)
  have n48 : ∀ W, (Instr.typeAssert (.iface 61 (.string (str x))) 32 48 true).run Tryz.prog W = .ok (.tuple #[.agg #[.nilIface], .bool false]) W := fun W => no48 W 61 _ (by decide)
  have n50 : ∀ W, (Instr.typeAssert (.iface 61 (.string (str x))) 32 50 true).run Tryz.prog W = .ok (.tuple #[.agg #[], .bool false]) W := fun W => no50 W 61 _ (by decide)
  have n51 : ∀ W, (Instr.typeAssert (.iface 61 (.string (str x))) 32 51 true).run Tryz.prog W = .ok (.tuple #[.agg #[], .bool false]) W := fun W => no51 W 61 _ (by decide)
  have n52 : ∀ W, (Instr.typeAssert (.iface 61 (.string (str x))) 32 52 true).run Tryz.prog W = .ok (.tuple #[.agg #[], .bool false]) W := fun W => no52 W 61 _ (by decide)
  have n53 : ∀ W, (Instr.typeAssert (.iface 61 (.string (str x))) 32 53 true).run Tryz.prog W = .ok (.tuple #[.string ⟨#[]⟩, .bool false]) W := fun W => no53 W 61 _ (by decide)
  have n55 : ∀ W, (Instr.typeAssert (.iface 61 (.string (str x))) 32 55 true).run Tryz.prog W = .ok (.tuple #[.agg #[.string ⟨#[]⟩, .string ⟨#[]⟩, .int .i64 0], .bool false]) W := fun W => no55 W 61 _ (by decide)
  have n58 : ∀ W, (Instr.typeAssert (.iface 61 (.string (str x))) 32 58 true).run Tryz.prog W = .ok (.tuple #[.agg #[.string ⟨#[]⟩, .string ⟨#[]⟩, .slice none 0 0], .bool false]) W := fun W => no58 W 61 _ (by decide)
  have y61 : ∀ W, (Instr.typeAssert (.iface 61 (.string (str x))) 32 61 true).run Tryz.prog W = .ok (.tuple #[(.string (str x)), .bool true]) W := fun W => yes61 W _
  have HX : Hid (textT (.under x) = [117, 110, 100, 101, 114, 32] ++ quo x) := by show _ = _; rw [textT]
  have hx : Hid (x.length ≤ 65536) := by have h := hN.out; rw [HX.out] at h; have h2 := quo_len x; simp at h; show _ ≤ _; omega
  have n1 : ¬ (9223372036854775807 < 6 + (str (quo x)).size) := by have h := hN.out; rw [HX.out] at h; simp at h; rw [str_size]; omega
  have hcv := conv_str 61 Tryz.underlying61 x w
  go_enter Tryz.func8, Tryz.ntmps8
  go_wp2_with fail
  refine (quote_conv x hx _ w).mono ?_
  rintro e w2 ⟨rfl, hb⟩
  go_wp2_with fail
  go_ret
  exact ⟨by rw [HX.out, ← str_append]; rfl, hb⟩
set_option maxRecDepth 100000 in
set_option maxHeartbeats 3200000 in
theorem text_same (x : W) (w : World) (ht : Hid (Tabs w)) (hN : Hid ((textT (.same x)).length ≤ 65536)) : Calls Tryz.prog 8 #[.iface 62 (.string (str x))] w (TextPost (textT (.same x)) w) := by
  have n43 : ∀ W, (Instr.typeAssert (.iface 62 (.string (str x))) 32 43 true).run Tryz.prog W = .ok (.tuple #[.slice none 0 0, .bool false]) W := fun W => no43 W 62 _ (by decide)
  have n45 : ∀ W, (Instr.typeAssert (.iface 62 (.string (str x))) 32 45 true).run Tryz.prog W = .ok (.tuple #[.slice none 0 0, .bool false]) W := fun W => no45 W 62 _ (by decide)
  have n47 : ∀ W, (Instr.typeAssert (.iface 62 (.string (str x))) 32 47 true).run Tryz.prog W = .ok (.tuple #[.agg #[.nilIface], .bool false]) W := fun W => no47 W 62 _ (by decide)
  have n48 : ∀ W, (Instr.typeAssert (.iface 62 (.string (str x))) 32 48 true).run Tryz.prog W = .ok (.tuple #[.agg #[.nilIface], .bool false]) W := fun W => no48 W 62 _ (by decide)
  have n50 : ∀ W, (Instr.typeAssert (.iface 62 (.string (str x))) 32 50 true).run Tryz.prog W = .ok (.tuple #[.agg #[], .bool false]) W := fun W => no50 W 62 _ (by decide)
  have n51 : ∀ W, (Instr.typeAssert (.iface 62 (.string (str x))) 32 51 true).run Tryz.prog W = .ok (.tuple #[.agg #[], .bool false]) W := fun W => no51 W 62 _ (by decide)
  have n52 : ∀ W, (Instr.typeAssert (.iface 62 (.string (str x))) 32 52 true).run Tryz.prog W = .ok (.tuple #[.agg #[], .bool false]) W := fun W => no52 W 62 _ (by decide)
  have n53 : ∀ W, (Instr.typeAssert (.iface 62 (.string (str x))) 32 53 true).run Tryz.prog W = .ok (.tuple #[.string ⟨#[]⟩, .bool false]) W := fun W => no53 W 62 _ (by decide)
  have n55 : ∀ W, (Instr.typeAssert (.iface 62 (.string (str x))) 32 55 true).run Tryz.prog W = .ok (.tuple #[.agg #[.string ⟨#[]⟩, .string ⟨#[]⟩, .int .i64 0], .bool false]) W := fun W => no55 W 62 _ (by decide)
  have n58 : ∀ W, (Instr.typeAssert (.iface 62 (.string (str x))) 32 58 true).run Tryz.prog W = .ok (.tuple #[.agg #[.string ⟨#[]⟩, .string ⟨#[]⟩, .slice none 0 0], .bool false]) W := fun W => no58 W 62 _ (by decide)
  have n61 : ∀ W, (Instr.typeAssert (.iface 62 (.string (str x))) 32 61 true).run Tryz.prog W = .ok (.tuple #[.string ⟨#[]⟩, .bool false]) W := fun W => no61 W 62 _ (by decide)
  have y62 : ∀ W, (Instr.typeAssert (.iface 62 (.string (str x))) 32 62 true).run Tryz.prog W = .ok (.tuple #[(.string (str x)), .bool true]) W := fun W => yes62 W _
  have HX : Hid (textT (.same x) = [115, 97, 109, 101, 32] ++ quo x) := by show _ = _; rw [textT]
  have hx : Hid (x.length ≤ 65536) := by have h := hN.out; rw [HX.out] at h; have h2 := quo_len x; simp at h; show _ ≤ _; omega
  have n1 : ¬ (9223372036854775807 < 5 + (str (quo x)).size) := by have h := hN.out; rw [HX.out] at h; simp at h; rw [str_size]; omega
  have hcv := conv_str 62 Tryz.underlying62 x w
  go_enter Tryz.func8, Tryz.ntmps8
  go_wp2_with fail
  refine (quote_conv x hx _ w).mono ?_
  rintro e w2 ⟨rfl, hb⟩
  go_wp2_with fail
  go_ret
  exact ⟨by rw [HX.out, ← str_append]; rfl, hb⟩
end Go.Proofs.YtcdhkeahcliefaaGreatDoor.TextC
/- The program's text: a word and a quotation. -/
namespace Go.Proofs.YtcdhkeahcliefaaGreatDoor.TextD
open Go.ChangeShapes Go.WideShapes Go.ChangeAt Go.RowKit
open Go.Proofs.YtcdhkeahcliefaaGreatDoor.Kit Go.Proofs.YtcdhkeahcliefaaGreatDoor.Base Go.Proofs.YtcdhkeahcliefaaGreatDoor.Quo Go.Proofs.YtcdhkeahcliefaaGreatDoor.Term Go.Proofs.YtcdhkeahcliefaaGreatDoor.Syn Go.Proofs.YtcdhkeahcliefaaGreatDoor.Text Go.Proofs.YtcdhkeahcliefaaGreatDoor.TextA
set_option linter.unusedVariables false
set_option maxRecDepth 100000 in
set_option maxHeartbeats 3200000 in
theorem text_content (a x : W) (w : World) (ht : Hid (Tabs w)) (hN : Hid ((textT (.content a x)).length ≤ 65536)) : Calls Tryz.prog 8 #[.iface 64 (.agg #[.string (str a), .string (str x)])] w (TextPost (textT (.content a x)) w) := by
  have n43 : ∀ W, (Instr.typeAssert (.iface 64 (.agg #[.string (str a), .string (str x)])) 32 43 true).run Tryz.prog W = .ok (.tuple #[.slice none 0 0, .bool false]) W := fun W => no43 W 64 _ (by decide)
  have n45 : ∀ W, (Instr.typeAssert (.iface 64 (.agg #[.string (str a), .string (str x)])) 32 45 true).run Tryz.prog W = .ok (.tuple #[.slice none 0 0, .bool false]) W := fun W => no45 W 64 _ (by decide)
  have n47 : ∀ W, (Instr.typeAssert (.iface 64 (.agg #[.string (str a), .string (str x)])) 32 47 true).run Tryz.prog W = .ok (.tuple #[.agg #[.nilIface], .bool false]) W := fun W => no47 W 64 _ (by decide)
  have n48 : ∀ W, (Instr.typeAssert (.iface 64 (.agg #[.string (str a), .string (str x)])) 32 48 true).run Tryz.prog W = .ok (.tuple #[.agg #[.nilIface], .bool false]) W := fun W => no48 W 64 _ (by decide)
  have n50 : ∀ W, (Instr.typeAssert (.iface 64 (.agg #[.string (str a), .string (str x)])) 32 50 true).run Tryz.prog W = .ok (.tuple #[.agg #[], .bool false]) W := fun W => no50 W 64 _ (by decide)
  have n51 : ∀ W, (Instr.typeAssert (.iface 64 (.agg #[.string (str a), .string (str x)])) 32 51 true).run Tryz.prog W = .ok (.tuple #[.agg #[], .bool false]) W := fun W => no51 W 64 _ (by decide)
  have n52 : ∀ W, (Instr.typeAssert (.iface 64 (.agg #[.string (str a), .string (str x)])) 32 52 true).run Tryz.prog W = .ok (.tuple #[.agg #[], .bool false]) W := fun W => no52 W 64 _ (by decide)
  have n53 : ∀ W, (Instr.typeAssert (.iface 64 (.agg #[.string (str a), .string (str x)])) 32 53 true).run Tryz.prog W = .ok (.tuple #[.string ⟨#[]⟩, .bool false]) W := fun W => no53 W 64 _ (by decide)
  have n55 : ∀ W, (Instr.typeAssert (.iface 64 (.agg #[.string (str a), .string (str x)])) 32 55 true).run Tryz.prog W = .ok (.tuple #[.agg #[.string ⟨#[]⟩, .string ⟨#[]⟩, .int .i64 0], .bool false]) W := fun W => no55 W 64 _ (by decide)
  have n58 : ∀ W, (Instr.typeAssert (.iface 64 (.agg #[.string (str a), .string (str x)])) 32 58 true).run Tryz.prog W = .ok (.tuple #[.agg #[.string ⟨#[]⟩, .string ⟨#[]⟩, .slice none 0 0], .bool false]) W := fun W => no58 W 64 _ (by decide)
  have n61 : ∀ W, (Instr.typeAssert (.iface 64 (.agg #[.string (str a), .string (str x)])) 32 61 true).run Tryz.prog W = .ok (.tuple #[.string ⟨#[]⟩, .bool false]) W := fun W => no61 W 64 _ (by decide)
  have n62 : ∀ W, (Instr.typeAssert (.iface 64 (.agg #[.string (str a), .string (str x)])) 32 62 true).run Tryz.prog W = .ok (.tuple #[.string ⟨#[]⟩, .bool false]) W := fun W => no62 W 64 _ (by decide)
  have y64 : ∀ W, (Instr.typeAssert (.iface 64 (.agg #[.string (str a), .string (str x)])) 32 64 true).run Tryz.prog W = .ok (.tuple #[(.agg #[.string (str a), .string (str x)]), .bool true]) W := fun W => yes64 W _
  have HX : Hid (textT (.content a x) = a ++ [32] ++ quo x) := by show _ = _; rw [textT]
  have hx : Hid (x.length ≤ 65536) := by have h := hN.out; rw [HX.out] at h; have h2 := quo_len x; simp at h; show _ ≤ _; omega
  have n1 : ¬ (9223372036854775807 < (str a).size + 1) := by have h := hN.out; rw [HX.out] at h; simp at h; rw [str_size]; omega
  have n2 : ¬ (9223372036854775807 < (str a).size + 1 + (str (quo x)).size) := by have h := hN.out; rw [HX.out] at h; simp at h; rw [str_size, str_size]; omega
  go_enter Tryz.func8, Tryz.ntmps8
  go_upto_region 40 with (fail)
  refine gen_world (fun w' => Hid (Below w.heap.size w w') ∧ Hid (Blk w' w.heap.size #[.string (str a), .string (str x)] 64)) ⟨(Below.refl _ _).alloc (Nat.le_refl _) _, Blk.new w _ _⟩ ?_
  rintro w1 ⟨hb1, hk1⟩
  have c0 : w1.cell? ⟨w.heap.size, 0, none⟩ = some (.string (str a)) := hk1.out.cell 0
  have c1 : w1.cell? ⟨w.heap.size, 1, none⟩ = some (.string (str x)) := hk1.out.cell 1
  clear n43 n45 n47 n48 n50 n51 n52 n53 n55 n58 n61 n62 y64
  have hcv := fun W => conv_str 9 Tryz.underlying9 x W
  have b0 : (Lib.bytesWorld w1.drew 5 (str x)).cell? ⟨w.heap.size, 0, none⟩ = some (.string (str a)) := ((below_bytes w1.drew (str x)).cell hk1.out.lt).trans c0
  have b1 : (Lib.bytesWorld w1.drew 5 (str x)).cell? ⟨w.heap.size, 1, none⟩ = some (.string (str x)) := ((below_bytes w1.drew (str x)).cell hk1.out.lt).trans c1
  go_region_with (first | (go_at_call 17; go_loud (refine (quote_at x hx _ _ _ (by first | rfl | simp)).mono ?_); rintro e wx ⟨rfl, hb⟩; have d0 : wx.cell? ⟨w.heap.size, 0, none⟩ = some (.string (str a)) := (hb.out.cell hk1.out.lt).trans c0))
  all_goals (go_wp2_with fail; go_ret; exact ⟨by rw [HX.out, ← str_append, ← str_append]; rfl, hb1.out.drew.trans (hb.out.mono hb1.out.size)⟩)
end Go.Proofs.YtcdhkeahcliefaaGreatDoor.TextD
/- The program's text: a word and a quotation. -/
namespace Go.Proofs.YtcdhkeahcliefaaGreatDoor.TextE
open Go.ChangeShapes Go.WideShapes Go.ChangeAt Go.RowKit
open Go.Proofs.YtcdhkeahcliefaaGreatDoor.Kit Go.Proofs.YtcdhkeahcliefaaGreatDoor.Base Go.Proofs.YtcdhkeahcliefaaGreatDoor.Quo Go.Proofs.YtcdhkeahcliefaaGreatDoor.Term Go.Proofs.YtcdhkeahcliefaaGreatDoor.Syn Go.Proofs.YtcdhkeahcliefaaGreatDoor.Text Go.Proofs.YtcdhkeahcliefaaGreatDoor.TextA
set_option linter.unusedVariables false
set_option maxRecDepth 100000 in
set_option maxHeartbeats 3200000 in
theorem text_pattern (a x : W) (pA : Option Addr) (pn pc : Nat) (w : World) (ht : Hid (Tabs w)) (hN : Hid ((textT (.pattern a x)).length ≤ 65536)) : Calls Tryz.prog 8 #[.iface 58 (.agg #[.string (str a), .string (str x), .slice pA pn pc])] w (TextPost (textT (.pattern a x)) w) := by
  have n43 : ∀ W, (Instr.typeAssert (.iface 58 (.agg #[.string (str a), .string (str x), .slice pA pn pc])) 32 43 true).run Tryz.prog W = .ok (.tuple #[.slice none 0 0, .bool false]) W := fun W => no43 W 58 _ (by decide)
  have n45 : ∀ W, (Instr.typeAssert (.iface 58 (.agg #[.string (str a), .string (str x), .slice pA pn pc])) 32 45 true).run Tryz.prog W = .ok (.tuple #[.slice none 0 0, .bool false]) W := fun W => no45 W 58 _ (by decide)
  have n47 : ∀ W, (Instr.typeAssert (.iface 58 (.agg #[.string (str a), .string (str x), .slice pA pn pc])) 32 47 true).run Tryz.prog W = .ok (.tuple #[.agg #[.nilIface], .bool false]) W := fun W => no47 W 58 _ (by decide)
  have n48 : ∀ W, (Instr.typeAssert (.iface 58 (.agg #[.string (str a), .string (str x), .slice pA pn pc])) 32 48 true).run Tryz.prog W = .ok (.tuple #[.agg #[.nilIface], .bool false]) W := fun W => no48 W 58 _ (by decide)
  have n50 : ∀ W, (Instr.typeAssert (.iface 58 (.agg #[.string (str a), .string (str x), .slice pA pn pc])) 32 50 true).run Tryz.prog W = .ok (.tuple #[.agg #[], .bool false]) W := fun W => no50 W 58 _ (by decide)
  have n51 : ∀ W, (Instr.typeAssert (.iface 58 (.agg #[.string (str a), .string (str x), .slice pA pn pc])) 32 51 true).run Tryz.prog W = .ok (.tuple #[.agg #[], .bool false]) W := fun W => no51 W 58 _ (by decide)
  have n52 : ∀ W, (Instr.typeAssert (.iface 58 (.agg #[.string (str a), .string (str x), .slice pA pn pc])) 32 52 true).run Tryz.prog W = .ok (.tuple #[.agg #[], .bool false]) W := fun W => no52 W 58 _ (by decide)
  have n53 : ∀ W, (Instr.typeAssert (.iface 58 (.agg #[.string (str a), .string (str x), .slice pA pn pc])) 32 53 true).run Tryz.prog W = .ok (.tuple #[.string ⟨#[]⟩, .bool false]) W := fun W => no53 W 58 _ (by decide)
  have n55 : ∀ W, (Instr.typeAssert (.iface 58 (.agg #[.string (str a), .string (str x), .slice pA pn pc])) 32 55 true).run Tryz.prog W = .ok (.tuple #[.agg #[.string ⟨#[]⟩, .string ⟨#[]⟩, .int .i64 0], .bool false]) W := fun W => no55 W 58 _ (by decide)
  have y58 : ∀ W, (Instr.typeAssert (.iface 58 (.agg #[.string (str a), .string (str x), .slice pA pn pc])) 32 58 true).run Tryz.prog W = .ok (.tuple #[(.agg #[.string (str a), .string (str x), .slice pA pn pc]), .bool true]) W := fun W => yes58 W _
  have HX : Hid (textT (.pattern a x) = a ++ [32] ++ quo x) := by show _ = _; rw [textT]
  have hx : Hid (x.length ≤ 65536) := by have h := hN.out; rw [HX.out] at h; have h2 := quo_len x; simp at h; show _ ≤ _; omega
  have n1 : ¬ (9223372036854775807 < (str a).size + 1) := by have h := hN.out; rw [HX.out] at h; simp at h; rw [str_size]; omega
  have n2 : ¬ (9223372036854775807 < (str a).size + 1 + (str (quo x)).size) := by have h := hN.out; rw [HX.out] at h; simp at h; rw [str_size, str_size]; omega
  go_enter Tryz.func8, Tryz.ntmps8
  go_upto_region 31 with (fail)
  refine gen_world (fun w' => Hid (Below w.heap.size w w') ∧ Hid (Blk w' w.heap.size #[.string (str a), .string (str x), .slice pA pn pc] 58)) ⟨(Below.refl _ _).alloc (Nat.le_refl _) _, Blk.new w _ _⟩ ?_
  rintro w1 ⟨hb1, hk1⟩
  have c0 : w1.cell? ⟨w.heap.size, 0, none⟩ = some (.string (str a)) := hk1.out.cell 0
  have c1 : w1.cell? ⟨w.heap.size, 1, none⟩ = some (.string (str x)) := hk1.out.cell 1
  clear n43 n45 n47 n48 n50 n51 n52 n53 n55 y58
  have hcv := fun W => conv_str 9 Tryz.underlying9 x W
  have b0 : (Lib.bytesWorld w1.drew 5 (str x)).cell? ⟨w.heap.size, 0, none⟩ = some (.string (str a)) := ((below_bytes w1.drew (str x)).cell hk1.out.lt).trans c0
  have b1 : (Lib.bytesWorld w1.drew 5 (str x)).cell? ⟨w.heap.size, 1, none⟩ = some (.string (str x)) := ((below_bytes w1.drew (str x)).cell hk1.out.lt).trans c1
  go_region_with (first | (go_at_call 17; go_loud (refine (quote_at x hx _ _ _ (by first | rfl | simp)).mono ?_); rintro e wx ⟨rfl, hb⟩; have d0 : wx.cell? ⟨w.heap.size, 0, none⟩ = some (.string (str a)) := (hb.out.cell hk1.out.lt).trans c0))
  all_goals (go_wp2_with fail; go_ret; exact ⟨by rw [HX.out, ← str_append, ← str_append]; rfl, hb1.out.drew.trans (hb.out.mono hb1.out.size)⟩)
end Go.Proofs.YtcdhkeahcliefaaGreatDoor.TextE
/- The program's text: numbers. -/
namespace Go.Proofs.YtcdhkeahcliefaaGreatDoor.TextF
open Go.ChangeShapes Go.WideShapes Go.ChangeAt Go.RowKit
open Go.Proofs.YtcdhkeahcliefaaGreatDoor.Kit Go.Proofs.YtcdhkeahcliefaaGreatDoor.Base Go.Proofs.YtcdhkeahcliefaaGreatDoor.Quo Go.Proofs.YtcdhkeahcliefaaGreatDoor.Term Go.Proofs.YtcdhkeahcliefaaGreatDoor.Syn Go.Proofs.YtcdhkeahcliefaaGreatDoor.Text Go.Proofs.YtcdhkeahcliefaaGreatDoor.TextA
set_option linter.unusedVariables false
set_option maxRecDepth 100000 in
set_option maxHeartbeats 3200000 in
theorem text_field (a h : W) (n : Nat) (hn : Hid (n ≤ 999999999)) (w : World) (ht : Hid (Tabs w)) (hN : Hid ((textT (.field a h n)).length ≤ 65536)) : Calls Tryz.prog 8 #[.iface 55 (.agg #[.string (str a), .string (str h), .int .i64 (n : Nat)])] w (TextPost (textT (.field a h n)) w) := by
  have n43 : ∀ W, (Instr.typeAssert (.iface 55 (.agg #[.string (str a), .string (str h), .int .i64 (n : Nat)])) 32 43 true).run Tryz.prog W = .ok (.tuple #[.slice none 0 0, .bool false]) W := fun W => no43 W 55 _ (by decide)
  have n45 : ∀ W, (Instr.typeAssert (.iface 55 (.agg #[.string (str a), .string (str h), .int .i64 (n : Nat)])) 32 45 true).run Tryz.prog W = .ok (.tuple #[.slice none 0 0, .bool false]) W := fun W => no45 W 55 _ (by decide)
  have n47 : ∀ W, (Instr.typeAssert (.iface 55 (.agg #[.string (str a), .string (str h), .int .i64 (n : Nat)])) 32 47 true).run Tryz.prog W = .ok (.tuple #[.agg #[.nilIface], .bool false]) W := fun W => no47 W 55 _ (by decide)
  have n48 : ∀ W, (Instr.typeAssert (.iface 55 (.agg #[.string (str a), .string (str h), .int .i64 (n : Nat)])) 32 48 true).run Tryz.prog W = .ok (.tuple #[.agg #[.nilIface], .bool false]) W := fun W => no48 W 55 _ (by decide)
  have n50 : ∀ W, (Instr.typeAssert (.iface 55 (.agg #[.string (str a), .string (str h), .int .i64 (n : Nat)])) 32 50 true).run Tryz.prog W = .ok (.tuple #[.agg #[], .bool false]) W := fun W => no50 W 55 _ (by decide)
  have n51 : ∀ W, (Instr.typeAssert (.iface 55 (.agg #[.string (str a), .string (str h), .int .i64 (n : Nat)])) 32 51 true).run Tryz.prog W = .ok (.tuple #[.agg #[], .bool false]) W := fun W => no51 W 55 _ (by decide)
  have n52 : ∀ W, (Instr.typeAssert (.iface 55 (.agg #[.string (str a), .string (str h), .int .i64 (n : Nat)])) 32 52 true).run Tryz.prog W = .ok (.tuple #[.agg #[], .bool false]) W := fun W => no52 W 55 _ (by decide)
  have n53 : ∀ W, (Instr.typeAssert (.iface 55 (.agg #[.string (str a), .string (str h), .int .i64 (n : Nat)])) 32 53 true).run Tryz.prog W = .ok (.tuple #[.string ⟨#[]⟩, .bool false]) W := fun W => no53 W 55 _ (by decide)
  have y55 : ∀ W, (Instr.typeAssert (.iface 55 (.agg #[.string (str a), .string (str h), .int .i64 (n : Nat)])) 32 55 true).run Tryz.prog W = .ok (.tuple #[(.agg #[.string (str a), .string (str h), .int .i64 (n : Nat)]), .bool true]) W := fun W => yes55 W _
  have HX : Hid (textT (.field a h n) = a ++ [32] ++ h ++ [32] ++ Lib.itoa (n : Nat)) := by show _ = _; rw [textT]
  have n1 : ¬ (9223372036854775807 < (str a).size + 1) := by have h := hN.out; rw [HX.out] at h; simp at h; rw [str_size]; omega
  have n2 : ¬ (9223372036854775807 < (str a).size + 1 + (str h).size) := by have h := hN.out; rw [HX.out] at h; simp at h; rw [str_size, str_size]; omega
  have n3 : ¬ (9223372036854775807 < (str a).size + 1 + (str h).size + 1) := by have h := hN.out; rw [HX.out] at h; simp at h; rw [str_size, str_size]; omega
  have n4 : ¬ (9223372036854775807 < (str a).size + 1 + (str h).size + 1 + (str (Lib.itoa (n : Nat))).size) := by have h := hN.out; rw [HX.out] at h; simp at h; rw [str_size, str_size, str_size]; omega
  go_enter Tryz.func8, Tryz.ntmps8
  go_upto_region 28 with (fail)
  refine gen_world (fun w' => Hid (Below w.heap.size w w') ∧ Hid (Blk w' w.heap.size #[.string (str a), .string (str h), .int .i64 (n : Nat)] 55)) ⟨(Below.refl _ _).alloc (Nat.le_refl _) _, Blk.new w _ _⟩ ?_
  rintro w1 ⟨hb1, hk1⟩
  have c0 : w1.cell? ⟨w.heap.size, 0, none⟩ = some (.string (str a)) := hk1.out.cell 0
  have c1 : w1.cell? ⟨w.heap.size, 1, none⟩ = some (.string (str h)) := hk1.out.cell 1
  have c2 : w1.cell? ⟨w.heap.size, 2, none⟩ = some (.int .i64 (n : Nat)) := hk1.out.cell 2
  have HI := Lib.hid (itoa_any n hn.out w1.drew ((ht.out.below hb1.out).below (below_drew w1)))
  clear n43 n45 n47 n48 n50 n51 n52 n53 y55
  go_region_with (first | (go_at_call 16; go_loud (refine HI.out.mono ?_); rintro e wx ⟨rfl, hb⟩; have d0 : wx.cell? ⟨w.heap.size, 0, none⟩ = some (.string (str a)) := (hb.out.cell hk1.out.lt).trans c0; have d1 : wx.cell? ⟨w.heap.size, 1, none⟩ = some (.string (str h)) := (hb.out.cell hk1.out.lt).trans c1))
  all_goals (go_wp2_with fail; go_ret; exact ⟨by rw [HX.out, ← str_append, ← str_append, ← str_append, ← str_append]; rfl, hb1.out.drew.trans (hb.out.mono hb1.out.size)⟩)
end Go.Proofs.YtcdhkeahcliefaaGreatDoor.TextF
