/- FindPrints: the card: the row is proved, and each listed table is tied to the program's text. -/
import Derived.Test.YtcdhkeahcliefaaGreatDoorPrint44
import Derived.Test.YtcdhkeahcliefaaGreatDoorTie
import Derived.Test.YtcdhkeahcliefaaGreatDoorCards
import Derived.SevenTiedAt
namespace Go.Proofs.YtcdhkeahcliefaaGreatDoor
theorem findPrints_card : Rows.FindPrintsCardSaid :=
  Claim7.holds_tied_plain_at .later [] [.data, .data, .data, .data, .pinned] true (true, "1dbf36e6e5fe4bc4787b7ec1ca6543a180ce7364dcc91507d61b6cffbde0800b") true PrintRow.holds (fun _ h => by cases h) (by kernel_rfl) (fun _ h => by cases h) findPrints_row_tie rfl ⟨rfl, rfl⟩ (by kernel_rfl) rfl
    (fun f fn hf hfn => by
      obtain rfl : f = 3 := Option.some.inj ((show Tryz.prog.funcNamed "vellum/vellumlaw19.FindPrints" = some 3 by kernel_rfl).symm.trans hf) |>.symm
      obtain rfl : fn = Tryz.f3 := (Option.some.inj (Tryz.func3.symm.trans hfn)).symm
      exact ⟨by kernel_rfl, fun j t ht => by
        rw [Tryz.params3] at ht
        have hm : t ∈ [22] := by simpa using Array.mem_of_getElem? ht
        have hall : ([22].all fun u => !Tryz.prog.wantsStandIn u) = true := by kernel_rfl
        exact (show Tryz.prog.wantsStandIn t = false by simpa using List.all_eq_true.1 hall t hm)⟩)
    (by kernel_rfl)
#print axioms findPrints_card
end Go.Proofs.YtcdhkeahcliefaaGreatDoor
