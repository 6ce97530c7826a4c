/-
  DERIVED. GIVEN WITH THE SEED: THE CARDS: each row of YtcdhkeahcliefaaGreatDoorRows.lean that lists a variable, with what it lists TIED to the program's text (the seventh form; the later family's looks); each row that meets fmt, with fmt's text TOLD by the authors' own Lean function (tested against real Go, not proved from fmt's source: count such statements apart). THE CARD IS WHAT COUNTS. Prove the row's statement (the work); the ties are given (YtcdhkeahcliefaaGreatDoorTie.lean); close each card by the builder's one call (the guide's Derived/Test/ToyasCard.lean, 'card_holds'). Laid BY PROGRAM, IN A SANDBOX (cutbox-door.mjs). By AI agents, Wed Nov 11 2026. No macro, syntax, notation, axiom, sorry.
-/
import Derived.Test.YtcdhkeahcliefaaGreatDoorRows
import GoSem.ClaimSeven
namespace Go.Proofs.YtcdhkeahcliefaaGreatDoor
namespace Rows

/-- THE TIED CARD OF 'vellumlaw19.FindPrints'. -/
def findPrintsCard : Claim7 := { stood := { row := findPrintsRow, standIns := [], harness := (true, "1dbf36e6e5fe4bc4787b7ec1ca6543a180ce7364dcc91507d61b6cffbde0800b"), looks := true }, kinds := [], alts := [], laidByText := true, laidKinds := [.data, .data, .data, .data, .pinned], laidTests := true, laidLooks := .later }
def FindPrintsCardSaid : Prop := Claim7.holds Tryz.pinned (.plain (OpenSpec.ofChange findPrintsSpec)) findPrintsCard

/-- THE SECOND FORM's CARD OF 'vellumlaw19.FindPrints'. -/
def findPrintsUptoCard : Claim7 := { stood := { row := findPrintsUptoRow, standIns := [], harness := (true, "1dbf36e6e5fe4bc4787b7ec1ca6543a180ce7364dcc91507d61b6cffbde0800b"), looks := true }, kinds := [], alts := [], laidByText := true, laidKinds := [.data, .data, .data, .data, .pinned], laidTests := true, laidLooks := .later }
def FindPrintsUptoCardSaid : Prop := Claim7.holds Tryz.pinned (.plain (OpenSpec.upto findPrintsSpec)) findPrintsUptoCard
end Rows
end Go.Proofs.YtcdhkeahcliefaaGreatDoor
