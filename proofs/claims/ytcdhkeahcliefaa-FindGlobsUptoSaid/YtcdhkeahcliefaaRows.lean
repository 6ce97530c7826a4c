/-
  No cell of these rows narrows 'for every input' (looked for: loops, veiled, ifaces, maps, wideKeys, modest, calm, conditions, laid).
  DERIVED. THE GIVEN ROWS OF THIS SEAT. 5 by the template 'for every input the law returns true; each argument reads behind the call as it read before'; 0 by the template 'total and deterministic' (their statements: YtcdhkeahcliefaaTotals.lean).
  GIVEN WITH THE SEED: the statements are not yours to turn. If you find one false, say at which input.
  Laid BY PROGRAM, IN A SANDBOX (cutbox-rows.mjs): the forced cells as the released guide's own fill.sh prints them over the translation a420ea7eb945740c… (all of the seat's roots in one cut). By AI agents, Wed Nov 11 2026. No macro, syntax, notation, axiom, sorry.
-/
import Derived.Test.YtcdhkeahcliefaaChecked
import GoSem.Claim
import GoSem.ClaimJoined
import GoSem.ClaimMapViews
import Derived.JoinedTies
import Derived.KernelRfl
namespace Go.Proofs.Ytcdhkeahcliefaa
/- THE CELL 'sum', in the pinned program and in every row, IS THE sha256 OF THE DUMP (.gsa) THAT YtcdhkeahcliefaaProg.lean LOADS. Nothing in Lean hashes anything: it is a label: what it is worth is what the hold of that sum in a sandbox is worth. -/
noncomputable def Try.pinned : Pinned := { name := "ytcdhkeahcliefaa", sum := "a420ea7eb945740c1d3cf870c8c4625ef600c9a94117346b738af9cdcede1278", checked := Try.checked }
namespace Rows
def none {H : Type} : Left H := { results := [], args := [] }

/-- 'vellumlaw19.FindNames': WHATEVER THE INPUT: true; the input reads as it did. -/
def findNamesSpec : ChangeSpec := { name := "findNames", fn := fun _ => fun
  | [] => { results := [.lit (.bool true)], args := [] }
  | _ => none }
def findNamesRow : OpenClaim := { program := "ytcdhkeahcliefaa", sum := "a420ea7eb945740c1d3cf870c8c4625ef600c9a94117346b738af9cdcede1278", func := "vellum/vellumlaw19.FindNames", spec := "findNames", apart := false }
def FindNamesSaid : Prop := findNamesRow.holds Try.pinned (OpenSpec.ofChange findNamesSpec)

/-- ITS FALSE NEIGHBOUR: 'it returns false'. Refute it at one input. -/
def findNamesWrong : ChangeSpec := { name := "findNames", fn := fun _ => fun
  | [] => { results := [.lit (.bool false)], args := [] }
  | _ => none }
def FindNamesWrongFalsely : Prop := findNamesRow.holds Try.pinned (OpenSpec.ofChange findNamesWrong)

/-- 'vellumlaw20.ServeNames': WHATEVER THE INPUT: true; the input reads as it did. -/
def serveNamesSpec : ChangeSpec := { name := "serveNames", fn := fun _ => fun
  | [] => { results := [.lit (.bool true)], args := [] }
  | _ => none }
def serveNamesRow : OpenClaim := { program := "ytcdhkeahcliefaa", sum := "a420ea7eb945740c1d3cf870c8c4625ef600c9a94117346b738af9cdcede1278", func := "vellum/vellumlaw20.ServeNames", spec := "serveNames", apart := false }
def ServeNamesSaid : Prop := serveNamesRow.holds Try.pinned (OpenSpec.ofChange serveNamesSpec)

/-- ITS FALSE NEIGHBOUR: 'it returns false'. Refute it at one input. -/
def serveNamesWrong : ChangeSpec := { name := "serveNames", fn := fun _ => fun
  | [] => { results := [.lit (.bool false)], args := [] }
  | _ => none }
def ServeNamesWrongFalsely : Prop := serveNamesRow.holds Try.pinned (OpenSpec.ofChange serveNamesWrong)

/-- 'vellumlaw19.FindMatches': WHATEVER THE INPUT: true; the input reads as it did. -/
def findMatchesSpec : ChangeSpec := { name := "findMatches", fn := fun _ => fun
  | [d1, d2] => { results := [.lit (.bool true)], args := [d1, d2] }
  | _ => none }
def findMatchesRow : OpenClaim := { program := "ytcdhkeahcliefaa", sum := "a420ea7eb945740c1d3cf870c8c4625ef600c9a94117346b738af9cdcede1278", func := "vellum/vellumlaw19.FindMatches", spec := "findMatches", unfollowed := true, recurses := true, apart := false }
def FindMatchesSaid : Prop := findMatchesRow.holds Try.pinned (OpenSpec.ofChange findMatchesSpec)

/-- ITS FALSE NEIGHBOUR: 'it returns false'. Refute it at one input. -/
def findMatchesWrong : ChangeSpec := { name := "findMatches", fn := fun _ => fun
  | [d1, d2] => { results := [.lit (.bool false)], args := [d1, d2] }
  | _ => none }
def FindMatchesWrongFalsely : Prop := findMatchesRow.holds Try.pinned (OpenSpec.ofChange findMatchesWrong)

/-- 'vellumlaw19.FindGlobs': WHATEVER THE INPUT: true; the input reads as it did. -/
def findGlobsSpec : ChangeSpec := { name := "findGlobs", fn := fun _ => fun
  | [d1, d2, d3, d4, d5, d6, d7] => { results := [.lit (.bool true)], args := [d1, d2, d3, d4, d5, d6, d7] }
  | _ => none }
def findGlobsRow : OpenClaim := { program := "ytcdhkeahcliefaa", sum := "a420ea7eb945740c1d3cf870c8c4625ef600c9a94117346b738af9cdcede1278", func := "vellum/vellumlaw19.FindGlobs", spec := "findGlobs", unfollowed := true, recurses := true, apart := false }
def FindGlobsSaid : Prop := findGlobsRow.holds Try.pinned (OpenSpec.ofChange findGlobsSpec)

/-- ITS FALSE NEIGHBOUR: 'it returns false'. Refute it at one input. -/
def findGlobsWrong : ChangeSpec := { name := "findGlobs", fn := fun _ => fun
  | [d1, d2, d3, d4, d5, d6, d7] => { results := [.lit (.bool false)], args := [d1, d2, d3, d4, d5, d6, d7] }
  | _ => none }
def FindGlobsWrongFalsely : Prop := findGlobsRow.holds Try.pinned (OpenSpec.ofChange findGlobsWrong)

/-- 'vellumtop.TopNames': WHATEVER THE INPUT: true; the input reads as it did. -/
def topNamesSpec : ChangeSpec := { name := "topNames", fn := fun _ => fun
  | [] => { results := [.lit (.bool true)], args := [] }
  | _ => none }
def topNamesRow : OpenClaim := { program := "ytcdhkeahcliefaa", sum := "a420ea7eb945740c1d3cf870c8c4625ef600c9a94117346b738af9cdcede1278", func := "vellum/vellumtop.TopNames", spec := "topNames", apart := false }
def TopNamesSaid : Prop := topNamesRow.holds Try.pinned (OpenSpec.ofChange topNamesSpec)

/-- ITS FALSE NEIGHBOUR: 'it returns false'. Refute it at one input. -/
def topNamesWrong : ChangeSpec := { name := "topNames", fn := fun _ => fun
  | [] => { results := [.lit (.bool false)], args := [] }
  | _ => none }
def TopNamesWrongFalsely : Prop := topNamesRow.holds Try.pinned (OpenSpec.ofChange topNamesWrong)

/- THE SECOND FORM. 'bulk': how many values and letters a reading holds, each counted each time it is reached (what is shared counts as often as it is met; a slice's spare places count too). A statement '..UptoSaid' is the law's where the arguments, and the package variables that the reading takes, are together of bulk at most 1048576: NARROWER than '..Said'. Prove '..Said' where nothing that the law and all that it calls make is longer than what came in: it says more and counts as full. Else prove '..UptoSaid'. A law counts once. -/
mutual
def uptoBulk {H : Type} : DataW H → Nat
  | .lit (.string bytes) => bytes.length + 1
  | .lit _ => 1
  | .nil => 1
  | .ptr d => uptoBulk d + 1
  | .slice elems spare => uptoBulkAll elems + uptoBulkAll spare + 1
  | .agg parts => uptoBulkAll parts + 1
  | .iface _ d => uptoBulk d + 1
  | .map entries => uptoBulkEntries entries + 1
  | .held _ => 1
def uptoBulkAll {H : Type} : List (DataW H) → Nat
  | [] => 0
  | d :: r => uptoBulk d + uptoBulkAll r
def uptoBulkEntries {H : Type} : List (Lit × DataW H) → Nat
  | [] => 0
  | x :: r => uptoBulkEntry x + uptoBulkEntries r
def uptoBulkEntry {H : Type} : Lit × DataW H → Nat
  | (.string bytes, d) => bytes.length + uptoBulk d + 1
  | (_, d) => uptoBulk d + 1
 end
def uptoSmall : (H : Type) → List (DataW H) → Bool := fun _ ds => decide (uptoBulkAll ds ≤ 1048576)
def OpenSpec.upto (s : _root_.Go.ChangeSpec) : _root_.Go.OpenSpec := { _root_.Go.OpenSpec.ofChange s with cond := some uptoSmall }

/-- 'vellumlaw19.FindNames', WHERE WHAT IT READS IS OF BULK AT MOST 1048576: true; the input reads as it did. -/
def findNamesUptoRow : OpenClaim := { program := "ytcdhkeahcliefaa", sum := "a420ea7eb945740c1d3cf870c8c4625ef600c9a94117346b738af9cdcede1278", func := "vellum/vellumlaw19.FindNames", spec := "findNames", apart := false, narrowed := true }
def FindNamesUptoSaid : Prop := findNamesUptoRow.holds Try.pinned (OpenSpec.upto findNamesSpec)

/-- 'vellumlaw20.ServeNames', WHERE WHAT IT READS IS OF BULK AT MOST 1048576: true; the input reads as it did. -/
def serveNamesUptoRow : OpenClaim := { program := "ytcdhkeahcliefaa", sum := "a420ea7eb945740c1d3cf870c8c4625ef600c9a94117346b738af9cdcede1278", func := "vellum/vellumlaw20.ServeNames", spec := "serveNames", apart := false, narrowed := true }
def ServeNamesUptoSaid : Prop := serveNamesUptoRow.holds Try.pinned (OpenSpec.upto serveNamesSpec)

/-- 'vellumlaw19.FindMatches', WHERE WHAT IT READS IS OF BULK AT MOST 1048576: true; the input reads as it did. -/
def findMatchesUptoRow : OpenClaim := { program := "ytcdhkeahcliefaa", sum := "a420ea7eb945740c1d3cf870c8c4625ef600c9a94117346b738af9cdcede1278", func := "vellum/vellumlaw19.FindMatches", spec := "findMatches", unfollowed := true, recurses := true, apart := false, narrowed := true }
def FindMatchesUptoSaid : Prop := findMatchesUptoRow.holds Try.pinned (OpenSpec.upto findMatchesSpec)

/-- 'vellumlaw19.FindGlobs', WHERE WHAT IT READS IS OF BULK AT MOST 1048576: true; the input reads as it did. -/
def findGlobsUptoRow : OpenClaim := { program := "ytcdhkeahcliefaa", sum := "a420ea7eb945740c1d3cf870c8c4625ef600c9a94117346b738af9cdcede1278", func := "vellum/vellumlaw19.FindGlobs", spec := "findGlobs", unfollowed := true, recurses := true, apart := false, narrowed := true }
def FindGlobsUptoSaid : Prop := findGlobsUptoRow.holds Try.pinned (OpenSpec.upto findGlobsSpec)

/-- 'vellumtop.TopNames', WHERE WHAT IT READS IS OF BULK AT MOST 1048576: true; the input reads as it did. -/
def topNamesUptoRow : OpenClaim := { program := "ytcdhkeahcliefaa", sum := "a420ea7eb945740c1d3cf870c8c4625ef600c9a94117346b738af9cdcede1278", func := "vellum/vellumtop.TopNames", spec := "topNames", apart := false, narrowed := true }
def TopNamesUptoSaid : Prop := topNamesUptoRow.holds Try.pinned (OpenSpec.upto topNamesSpec)

end Rows
end Go.Proofs.Ytcdhkeahcliefaa
