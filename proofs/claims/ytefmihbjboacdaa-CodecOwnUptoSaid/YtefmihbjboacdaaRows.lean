/-
  No cell of these rows narrows 'for every input' (looked for: loops, veiled, ifaces, maps, wideKeys, modest, calm, conditions, laid).
  DERIVED. THE GIVEN ROWS OF THIS SEAT. 12 by the template 'for every input the law returns true; each argument reads behind the call as it read before'; 0 by the template 'total and deterministic' (their statements: YtefmihbjboacdaaTotals.lean).
  GIVEN WITH THE SEED: the statements are not yours to turn. If you find one false, say at which input.
  Laid BY PROGRAM, IN A SANDBOX (cutbox-rows.mjs): the forced cells as the released guide's own fill.sh prints them over the translation 33f944d59d2ead82… (all of the seat's roots in one cut). By AI agents, Wed Nov 11 2026. No macro, syntax, notation, axiom, sorry.
-/
import Derived.Test.YtefmihbjboacdaaChecked
import GoSem.Claim
import GoSem.ClaimJoined
import GoSem.ClaimMapViews
import Derived.JoinedTies
import Derived.KernelRfl
namespace Go.Proofs.Ytefmihbjboacdaa
/- THE CELL 'sum', in the pinned program and in every row, IS THE sha256 OF THE DUMP (.gsa) THAT YtefmihbjboacdaaProg.lean LOADS. Nothing in Lean hashes anything: it is a label: what it is worth is what the hold of that sum in a sandbox is worth. -/
noncomputable def Try.pinned : Pinned := { name := "ytefmihbjboacdaa", sum := "33f944d59d2ead82258d6698e909e6d2eeff47ff09127ad74b244736c8039579", checked := Try.checked }
namespace Rows
def none {H : Type} : Left H := { results := [], args := [] }

/-- 'vellumlaw2.CodecNumbers': WHATEVER THE INPUT: true; the input reads as it did. -/
def codecNumbersSpec : ChangeSpec := { name := "codecNumbers", fn := fun _ => fun
  | [] => { results := [.lit (.bool true)], args := [] }
  | _ => none }
def codecNumbersRow : OpenClaim := { program := "ytefmihbjboacdaa", sum := "33f944d59d2ead82258d6698e909e6d2eeff47ff09127ad74b244736c8039579", func := "vellum/vellumlaw2.CodecNumbers", spec := "codecNumbers", apart := false }
def CodecNumbersSaid : Prop := codecNumbersRow.holds Try.pinned (OpenSpec.ofChange codecNumbersSpec)

/-- ITS FALSE NEIGHBOUR: 'it returns false'. Refute it at one input. -/
def codecNumbersWrong : ChangeSpec := { name := "codecNumbers", fn := fun _ => fun
  | [] => { results := [.lit (.bool false)], args := [] }
  | _ => none }
def CodecNumbersWrongFalsely : Prop := codecNumbersRow.holds Try.pinned (OpenSpec.ofChange codecNumbersWrong)

/-- 'vellumlaw2.CodecPlans': WHATEVER THE INPUT: true; the input reads as it did. -/
def codecPlansSpec : ChangeSpec := { name := "codecPlans", fn := fun _ => fun
  | [d] => { results := [.lit (.bool true)], args := [d] }
  | _ => none }
def codecPlansRow : OpenClaim := { program := "ytefmihbjboacdaa", sum := "33f944d59d2ead82258d6698e909e6d2eeff47ff09127ad74b244736c8039579", func := "vellum/vellumlaw2.CodecPlans", spec := "codecPlans", apart := false }
def CodecPlansSaid : Prop := codecPlansRow.holds Try.pinned (OpenSpec.ofChange codecPlansSpec)

/-- ITS FALSE NEIGHBOUR: 'it returns false'. Refute it at one input. -/
def codecPlansWrong : ChangeSpec := { name := "codecPlans", fn := fun _ => fun
  | [d] => { results := [.lit (.bool false)], args := [d] }
  | _ => none }
def CodecPlansWrongFalsely : Prop := codecPlansRow.holds Try.pinned (OpenSpec.ofChange codecPlansWrong)

/-- 'vellumlaw2.CodecSums': WHATEVER THE INPUT: true; the input reads as it did. -/
def codecSumsSpec : ChangeSpec := { name := "codecSums", fn := fun _ => fun
  | [d] => { results := [.lit (.bool true)], args := [d] }
  | _ => none }
def codecSumsRow : OpenClaim := { program := "ytefmihbjboacdaa", sum := "33f944d59d2ead82258d6698e909e6d2eeff47ff09127ad74b244736c8039579", func := "vellum/vellumlaw2.CodecSums", spec := "codecSums", apart := false }
def CodecSumsSaid : Prop := codecSumsRow.holds Try.pinned (OpenSpec.ofChange codecSumsSpec)

/-- ITS FALSE NEIGHBOUR: 'it returns false'. Refute it at one input. -/
def codecSumsWrong : ChangeSpec := { name := "codecSums", fn := fun _ => fun
  | [d] => { results := [.lit (.bool false)], args := [d] }
  | _ => none }
def CodecSumsWrongFalsely : Prop := codecSumsRow.holds Try.pinned (OpenSpec.ofChange codecSumsWrong)

/-- 'vellumlaw2.CodecMixes': WHATEVER THE INPUT: true; the input reads as it did. -/
def codecMixesSpec : ChangeSpec := { name := "codecMixes", fn := fun _ => fun
  | [d1, d2, d3] => { results := [.lit (.bool true)], args := [d1, d2, d3] }
  | _ => none }
def codecMixesRow : OpenClaim := { program := "ytefmihbjboacdaa", sum := "33f944d59d2ead82258d6698e909e6d2eeff47ff09127ad74b244736c8039579", func := "vellum/vellumlaw2.CodecMixes", spec := "codecMixes", apart := false }
def CodecMixesSaid : Prop := codecMixesRow.holds Try.pinned (OpenSpec.ofChange codecMixesSpec)

/-- ITS FALSE NEIGHBOUR: 'it returns false'. Refute it at one input. -/
def codecMixesWrong : ChangeSpec := { name := "codecMixes", fn := fun _ => fun
  | [d1, d2, d3] => { results := [.lit (.bool false)], args := [d1, d2, d3] }
  | _ => none }
def CodecMixesWrongFalsely : Prop := codecMixesRow.holds Try.pinned (OpenSpec.ofChange codecMixesWrong)

/-- 'vellumlaw2.CodecSupers': WHATEVER THE INPUT: true; the input reads as it did. -/
def codecSupersSpec : ChangeSpec := { name := "codecSupers", fn := fun _ => fun
  | [d1, d2] => { results := [.lit (.bool true)], args := [d1, d2] }
  | _ => none }
def codecSupersRow : OpenClaim := { program := "ytefmihbjboacdaa", sum := "33f944d59d2ead82258d6698e909e6d2eeff47ff09127ad74b244736c8039579", func := "vellum/vellumlaw2.CodecSupers", spec := "codecSupers", unfollowed := true, recurses := true, apart := false }
def CodecSupersSaid : Prop := codecSupersRow.holds Try.pinned (OpenSpec.ofChange codecSupersSpec)

/-- ITS FALSE NEIGHBOUR: 'it returns false'. Refute it at one input. -/
def codecSupersWrong : ChangeSpec := { name := "codecSupers", fn := fun _ => fun
  | [d1, d2] => { results := [.lit (.bool false)], args := [d1, d2] }
  | _ => none }
def CodecSupersWrongFalsely : Prop := codecSupersRow.holds Try.pinned (OpenSpec.ofChange codecSupersWrong)

/-- 'vellumlaw2.CodecNodes': WHATEVER THE INPUT: true; the input reads as it did. -/
def codecNodesSpec : ChangeSpec := { name := "codecNodes", fn := fun _ => fun
  | [d1, d2] => { results := [.lit (.bool true)], args := [d1, d2] }
  | _ => none }
def codecNodesRow : OpenClaim := { program := "ytefmihbjboacdaa", sum := "33f944d59d2ead82258d6698e909e6d2eeff47ff09127ad74b244736c8039579", func := "vellum/vellumlaw2.CodecNodes", spec := "codecNodes", unfollowed := true, recurses := true, apart := false }
def CodecNodesSaid : Prop := codecNodesRow.holds Try.pinned (OpenSpec.ofChange codecNodesSpec)

/-- ITS FALSE NEIGHBOUR: 'it returns false'. Refute it at one input. -/
def codecNodesWrong : ChangeSpec := { name := "codecNodes", fn := fun _ => fun
  | [d1, d2] => { results := [.lit (.bool false)], args := [d1, d2] }
  | _ => none }
def CodecNodesWrongFalsely : Prop := codecNodesRow.holds Try.pinned (OpenSpec.ofChange codecNodesWrong)

/-- 'vellumlaw2.CodecNames': WHATEVER THE INPUT: true; the input reads as it did. -/
def codecNamesSpec : ChangeSpec := { name := "codecNames", fn := fun _ => fun
  | [d] => { results := [.lit (.bool true)], args := [d] }
  | _ => none }
def codecNamesRow : OpenClaim := { program := "ytefmihbjboacdaa", sum := "33f944d59d2ead82258d6698e909e6d2eeff47ff09127ad74b244736c8039579", func := "vellum/vellumlaw2.CodecNames", spec := "codecNames", inPlace := ["internal/bytealg.IndexByteString", "internal/bytealg.IndexString"], named := ["internal/bytealg.MaxLen"], apart := false }
def CodecNamesSaid : Prop := codecNamesRow.holds Try.pinned (OpenSpec.ofChange codecNamesSpec)

/-- ITS FALSE NEIGHBOUR: 'it returns false'. Refute it at one input. -/
def codecNamesWrong : ChangeSpec := { name := "codecNames", fn := fun _ => fun
  | [d] => { results := [.lit (.bool false)], args := [d] }
  | _ => none }
def CodecNamesWrongFalsely : Prop := codecNamesRow.holds Try.pinned (OpenSpec.ofChange codecNamesWrong)

/-- 'vellumlaw2.CodecEntries': WHATEVER THE INPUT: true; the input reads as it did. -/
def codecEntriesSpec : ChangeSpec := { name := "codecEntries", fn := fun _ => fun
  | [d1, d2] => { results := [.lit (.bool true)], args := [d1, d2] }
  | _ => none }
def codecEntriesRow : OpenClaim := { program := "ytefmihbjboacdaa", sum := "33f944d59d2ead82258d6698e909e6d2eeff47ff09127ad74b244736c8039579", func := "vellum/vellumlaw2.CodecEntries", spec := "codecEntries", inPlace := ["internal/bytealg.IndexByteString", "internal/bytealg.IndexString"], unfollowed := true, recurses := true, named := ["internal/bytealg.MaxLen"], apart := false }
def CodecEntriesSaid : Prop := codecEntriesRow.holds Try.pinned (OpenSpec.ofChange codecEntriesSpec)

/-- ITS FALSE NEIGHBOUR: 'it returns false'. Refute it at one input. -/
def codecEntriesWrong : ChangeSpec := { name := "codecEntries", fn := fun _ => fun
  | [d1, d2] => { results := [.lit (.bool false)], args := [d1, d2] }
  | _ => none }
def CodecEntriesWrongFalsely : Prop := codecEntriesRow.holds Try.pinned (OpenSpec.ofChange codecEntriesWrong)

/-- 'vellumlaw2.CodecOwn': WHATEVER THE INPUT: true; the input reads as it did. -/
def codecOwnSpec : ChangeSpec := { name := "codecOwn", fn := fun _ => fun
  | [d1, d2, d3] => { results := [.lit (.bool true)], args := [d1, d2, d3] }
  | _ => none }
def codecOwnRow : OpenClaim := { program := "ytefmihbjboacdaa", sum := "33f944d59d2ead82258d6698e909e6d2eeff47ff09127ad74b244736c8039579", func := "vellum/vellumlaw2.CodecOwn", spec := "codecOwn", inPlace := ["internal/bytealg.IndexByteString", "internal/bytealg.IndexString"], named := ["internal/bytealg.MaxLen"], apart := false }
def CodecOwnSaid : Prop := codecOwnRow.holds Try.pinned (OpenSpec.ofChange codecOwnSpec)

/-- ITS FALSE NEIGHBOUR: 'it returns false'. Refute it at one input. -/
def codecOwnWrong : ChangeSpec := { name := "codecOwn", fn := fun _ => fun
  | [d1, d2, d3] => { results := [.lit (.bool false)], args := [d1, d2, d3] }
  | _ => none }
def CodecOwnWrongFalsely : Prop := codecOwnRow.holds Try.pinned (OpenSpec.ofChange codecOwnWrong)

/-- 'vellumlaw2.CodecBack': WHATEVER THE INPUT: true; the input reads as it did. -/
def codecBackSpec : ChangeSpec := { name := "codecBack", fn := fun _ => fun
  | [d1, d2, d3] => { results := [.lit (.bool true)], args := [d1, d2, d3] }
  | _ => none }
def codecBackRow : OpenClaim := { program := "ytefmihbjboacdaa", sum := "33f944d59d2ead82258d6698e909e6d2eeff47ff09127ad74b244736c8039579", func := "vellum/vellumlaw2.CodecBack", spec := "codecBack", inPlace := ["internal/bytealg.IndexByteString", "internal/bytealg.IndexString"], unfollowed := true, recurses := true, named := ["internal/bytealg.MaxLen"], apart := false }
def CodecBackSaid : Prop := codecBackRow.holds Try.pinned (OpenSpec.ofChange codecBackSpec)

/-- ITS FALSE NEIGHBOUR: 'it returns false'. Refute it at one input. -/
def codecBackWrong : ChangeSpec := { name := "codecBack", fn := fun _ => fun
  | [d1, d2, d3] => { results := [.lit (.bool false)], args := [d1, d2, d3] }
  | _ => none }
def CodecBackWrongFalsely : Prop := codecBackRow.holds Try.pinned (OpenSpec.ofChange codecBackWrong)

/-- 'vellumlaw2.CodecForms': WHATEVER THE INPUT: true; the input reads as it did. -/
def codecFormsSpec : ChangeSpec := { name := "codecForms", fn := fun _ => fun
  | [d] => { results := [.lit (.bool true)], args := [d] }
  | _ => none }
def codecFormsRow : OpenClaim := { program := "ytefmihbjboacdaa", sum := "33f944d59d2ead82258d6698e909e6d2eeff47ff09127ad74b244736c8039579", func := "vellum/vellumlaw2.CodecForms", spec := "codecForms", inPlace := ["internal/bytealg.IndexByteString", "internal/bytealg.IndexString"], unfollowed := true, recurses := true, named := ["internal/bytealg.MaxLen"], apart := false }
def CodecFormsSaid : Prop := codecFormsRow.holds Try.pinned (OpenSpec.ofChange codecFormsSpec)

/-- ITS FALSE NEIGHBOUR: 'it returns false'. Refute it at one input. -/
def codecFormsWrong : ChangeSpec := { name := "codecForms", fn := fun _ => fun
  | [d] => { results := [.lit (.bool false)], args := [d] }
  | _ => none }
def CodecFormsWrongFalsely : Prop := codecFormsRow.holds Try.pinned (OpenSpec.ofChange codecFormsWrong)

/-- 'vellumlaw2.CodecBursts': WHATEVER THE INPUT: true; the input reads as it did. -/
def codecBurstsSpec : ChangeSpec := { name := "codecBursts", fn := fun _ => fun
  | [d1, d2, d3, d4, d5] => { results := [.lit (.bool true)], args := [d1, d2, d3, d4, d5] }
  | _ => none }
def codecBurstsRow : OpenClaim := { program := "ytefmihbjboacdaa", sum := "33f944d59d2ead82258d6698e909e6d2eeff47ff09127ad74b244736c8039579", func := "vellum/vellumlaw2.CodecBursts", spec := "codecBursts", inPlace := ["internal/bytealg.IndexByteString", "internal/bytealg.IndexString"], unfollowed := true, recurses := true, named := ["internal/bytealg.MaxLen"], apart := false }
def CodecBurstsSaid : Prop := codecBurstsRow.holds Try.pinned (OpenSpec.ofChange codecBurstsSpec)

/-- ITS FALSE NEIGHBOUR: 'it returns false'. Refute it at one input. -/
def codecBurstsWrong : ChangeSpec := { name := "codecBursts", fn := fun _ => fun
  | [d1, d2, d3, d4, d5] => { results := [.lit (.bool false)], args := [d1, d2, d3, d4, d5] }
  | _ => none }
def CodecBurstsWrongFalsely : Prop := codecBurstsRow.holds Try.pinned (OpenSpec.ofChange codecBurstsWrong)

/- THE SECOND FORM. 'bulk': how many values and letters a reading holds, each counted each time it is reached (what is shared counts as often as it is met; a slice's spare places count too). A statement '..UptoSaid' is the law's where the arguments, and the package variables that the reading takes, are together of bulk at most 1048576: NARROWER than '..Said'. Prove '..Said' where nothing that the law and all that it calls make is longer than what came in: it says more and counts as full. Else prove '..UptoSaid'. A law counts once. -/
mutual
def uptoBulk {H : Type} : DataW H → Nat
  | .lit (.string bytes) => bytes.length + 1
  | .lit _ => 1
  | .nil => 1
  | .ptr d => uptoBulk d + 1
  | .slice elems spare => uptoBulkAll elems + uptoBulkAll spare + 1
  | .agg parts => uptoBulkAll parts + 1
  | .iface _ d => uptoBulk d + 1
  | .map entries => uptoBulkEntries entries + 1
  | .held _ => 1
def uptoBulkAll {H : Type} : List (DataW H) → Nat
  | [] => 0
  | d :: r => uptoBulk d + uptoBulkAll r
def uptoBulkEntries {H : Type} : List (Lit × DataW H) → Nat
  | [] => 0
  | x :: r => uptoBulkEntry x + uptoBulkEntries r
def uptoBulkEntry {H : Type} : Lit × DataW H → Nat
  | (.string bytes, d) => bytes.length + uptoBulk d + 1
  | (_, d) => uptoBulk d + 1
 end
def uptoSmall : (H : Type) → List (DataW H) → Bool := fun _ ds => decide (uptoBulkAll ds ≤ 1048576)
def OpenSpec.upto (s : _root_.Go.ChangeSpec) : _root_.Go.OpenSpec := { _root_.Go.OpenSpec.ofChange s with cond := some uptoSmall }

/-- 'vellumlaw2.CodecNumbers', WHERE WHAT IT READS IS OF BULK AT MOST 1048576: true; the input reads as it did. -/
def codecNumbersUptoRow : OpenClaim := { program := "ytefmihbjboacdaa", sum := "33f944d59d2ead82258d6698e909e6d2eeff47ff09127ad74b244736c8039579", func := "vellum/vellumlaw2.CodecNumbers", spec := "codecNumbers", apart := false, narrowed := true }
def CodecNumbersUptoSaid : Prop := codecNumbersUptoRow.holds Try.pinned (OpenSpec.upto codecNumbersSpec)

/-- 'vellumlaw2.CodecPlans', WHERE WHAT IT READS IS OF BULK AT MOST 1048576: true; the input reads as it did. -/
def codecPlansUptoRow : OpenClaim := { program := "ytefmihbjboacdaa", sum := "33f944d59d2ead82258d6698e909e6d2eeff47ff09127ad74b244736c8039579", func := "vellum/vellumlaw2.CodecPlans", spec := "codecPlans", apart := false, narrowed := true }
def CodecPlansUptoSaid : Prop := codecPlansUptoRow.holds Try.pinned (OpenSpec.upto codecPlansSpec)

/-- 'vellumlaw2.CodecSums', WHERE WHAT IT READS IS OF BULK AT MOST 1048576: true; the input reads as it did. -/
def codecSumsUptoRow : OpenClaim := { program := "ytefmihbjboacdaa", sum := "33f944d59d2ead82258d6698e909e6d2eeff47ff09127ad74b244736c8039579", func := "vellum/vellumlaw2.CodecSums", spec := "codecSums", apart := false, narrowed := true }
def CodecSumsUptoSaid : Prop := codecSumsUptoRow.holds Try.pinned (OpenSpec.upto codecSumsSpec)

/-- 'vellumlaw2.CodecMixes', WHERE WHAT IT READS IS OF BULK AT MOST 1048576: true; the input reads as it did. -/
def codecMixesUptoRow : OpenClaim := { program := "ytefmihbjboacdaa", sum := "33f944d59d2ead82258d6698e909e6d2eeff47ff09127ad74b244736c8039579", func := "vellum/vellumlaw2.CodecMixes", spec := "codecMixes", apart := false, narrowed := true }
def CodecMixesUptoSaid : Prop := codecMixesUptoRow.holds Try.pinned (OpenSpec.upto codecMixesSpec)

/-- 'vellumlaw2.CodecSupers', WHERE WHAT IT READS IS OF BULK AT MOST 1048576: true; the input reads as it did. -/
def codecSupersUptoRow : OpenClaim := { program := "ytefmihbjboacdaa", sum := "33f944d59d2ead82258d6698e909e6d2eeff47ff09127ad74b244736c8039579", func := "vellum/vellumlaw2.CodecSupers", spec := "codecSupers", unfollowed := true, recurses := true, apart := false, narrowed := true }
def CodecSupersUptoSaid : Prop := codecSupersUptoRow.holds Try.pinned (OpenSpec.upto codecSupersSpec)

/-- 'vellumlaw2.CodecNodes', WHERE WHAT IT READS IS OF BULK AT MOST 1048576: true; the input reads as it did. -/
def codecNodesUptoRow : OpenClaim := { program := "ytefmihbjboacdaa", sum := "33f944d59d2ead82258d6698e909e6d2eeff47ff09127ad74b244736c8039579", func := "vellum/vellumlaw2.CodecNodes", spec := "codecNodes", unfollowed := true, recurses := true, apart := false, narrowed := true }
def CodecNodesUptoSaid : Prop := codecNodesUptoRow.holds Try.pinned (OpenSpec.upto codecNodesSpec)

/-- 'vellumlaw2.CodecNames', WHERE WHAT IT READS IS OF BULK AT MOST 1048576: true; the input reads as it did. -/
def codecNamesUptoRow : OpenClaim := { program := "ytefmihbjboacdaa", sum := "33f944d59d2ead82258d6698e909e6d2eeff47ff09127ad74b244736c8039579", func := "vellum/vellumlaw2.CodecNames", spec := "codecNames", inPlace := ["internal/bytealg.IndexByteString", "internal/bytealg.IndexString"], named := ["internal/bytealg.MaxLen"], apart := false, narrowed := true }
def CodecNamesUptoSaid : Prop := codecNamesUptoRow.holds Try.pinned (OpenSpec.upto codecNamesSpec)

/-- 'vellumlaw2.CodecEntries', WHERE WHAT IT READS IS OF BULK AT MOST 1048576: true; the input reads as it did. -/
def codecEntriesUptoRow : OpenClaim := { program := "ytefmihbjboacdaa", sum := "33f944d59d2ead82258d6698e909e6d2eeff47ff09127ad74b244736c8039579", func := "vellum/vellumlaw2.CodecEntries", spec := "codecEntries", inPlace := ["internal/bytealg.IndexByteString", "internal/bytealg.IndexString"], unfollowed := true, recurses := true, named := ["internal/bytealg.MaxLen"], apart := false, narrowed := true }
def CodecEntriesUptoSaid : Prop := codecEntriesUptoRow.holds Try.pinned (OpenSpec.upto codecEntriesSpec)

/-- 'vellumlaw2.CodecOwn', WHERE WHAT IT READS IS OF BULK AT MOST 1048576: true; the input reads as it did. -/
def codecOwnUptoRow : OpenClaim := { program := "ytefmihbjboacdaa", sum := "33f944d59d2ead82258d6698e909e6d2eeff47ff09127ad74b244736c8039579", func := "vellum/vellumlaw2.CodecOwn", spec := "codecOwn", inPlace := ["internal/bytealg.IndexByteString", "internal/bytealg.IndexString"], named := ["internal/bytealg.MaxLen"], apart := false, narrowed := true }
def CodecOwnUptoSaid : Prop := codecOwnUptoRow.holds Try.pinned (OpenSpec.upto codecOwnSpec)

/-- 'vellumlaw2.CodecBack', WHERE WHAT IT READS IS OF BULK AT MOST 1048576: true; the input reads as it did. -/
def codecBackUptoRow : OpenClaim := { program := "ytefmihbjboacdaa", sum := "33f944d59d2ead82258d6698e909e6d2eeff47ff09127ad74b244736c8039579", func := "vellum/vellumlaw2.CodecBack", spec := "codecBack", inPlace := ["internal/bytealg.IndexByteString", "internal/bytealg.IndexString"], unfollowed := true, recurses := true, named := ["internal/bytealg.MaxLen"], apart := false, narrowed := true }
def CodecBackUptoSaid : Prop := codecBackUptoRow.holds Try.pinned (OpenSpec.upto codecBackSpec)

/-- 'vellumlaw2.CodecForms', WHERE WHAT IT READS IS OF BULK AT MOST 1048576: true; the input reads as it did. -/
def codecFormsUptoRow : OpenClaim := { program := "ytefmihbjboacdaa", sum := "33f944d59d2ead82258d6698e909e6d2eeff47ff09127ad74b244736c8039579", func := "vellum/vellumlaw2.CodecForms", spec := "codecForms", inPlace := ["internal/bytealg.IndexByteString", "internal/bytealg.IndexString"], unfollowed := true, recurses := true, named := ["internal/bytealg.MaxLen"], apart := false, narrowed := true }
def CodecFormsUptoSaid : Prop := codecFormsUptoRow.holds Try.pinned (OpenSpec.upto codecFormsSpec)

/-- 'vellumlaw2.CodecBursts', WHERE WHAT IT READS IS OF BULK AT MOST 1048576: true; the input reads as it did. -/
def codecBurstsUptoRow : OpenClaim := { program := "ytefmihbjboacdaa", sum := "33f944d59d2ead82258d6698e909e6d2eeff47ff09127ad74b244736c8039579", func := "vellum/vellumlaw2.CodecBursts", spec := "codecBursts", inPlace := ["internal/bytealg.IndexByteString", "internal/bytealg.IndexString"], unfollowed := true, recurses := true, named := ["internal/bytealg.MaxLen"], apart := false, narrowed := true }
def CodecBurstsUptoSaid : Prop := codecBurstsUptoRow.holds Try.pinned (OpenSpec.upto codecBurstsSpec)

end Rows
end Go.Proofs.Ytefmihbjboacdaa
