/- What the listed tables give the walks: where the row's tables are laid, the program's decoder and its printing of numbers read their tables. -/
import Derived.Test.YtcdhkeahcliefaaGreatDoorPrint42
import Derived.Test.YtcdhkeahcliefaaGreatDoorRows
import Derived.Lib.LaidU8T
import Derived.Lib.LaidTab
import Derived.ProofKit
import Derived.LaidMore
import Derived.OpenShut
import Derived.Stop.Joined
namespace Go.Proofs.YtcdhkeahcliefaaGreatDoor.LaidTabs
open Go.ChangeShapes Go.WideShapes Go.ChangeAt Go.RowKit Go.Shelf
open Go.Proofs Go.Proofs.YtcdhkeahcliefaaGreatDoor.Text
set_option linter.unusedVariables false

theorem first_eq : Go.Pinned.utf8First = Lib.firstData := by kernel_rfl
theorem accept_eq : (Rows.laid_unicode_utf8_acceptRanges : DataW Unit) = Lib.acceptData := by kernel_rfl
theorem pow_eq : (Rows.laid_internal_strconv_uint64pow10 : DataW Unit) = Lib.tabData .u64 Lib.pow10Tab := by kernel_rfl
/-- a listed table of integers, wherever it stands on the list -/
theorem tabIs_of_reads {P : Program} {W : World} {name : String} {k : IntKind} {zs : List Int} {g : Nat} {t e : TypeId} {n : Nat}
    (hg : P.globalNamed name = some g) (hty : (P.globals[g]?).map (·.type) = some t) (ht : P.underlying t = some (.array n e)) (he : P.underlying e = some (.int k)) (hce : P.cellsOf e = 1) (hct : P.cellsOf t = n)
    (h : Lib.VarReads P W name (Lib.tabData k zs)) : Lib.TabIs P W name k zs := by
  obtain ⟨g', t', cs, fuel, p, hg', ht', hvar, hd⟩ := h
  obtain rfl := Option.some.inj (hg.symm.trans hg')
  obtain rfl := Option.some.inj (hty.symm.trans ht')
  unfold Lib.TabIs
  rw [hvar, ← Lib.cells_of_tab ht he hce hct hd]
theorem tabs_of_laid {W : World} (h : laidMetH Tryz.prog Rows.findPrintsRow.laid W) : Tabs W := by
  rw [MakeChecks.laidMetH_plain _ _ _ (by kernel_rfl)] at h
  have h1 := Lib.laidMet.reads h (n := "unicode/utf8.first") (.tail _ (.tail _ (.tail _ (.tail _ (.head _)))))
  have h2 := Lib.laidMet.reads h (n := "unicode/utf8.acceptRanges") (.tail _ (.tail _ (.tail _ (.head _))))
  have h3 := Lib.laidMet.reads h (n := "internal/strconv.uint64pow10") (.tail _ (.tail _ (.head _)))
  refine ⟨?_, ?_⟩
  · exact utf8Tabs_of_reads (ρ := Tryz.lays260_ren) Tryz.lays260 ⟨by kernel_rfl, by kernel_rfl, by kernel_rfl, by kernel_rfl, by kernel_rfl, by kernel_rfl, by kernel_rfl⟩ (first_eq ▸ h1) (accept_eq ▸ h2)
  · exact tabIs_of_reads (g := 2) (by kernel_rfl) (by kernel_rfl) Tryz.underlying137 Tryz.underlying122 (by kernel_rfl) (by kernel_rfl) (pow_eq ▸ h3)
end Go.Proofs.YtcdhkeahcliefaaGreatDoor.LaidTabs
