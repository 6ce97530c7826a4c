/- The closed sentence on chapter 19's numbers: the printed function answers true; no condition. -/
import Derived.Test.YtcdhkeahcliefaaPFindNamesx1
namespace Go.Proofs.Ytcdhkeahcliefaa.Pure
open Go.RowKit Go.Proofs.Ytcdhkeahcliefaa.PFindNames Go.Proofs.YtcdhkeahcliefaaW.PrintWords Go.Proofs.YtcdhkeahcliefaaW.PrintLast

theorem FindNames : vellumlaw19_FindNames.Pure := rfl

end Go.Proofs.Ytcdhkeahcliefaa.Pure
