/- The closed sentence on chapter 2's numbers: the printed function answers true; no condition. -/
import Derived.Test.YtefmihbjboacdaaPCodecNumbersx1
namespace Go.Proofs.Ytefmihbjboacdaa.Pure
open Go.RowKit Go.Proofs.Ytefmihbjboacdaa.PCodecNumbers Go.Proofs.YtefmihbjboacdaaW.PrintWords Go.Proofs.YtefmihbjboacdaaW.PrintLast

theorem CodecNumbers : vellumlaw2_CodecNumbers.Pure := rfl

end Go.Proofs.Ytefmihbjboacdaa.Pure
