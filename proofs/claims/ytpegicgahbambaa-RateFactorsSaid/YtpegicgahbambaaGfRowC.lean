/- for every kind, rate and span, what Factor tells is the document's; no condition. -/
import Derived.Test.YtpegicgahbambaaRows
import Derived.Test.YtpegicgahbambaaGfC
import Derived.Test.YtpegicgahbambaaOfC
import Derived.ProofKit
import Derived.OpenShut
import Derived.ChangeOld
import Derived.Below
namespace Go.Proofs.Ytpegicgahbambaa.rateFactorsRow
open Go.ChangeShapes Go.WideShapes Go.ChangeAt Go.RowKit
set_option linter.unusedVariables false

theorem own : ownKnob Try.prog.godebug = none := by kernel_rfl
theorem laidOut : laidOutB Try.prog = true := by kernel_rfl

end Go.Proofs.Ytpegicgahbambaa.rateFactorsRow
