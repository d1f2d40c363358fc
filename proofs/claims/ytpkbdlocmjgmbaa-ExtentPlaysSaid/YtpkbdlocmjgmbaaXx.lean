/- extent: the law ExtentPicks. No condition. -/
import Derived.Test.YtpkbdlocmjgmbaaXw
namespace Go.Proofs.Ytpkbdlocmjgmbaa.A
open Go
set_option linter.unusedVariables false
set_option linter.unusedSimpArgs false
set_option maxRecDepth 100000
set_option pp.maxSteps 600
end Go.Proofs.Ytpkbdlocmjgmbaa.A
