/- ref03: Begin. No condition. -/
import Derived.Test.YtgchhmfobkcnfaaWv
namespace Go.Proofs.Ytgchhmfobkcnfaa.A
open Go
set_option linter.unusedVariables false
set_option linter.unusedSimpArgs false
set_option maxRecDepth 100000
set_option pp.maxSteps 600

end Go.Proofs.Ytgchhmfobkcnfaa.A
