/- ask, the reference: Right. No condition. -/
import Derived.Test.YtgchhmfobkcnfaaSg
namespace Go.Proofs.Ytgchhmfobkcnfaa.A
open Go
set_option linter.unusedVariables false
set_option linter.unusedSimpArgs false
set_option maxRecDepth 100000
set_option pp.maxSteps 400

end Go.Proofs.Ytgchhmfobkcnfaa.A
