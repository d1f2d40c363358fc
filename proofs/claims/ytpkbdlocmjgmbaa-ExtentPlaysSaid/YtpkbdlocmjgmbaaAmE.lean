/- Functions that defer calls; deferred functions, and what comes up is caught. No condition. -/
import Derived.Test.YtpkbdlocmjgmbaaAm18
namespace Go.Proofs.Ytpkbdlocmjgmbaa.A
open Go
set_option linter.unusedVariables false
set_option linter.unusedSimpArgs false

section
variable {P : Program} {T : Tab}
/-! ### What comes up is caught -/
/-! ### A function that defers -/
end
end Go.Proofs.Ytpkbdlocmjgmbaa.A
