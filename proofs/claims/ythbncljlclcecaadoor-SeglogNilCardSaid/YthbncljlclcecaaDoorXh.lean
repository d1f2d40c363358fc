/- extent: Dry, Lay (printed by genexd.py). No condition. -/
import Derived.Test.YthbncljlclcecaaDoorXg
namespace Go.Proofs.YthbncljlclcecaaDoor.A
open Go
set_option linter.unusedVariables false
set_option linter.unusedSimpArgs false
set_option maxRecDepth 100000
set_option pp.maxSteps 600

end Go.Proofs.YthbncljlclcecaaDoor.A
