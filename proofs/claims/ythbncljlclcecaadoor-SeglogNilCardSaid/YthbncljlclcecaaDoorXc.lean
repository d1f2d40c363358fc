/- extent: maps.Keys, slices.Sorted as the machine tells them. No condition. -/
import Derived.Test.YthbncljlclcecaaDoorXb
namespace Go.Proofs.YthbncljlclcecaaDoor.A
open Go Go.Proofs
set_option linter.unusedVariables false
set_option linter.unusedSimpArgs false
set_option maxRecDepth 100000

end Go.Proofs.YthbncljlclcecaaDoor.A
