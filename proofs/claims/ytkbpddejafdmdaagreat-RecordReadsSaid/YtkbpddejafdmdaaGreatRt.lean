/- record: RecordRights. No condition. -/
import Derived.Test.YtkbpddejafdmdaaGreatRs
import Derived.Test.YtkbpddejafdmdaaGreatRn
namespace Go.Proofs.YtkbpddejafdmdaaGreat.A
open Go
set_option linter.unusedVariables false
set_option linter.unusedSimpArgs false
set_option maxRecDepth 100000
set_option pp.maxSteps 400

end Go.Proofs.YtkbpddejafdmdaaGreat.A
