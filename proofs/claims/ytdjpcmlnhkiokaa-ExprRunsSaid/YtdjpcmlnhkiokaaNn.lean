/- The law NumNext, by the functions that it calls. No condition. -/
import Derived.Test.YtdjpcmlnhkiokaaNm
namespace Go.Proofs.Ytdjpcmlnhkiokaa.A
open Go
set_option linter.unusedVariables false
set_option maxRecDepth 100000
set_option pp.maxSteps 1500

end Go.Proofs.Ytdjpcmlnhkiokaa.A
