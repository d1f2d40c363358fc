/- extent: the law ExtentLasts. No condition. -/
import Derived.Test.YtpkbdlocmjgmbaaXv
namespace Go.Proofs.Ytpkbdlocmjgmbaa.A
open Go
set_option linter.unusedVariables false
set_option linter.unusedSimpArgs false
set_option maxRecDepth 100000
set_option pp.maxSteps 600
structure LaA where
  i : Nat
  w : Wd
  hi : i ≤ 120
  is : w.is 4 6
end Go.Proofs.Ytpkbdlocmjgmbaa.A
