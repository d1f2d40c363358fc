/- Words for values, lists of numbers. No condition. -/
import Derived.Test.YtpkbdlocmjgmbaaAmT
import Derived.Test.YtpkbdlocmjgmbaaAmE
import Derived.Test.YtpkbdlocmjgmbaaOs
import Derived.Test.YtpkbdlocmjgmbaaOu
import Derived.Test.YtpkbdlocmjgmbaaOw
import Derived.Test.YtpkbdlocmjgmbaaAm19
import Derived.Laws.Bits64
namespace Go.Proofs.Ytpkbdlocmjgmbaa.A
open Go
set_option linter.unusedVariables false
set_option maxRecDepth 100000
set_option pp.maxSteps 1500

def fl (b : Nat) : AV := .sc (.float .f64 b)
def u64 (n : Int) : AV := .sc (.int .u64 n)
def i64 (n : Int) : AV := .sc (.int .i64 n)
def bo (b : Bool) : AV := .sc (.bool b)

def str (s : ByteArray) : AV := .sc (.string s)
def u64n (n : Nat) : AV := u64 n
def us (l : List Nat) : AV := .view l.length (l.map u64n)
def nilS : AV := .sc (.slice none 0 0)
end Go.Proofs.Ytpkbdlocmjgmbaa.A

namespace Go.Proofs.Ytpkbdlocmjgmbaa.A
open Go
set_option linter.unusedVariables false
set_option maxRecDepth 100000
set_option pp.maxSteps 1500

end Go.Proofs.Ytpkbdlocmjgmbaa.A
