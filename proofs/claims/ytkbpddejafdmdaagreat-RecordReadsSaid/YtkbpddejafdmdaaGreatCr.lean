/- The document's table: rights looked up. No condition. -/
import Derived.Test.YtkbpddejafdmdaaGreatCl
import Derived.Test.YtkbpddejafdmdaaGreatOw
namespace Go.Proofs.YtkbpddejafdmdaaGreat.A
open Go
set_option linter.unusedVariables false
set_option maxRecDepth 100000
set_option pp.maxSteps 1500

abbrev Rt := Int × Nat × Bool
def rtC (r : Rt) : List AV := [i64 r.1, u64 r.2.1, bo r.2.2]
def refO (p tags n : Nat) : AObj := .row [i64 p, i64 tags, .slc 0 0 n 3]
def refH (p tags : Nat) (L : List Rt) : Heap := [.row (flat rtC L), refO p tags L.length]
theorem rtC_len (x : Rt) : (rtC x).length = 3 := rfl
theorem renO_rt (r : Nat → Nat) (L : List Rt) : renO r (.row (flat rtC L)) = .row (flat rtC L) := renO_flat (fun _ _ => rfl) r L
theorem belowH_ref (p tags : Nat) (L : List Rt) : belowH (refH p tags L).length (refH p tags L) = true := by
  show (belowL 2 (flat rtC L) && _) = true
  rw [belowL_flat (fun _ => rfl)]
  rfl
end Go.Proofs.YtkbpddejafdmdaaGreat.A

namespace Go.Proofs.YtkbpddejafdmdaaGreat.A
open Go
set_option linter.unusedVariables false
set_option maxRecDepth 100000
set_option pp.maxSteps 1500

end Go.Proofs.YtkbpddejafdmdaaGreat.A

namespace Go.Proofs.YtkbpddejafdmdaaGreat.A
open Go
set_option linter.unusedVariables false
set_option maxRecDepth 100000
set_option pp.maxSteps 1500

end Go.Proofs.YtkbpddejafdmdaaGreat.A

namespace Go.Proofs.YtkbpddejafdmdaaGreat.A
open Go
set_option linter.unusedVariables false
set_option maxRecDepth 100000
set_option pp.maxSteps 1500

end Go.Proofs.YtkbpddejafdmdaaGreat.A

namespace Go.Proofs.YtkbpddejafdmdaaGreat.A
open Go
set_option linter.unusedVariables false
set_option maxRecDepth 100000
set_option pp.maxSteps 1500

end Go.Proofs.YtkbpddejafdmdaaGreat.A

namespace Go.Proofs.YtkbpddejafdmdaaGreat.A
open Go
set_option linter.unusedVariables false
set_option maxRecDepth 100000
set_option pp.maxSteps 1500

end Go.Proofs.YtkbpddejafdmdaaGreat.A
