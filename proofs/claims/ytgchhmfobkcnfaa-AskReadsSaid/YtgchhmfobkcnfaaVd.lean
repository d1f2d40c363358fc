/- Values compared; the laws of value, by the functions that they call. No condition. -/
import Derived.Test.YtgchhmfobkcnfaaVc
namespace Go.Proofs.Ytgchhmfobkcnfaa.A
open Go
set_option linter.unusedVariables false
set_option maxRecDepth 100000
set_option pp.maxSteps 1500

theorem packV_list (n : Bool) (t : ByteArray) (b : Nat) : (packV n t b).data.toList = if n = true then 1 :: keyL (placeB b) else 0 :: t.data.toList := by
  cases n
  · simp only [packV, cond_false]
    rw [apl]
    rfl
  · simp only [packV, cond_true]
    rw [apl]
    rfl
end Go.Proofs.Ytgchhmfobkcnfaa.A
