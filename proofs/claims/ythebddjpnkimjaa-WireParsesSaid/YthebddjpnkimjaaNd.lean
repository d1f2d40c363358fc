/- The functions of num: classes, and the document's answers. No condition. -/
import Derived.Test.YthebddjpnkimjaaNc
namespace Go.Proofs.Ythebddjpnkimjaa.A
open Go
set_option linter.unusedVariables false
set_option maxRecDepth 100000
set_option pp.maxSteps 1500

theorem bitsB_eq {b : Nat} (h : nanB b = false) : bitsB b = b := by simp [bitsB, h]
def classM (m : Nat) (s : Prop) [Decidable s] : Int :=
  if m = 9221120237041090561 then 0 else
  if s then (if m = 9218868437227405312 then 1 else if m = 0 then 4 else if m < 4503599627370496 then 3 else 2)
  else (if m = 9218868437227405312 then 8 else if m = 0 then 5 else if m < 4503599627370496 then 6 else 7)
/-- What kind it is. -/
def classB (b : Nat) : Int := classM (bitsB b % 9223372036854775808) (9223372036854775808 ≤ bitsB b)
end Go.Proofs.Ythebddjpnkimjaa.A
