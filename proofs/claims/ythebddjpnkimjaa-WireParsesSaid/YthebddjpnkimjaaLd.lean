/- sorting few numbers; copies; lists behind one another. No condition. -/
import Derived.Test.YthebddjpnkimjaaLc
namespace Go.Proofs.Ythebddjpnkimjaa.A
open Go
set_option linter.unusedVariables false
set_option maxRecDepth 100000
set_option pp.maxSteps 1500

def IntR (v : AV) : Prop := ∃ i : Int, v = i64 i
theorem belowL_us (m : Nat) : ∀ l : List Nat, belowL m (l.map u64n) = true
  | [] => rfl
  | x :: l => by show (bif below m (u64n x) then belowL m (l.map u64n) else false) = true; rw [belowL_us m l]; rfl
theorem belowH_us1 (R : List Nat) : belowH 2 [.dead, .row (R.map u64n)] = true := by
  simp only [belowH, belowO, belowL_us]
  rfl
theorem renH_us (r : Nat → Nat) (R : List Nat) : renH r [.row (R.map u64n)] = [.row (R.map u64n)] := by
  simp only [renH, renO_us]
end Go.Proofs.Ythebddjpnkimjaa.A
