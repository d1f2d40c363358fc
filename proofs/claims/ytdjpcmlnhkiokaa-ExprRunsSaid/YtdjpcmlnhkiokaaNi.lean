/- The next number. No condition. -/
import Derived.Test.YtdjpcmlnhkiokaaNh
namespace Go.Proofs.Ytdjpcmlnhkiokaa.A
open Go
set_option linter.unusedVariables false
set_option maxRecDepth 100000
set_option pp.maxSteps 1500

theorem placeB_lt' {b : Nat} (hb : b < 18446744073709551616) (hn : nanB b = false) : placeB b ≤ 18437736874454810625 := by
  simp only [placeB, hn, Bool.false_eq_true, if_false]
  simp only [nanB, decide_eq_false_iff_not] at hn
  split <;> omega
end Go.Proofs.Ytdjpcmlnhkiokaa.A
