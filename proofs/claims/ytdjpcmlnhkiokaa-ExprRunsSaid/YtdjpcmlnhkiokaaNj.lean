/- The order of floats is the order of their words. No condition. -/
import Derived.Test.YtdjpcmlnhkiokaaNi
namespace Go.Proofs.Ytdjpcmlnhkiokaa.A
open Go
set_option linter.unusedVariables false
set_option maxRecDepth 100000

/-- The size of a finite word, in the least units. -/
def magR (r : Nat) : Nat := if r < 4503599627370496 then r else (4503599627370496 + r % 4503599627370496) * 2 ^ (r / 4503599627370496 - 1)
theorem magR_lt {r r' : Nat} (h : r < r') : magR r < magR r' := by
  unfold magR
  by_cases h1 : r' < 4503599627370496
  · rw [if_pos (by omega), if_pos h1]
    exact h
  · rw [if_neg h1]
    have hp : 0 < 2 ^ (r' / 4503599627370496 - 1) := Nat.pow_pos (by decide)
    by_cases h2 : r < 4503599627370496
    · rw [if_pos h2]
      have : 4503599627370496 * 1 ≤ (4503599627370496 + r' % 4503599627370496) * 2 ^ (r' / 4503599627370496 - 1) := Nat.mul_le_mul (by omega) hp
      omega
    · rw [if_neg h2]
      by_cases h3 : r / 4503599627370496 = r' / 4503599627370496
      · rw [h3]
        exact Nat.mul_lt_mul_of_pos_right (by omega) hp
      · have h4 : r / 4503599627370496 < r' / 4503599627370496 := by omega
        have h5 : 2 ^ (r / 4503599627370496) ≤ 2 ^ (r' / 4503599627370496 - 1) := Nat.pow_le_pow_right (by decide) (by omega)
        have h6 : 2 ^ (r / 4503599627370496) = 2 * 2 ^ (r / 4503599627370496 - 1) := by
          rw [← Nat.pow_succ']
          congr 1
          omega
        have h7 : 0 < 2 ^ (r / 4503599627370496 - 1) := Nat.pow_pos (by decide)
        calc (4503599627370496 + r % 4503599627370496) * 2 ^ (r / 4503599627370496 - 1) < (2 * 4503599627370496) * 2 ^ (r / 4503599627370496 - 1) := Nat.mul_lt_mul_of_pos_right (by omega) h7
          _ = 4503599627370496 * 2 ^ (r / 4503599627370496) := by rw [h6, Nat.mul_comm 2, Nat.mul_assoc]
          _ ≤ 4503599627370496 * 2 ^ (r' / 4503599627370496 - 1) := Nat.mul_le_mul_left _ h5
          _ ≤ _ := Nat.mul_le_mul_right _ (by omega)
end Go.Proofs.Ytdjpcmlnhkiokaa.A
