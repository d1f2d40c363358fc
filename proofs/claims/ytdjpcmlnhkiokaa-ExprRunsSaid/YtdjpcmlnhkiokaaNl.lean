/- The order of floats is the order of signed rungs. No condition. -/
import Derived.Test.YtdjpcmlnhkiokaaNk
namespace Go.Proofs.Ytdjpcmlnhkiokaa.A
open Go
set_option linter.unusedVariables false
set_option maxRecDepth 100000

theorem magR_lt_iff {r r' : Nat} : magR r < magR r' ↔ r < r' := by
  constructor
  · intro h
    rcases Nat.lt_trichotomy r r' with h1 | h1 | h1
    · exact h1
    · subst h1; omega
    · have := magR_lt h1; omega
  · exact magR_lt
theorem magR_eq_iff {r r' : Nat} : magR r = magR r' ↔ r = r' := by
  constructor
  · intro h
    rcases Nat.lt_trichotomy r r' with h1 | h1 | h1
    · have := magR_lt h1; omega
    · exact h1
    · have := magR_lt h1; omega
  · intro h; rw [h]
theorem magR_zero : magR 0 = 0 := rfl
/-- The signed rung. -/
def sgB (b : Nat) : Int := if negB b = true then -((b % 9223372036854775808 : Nat) : Int) else ((b % 9223372036854775808 : Nat) : Int)
theorem compare_congr {x y x' y' : Int} (h1 : x < y ↔ x' < y') (h2 : x = y ↔ x' = y') : compare x y = compare x' y' := by
  simp only [compare, compareOfLessAndEq, h1, h2]
theorem compare_lt {x y : Int} (h : x < y) : compare x y = .lt := by simp only [compare, compareOfLessAndEq, if_pos h]
theorem compare_gt {x y : Int} (h : y < x) : compare x y = .gt := by simp only [compare, compareOfLessAndEq]; rw [if_neg (by omega), if_neg (by omega)]
theorem val_sg (a b : Nat) : compare (valB a) (valB b) = compare (sgB a) (sgB b) := by
  unfold valB sgB
  generalize a % 9223372036854775808 = r
  generalize b % 9223372036854775808 = r'
  have h1 : magR r < magR r' ↔ r < r' := magR_lt_iff
  have h2 : magR r' < magR r ↔ r' < r := magR_lt_iff
  have h3 : magR r = magR r' ↔ r = r' := magR_eq_iff
  have h4 : magR 0 < magR r ↔ 0 < r := magR_lt_iff
  have h5 : magR 0 < magR r' ↔ 0 < r' := magR_lt_iff
  rw [magR_zero] at h4 h5
  cases negB a <;> cases negB b <;> simp only [if_true, Bool.false_eq_true, if_false] <;> apply compare_congr <;> omega
theorem read_inf {b : Nat} (h : b % 9223372036854775808 = 9218868437227405312) : Ieee.double.read b = .infinity (negB b) := by
  have hs : Ieee.double.signWeight = 9223372036854775808 := rfl
  have hi : Ieee.double.infRung = 9218868437227405312 := rfl
  have hb : Ieee.double.binade = 4503599627370496 := rfl
  unfold Ieee.Format.read
  simp only [hs, hi, hb, h]
  rfl
theorem order_sg {a b : Nat} (ha : nanB a = false) (hb : nanB b = false) : FloatKind.f64.format.order a b = some (compare (sgB a) (sgB b)) := by
  simp only [nanB, decide_eq_false_iff_not] at ha hb
  by_cases h1 : a % 9223372036854775808 = 9218868437227405312
  · by_cases h2 : b % 9223372036854775808 = 9218868437227405312
    · show (Ieee.double.read a).order (Ieee.double.read b) = _
      rw [read_inf h1, read_inf h2, sgB, sgB, h1, h2]
      cases negB a <;> cases negB b <;> rfl
    · show (Ieee.double.read a).order (Ieee.double.read b) = _
      rw [read_inf h1, read_fin (by omega)]
      simp only [Ieee.Datum.order, Option.some.injEq]
      unfold sgB
      rw [h1]
      generalize b % 9223372036854775808 = r' at *
      cases negB a
      · simp only [Bool.false_eq_true, if_false]
        symm
        apply compare_gt
        split <;> omega
      · simp only [if_true]
        symm
        apply compare_lt
        split <;> omega
  · by_cases h2 : b % 9223372036854775808 = 9218868437227405312
    · show (Ieee.double.read a).order (Ieee.double.read b) = _
      rw [read_inf h2, read_fin (by omega)]
      simp only [Ieee.Datum.order, Option.some.injEq]
      unfold sgB
      rw [h2]
      generalize a % 9223372036854775808 = r at *
      cases negB b
      · simp only [Bool.false_eq_true, if_false]
        symm
        apply compare_lt
        split <;> omega
      · simp only [if_true]
        symm
        apply compare_gt
        split <;> omega
    · rw [order_fin (by omega) (by omega), val_sg]
end Go.Proofs.Ytdjpcmlnhkiokaa.A
