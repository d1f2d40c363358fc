/- The order of finite floats is the order of their values. No condition. -/
import Derived.Test.YtdjpcmlnhkiokaaNj
namespace Go.Proofs.Ytdjpcmlnhkiokaa.A
open Go
set_option linter.unusedVariables false
set_option maxRecDepth 100000

def mR (r : Nat) : Nat := if r < 4503599627370496 then r else 4503599627370496 + r % 4503599627370496
def eR (r : Nat) : Nat := if r < 4503599627370496 then 0 else r / 4503599627370496 - 1
theorem magR_eq (r : Nat) : magR r = mR r * 2 ^ eR r := by
  unfold magR mR eR
  split
  · simp
  · rfl
def negB (b : Nat) : Bool := b / 9223372036854775808 % 2 == 1
/-- The value of a finite word, in the least units. -/
def valB (b : Nat) : Int := if negB b = true then -(magR (b % 9223372036854775808) : Int) else (magR (b % 9223372036854775808) : Int)
theorem read_fin {b : Nat} (h : b % 9223372036854775808 < 9218868437227405312) : Ieee.double.read b = .number (negB b) (mR (b % 9223372036854775808)) (Ieee.double.leastPlace + (eR (b % 9223372036854775808) : Nat)) := by
  have hs : Ieee.double.signWeight = 9223372036854775808 := rfl
  have hi : Ieee.double.infRung = 9218868437227405312 := rfl
  have hb : Ieee.double.binade = 4503599627370496 := rfl
  unfold Ieee.Format.read
  simp only [hs, hi, hb, mR, eR]
  split
  · simp [negB]
  · rfl
theorem compare_mul (x y : Int) (c : Int) (hc : 0 < c) : compare x y = compare (x * c) (y * c) := by
  simp only [compare, compareOfLessAndEq]
  have h1 : x * c < y * c ↔ x < y := Int.mul_lt_mul_right hc
  have h2 : x * c = y * c ↔ x = y := Int.mul_eq_mul_right_iff (by omega)
  simp only [h1, h2]
theorem signed_mul (s : Bool) (m e d : Nat) (h : d ≤ e) : Ieee.signed s m (e - d) * ((2 ^ d : Nat) : Int) = if s = true then -((m * 2 ^ e : Nat) : Int) else ((m * 2 ^ e : Nat) : Int) := by
  have : m <<< (e - d) * 2 ^ d = m * 2 ^ e := by
    rw [Nat.shiftLeft_eq, Nat.mul_assoc, ← Nat.pow_add, Nat.sub_add_cancel h]
  unfold Ieee.signed
  split
  · rw [Int.neg_mul, ← this]
    simp
  · rw [← this]
    simp
theorem order_fin {a b : Nat} (ha : a % 9223372036854775808 < 9218868437227405312) (hb : b % 9223372036854775808 < 9218868437227405312) : FloatKind.f64.format.order a b = some (compare (valB a) (valB b)) := by
  show (Ieee.double.read a).order (Ieee.double.read b) = _
  rw [read_fin ha, read_fin hb]
  simp only [Ieee.Datum.order, Option.some.injEq]
  generalize hea : eR (a % 9223372036854775808) = ea
  generalize heb : eR (b % 9223372036854775808) = eb
  have hd : min (Ieee.double.leastPlace + (ea : Nat)) (Ieee.double.leastPlace + (eb : Nat)) = Ieee.double.leastPlace + ((min ea eb : Nat) : Int) := by omega
  rw [hd]
  have h1 : (Ieee.double.leastPlace + (ea : Nat) - (Ieee.double.leastPlace + ((min ea eb : Nat) : Int))).toNat = ea - min ea eb := by omega
  have h2 : (Ieee.double.leastPlace + (eb : Nat) - (Ieee.double.leastPlace + ((min ea eb : Nat) : Int))).toNat = eb - min ea eb := by omega
  rw [h1, h2, compare_mul _ _ ((2 ^ min ea eb : Nat) : Int) (by have : 0 < 2 ^ min ea eb := Nat.pow_pos (by decide); omega)]
  rw [signed_mul _ _ ea _ (Nat.min_le_left _ _), signed_mul _ _ eb _ (Nat.min_le_right _ _)]
  simp only [valB, magR_eq, hea, heb]
end Go.Proofs.Ytdjpcmlnhkiokaa.A
