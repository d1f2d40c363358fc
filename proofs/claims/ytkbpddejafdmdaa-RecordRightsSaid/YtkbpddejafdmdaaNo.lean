/- The next number. No condition. -/
import Derived.Test.YtkbpddejafdmdaaNh
namespace Go.Proofs.Ytkbpddejafdmdaa.A
open Go
set_option linter.unusedVariables false
set_option maxRecDepth 100000
set_option pp.maxSteps 1500

theorem placeB_lt' {b : Nat} (hb : b < 18446744073709551616) (hn : nanB b = false) : placeB b ≤ 18437736874454810625 := by
  simp only [placeB, hn, Bool.false_eq_true, if_false]
  simp only [nanB, decide_eq_false_iff_not] at hn
  split <;> omega
end Go.Proofs.Ytkbpddejafdmdaa.A

namespace Go.Proofs.Ytkbpddejafdmdaa.A
open Go
set_option linter.unusedVariables false
set_option maxRecDepth 100000

/-- The size of a finite word, in the least units. -/
def magR (r : Nat) : Nat := if r < 4503599627370496 then r else (4503599627370496 + r % 4503599627370496) * 2 ^ (r / 4503599627370496 - 1)
theorem magR_lt {r r' : Nat} (h : r < r') : magR r < magR r' := by
  unfold magR
  by_cases h1 : r' < 4503599627370496
  · rw [if_pos (by omega), if_pos h1]
    exact h
  · rw [if_neg h1]
    have hp : 0 < 2 ^ (r' / 4503599627370496 - 1) := Nat.pow_pos (by decide)
    by_cases h2 : r < 4503599627370496
    · rw [if_pos h2]
      have : 4503599627370496 * 1 ≤ (4503599627370496 + r' % 4503599627370496) * 2 ^ (r' / 4503599627370496 - 1) := Nat.mul_le_mul (by omega) hp
      omega
    · rw [if_neg h2]
      by_cases h3 : r / 4503599627370496 = r' / 4503599627370496
      · rw [h3]
        exact Nat.mul_lt_mul_of_pos_right (by omega) hp
      · have h4 : r / 4503599627370496 < r' / 4503599627370496 := by omega
        have h5 : 2 ^ (r / 4503599627370496) ≤ 2 ^ (r' / 4503599627370496 - 1) := Nat.pow_le_pow_right (by decide) (by omega)
        have h6 : 2 ^ (r / 4503599627370496) = 2 * 2 ^ (r / 4503599627370496 - 1) := by
          rw [← Nat.pow_succ']
          congr 1
          omega
        have h7 : 0 < 2 ^ (r / 4503599627370496 - 1) := Nat.pow_pos (by decide)
        calc (4503599627370496 + r % 4503599627370496) * 2 ^ (r / 4503599627370496 - 1) < (2 * 4503599627370496) * 2 ^ (r / 4503599627370496 - 1) := Nat.mul_lt_mul_of_pos_right (by omega) h7
          _ = 4503599627370496 * 2 ^ (r / 4503599627370496) := by rw [h6, Nat.mul_comm 2, Nat.mul_assoc]
          _ ≤ 4503599627370496 * 2 ^ (r' / 4503599627370496 - 1) := Nat.mul_le_mul_left _ h5
          _ ≤ _ := Nat.mul_le_mul_right _ (by omega)
end Go.Proofs.Ytkbpddejafdmdaa.A

namespace Go.Proofs.Ytkbpddejafdmdaa.A
open Go
set_option linter.unusedVariables false
set_option maxRecDepth 100000

def mR (r : Nat) : Nat := if r < 4503599627370496 then r else 4503599627370496 + r % 4503599627370496
def eR (r : Nat) : Nat := if r < 4503599627370496 then 0 else r / 4503599627370496 - 1
theorem magR_eq (r : Nat) : magR r = mR r * 2 ^ eR r := by
  unfold magR mR eR
  split
  · simp
  · rfl
def negB (b : Nat) : Bool := b / 9223372036854775808 % 2 == 1
/-- The value of a finite word, in the least units. -/
def valK (b : Nat) : Int := if negB b = true then -(magR (b % 9223372036854775808) : Int) else (magR (b % 9223372036854775808) : Int)
theorem read_fin {b : Nat} (h : b % 9223372036854775808 < 9218868437227405312) : Ieee.double.read b = .number (negB b) (mR (b % 9223372036854775808)) (Ieee.double.leastPlace + (eR (b % 9223372036854775808) : Nat)) := by
  have hs : Ieee.double.signWeight = 9223372036854775808 := rfl
  have hi : Ieee.double.infRung = 9218868437227405312 := rfl
  have hb : Ieee.double.binade = 4503599627370496 := rfl
  unfold Ieee.Format.read
  simp only [hs, hi, hb, mR, eR]
  split
  · simp [negB]
  · rfl
theorem compare_mul (x y : Int) (c : Int) (hc : 0 < c) : compare x y = compare (x * c) (y * c) := by
  simp only [compare, compareOfLessAndEq]
  have h1 : x * c < y * c ↔ x < y := Int.mul_lt_mul_right hc
  have h2 : x * c = y * c ↔ x = y := Int.mul_eq_mul_right_iff (by omega)
  simp only [h1, h2]
theorem signed_mul (s : Bool) (m e d : Nat) (h : d ≤ e) : Ieee.signed s m (e - d) * ((2 ^ d : Nat) : Int) = if s = true then -((m * 2 ^ e : Nat) : Int) else ((m * 2 ^ e : Nat) : Int) := by
  have : m <<< (e - d) * 2 ^ d = m * 2 ^ e := by
    rw [Nat.shiftLeft_eq, Nat.mul_assoc, ← Nat.pow_add, Nat.sub_add_cancel h]
  unfold Ieee.signed
  split
  · rw [Int.neg_mul, ← this]
    simp
  · rw [← this]
    simp
theorem order_fin {a b : Nat} (ha : a % 9223372036854775808 < 9218868437227405312) (hb : b % 9223372036854775808 < 9218868437227405312) : FloatKind.f64.format.order a b = some (compare (valK a) (valK b)) := by
  show (Ieee.double.read a).order (Ieee.double.read b) = _
  rw [read_fin ha, read_fin hb]
  simp only [Ieee.Datum.order, Option.some.injEq]
  generalize hea : eR (a % 9223372036854775808) = ea
  generalize heb : eR (b % 9223372036854775808) = eb
  have hd : min (Ieee.double.leastPlace + (ea : Nat)) (Ieee.double.leastPlace + (eb : Nat)) = Ieee.double.leastPlace + ((min ea eb : Nat) : Int) := by omega
  rw [hd]
  have h1 : (Ieee.double.leastPlace + (ea : Nat) - (Ieee.double.leastPlace + ((min ea eb : Nat) : Int))).toNat = ea - min ea eb := by omega
  have h2 : (Ieee.double.leastPlace + (eb : Nat) - (Ieee.double.leastPlace + ((min ea eb : Nat) : Int))).toNat = eb - min ea eb := by omega
  rw [h1, h2, compare_mul _ _ ((2 ^ min ea eb : Nat) : Int) (by have : 0 < 2 ^ min ea eb := Nat.pow_pos (by decide); omega)]
  rw [signed_mul _ _ ea _ (Nat.min_le_left _ _), signed_mul _ _ eb _ (Nat.min_le_right _ _)]
  simp only [valK, magR_eq, hea, heb]
end Go.Proofs.Ytkbpddejafdmdaa.A

namespace Go.Proofs.Ytkbpddejafdmdaa.A
open Go
set_option linter.unusedVariables false
set_option maxRecDepth 100000

theorem magR_lt_iff {r r' : Nat} : magR r < magR r' ↔ r < r' := by
  constructor
  · intro h
    rcases Nat.lt_trichotomy r r' with h1 | h1 | h1
    · exact h1
    · subst h1; omega
    · have := magR_lt h1; omega
  · exact magR_lt
theorem magR_eq_iff {r r' : Nat} : magR r = magR r' ↔ r = r' := by
  constructor
  · intro h
    rcases Nat.lt_trichotomy r r' with h1 | h1 | h1
    · have := magR_lt h1; omega
    · exact h1
    · have := magR_lt h1; omega
  · intro h; rw [h]
theorem magR_zero : magR 0 = 0 := rfl
/-- The signed rung. -/
def sgB (b : Nat) : Int := if negB b = true then -((b % 9223372036854775808 : Nat) : Int) else ((b % 9223372036854775808 : Nat) : Int)
theorem compare_congr {x y x' y' : Int} (h1 : x < y ↔ x' < y') (h2 : x = y ↔ x' = y') : compare x y = compare x' y' := by
  simp only [compare, compareOfLessAndEq, h1, h2]
theorem compare_lt {x y : Int} (h : x < y) : compare x y = .lt := by simp only [compare, compareOfLessAndEq, if_pos h]
theorem compare_gt {x y : Int} (h : y < x) : compare x y = .gt := by simp only [compare, compareOfLessAndEq]; rw [if_neg (by omega), if_neg (by omega)]
theorem val_sg (a b : Nat) : compare (valK a) (valK b) = compare (sgB a) (sgB b) := by
  unfold valK sgB
  generalize a % 9223372036854775808 = r
  generalize b % 9223372036854775808 = r'
  have h1 : magR r < magR r' ↔ r < r' := magR_lt_iff
  have h2 : magR r' < magR r ↔ r' < r := magR_lt_iff
  have h3 : magR r = magR r' ↔ r = r' := magR_eq_iff
  have h4 : magR 0 < magR r ↔ 0 < r := magR_lt_iff
  have h5 : magR 0 < magR r' ↔ 0 < r' := magR_lt_iff
  rw [magR_zero] at h4 h5
  cases negB a <;> cases negB b <;> simp only [if_true, Bool.false_eq_true, if_false] <;> apply compare_congr <;> omega
theorem read_inf {b : Nat} (h : b % 9223372036854775808 = 9218868437227405312) : Ieee.double.read b = .infinity (negB b) := by
  have hs : Ieee.double.signWeight = 9223372036854775808 := rfl
  have hi : Ieee.double.infRung = 9218868437227405312 := rfl
  have hb : Ieee.double.binade = 4503599627370496 := rfl
  unfold Ieee.Format.read
  simp only [hs, hi, hb, h]
  rfl
theorem order_sg {a b : Nat} (ha : nanB a = false) (hb : nanB b = false) : FloatKind.f64.format.order a b = some (compare (sgB a) (sgB b)) := by
  simp only [nanB, decide_eq_false_iff_not] at ha hb
  by_cases h1 : a % 9223372036854775808 = 9218868437227405312
  · by_cases h2 : b % 9223372036854775808 = 9218868437227405312
    · show (Ieee.double.read a).order (Ieee.double.read b) = _
      rw [read_inf h1, read_inf h2, sgB, sgB, h1, h2]
      cases negB a <;> cases negB b <;> rfl
    · show (Ieee.double.read a).order (Ieee.double.read b) = _
      rw [read_inf h1, read_fin (by omega)]
      simp only [Ieee.Datum.order, Option.some.injEq]
      unfold sgB
      rw [h1]
      generalize b % 9223372036854775808 = r' at *
      cases negB a
      · simp only [Bool.false_eq_true, if_false]
        symm
        apply compare_gt
        split <;> omega
      · simp only [if_true]
        symm
        apply compare_lt
        split <;> omega
  · by_cases h2 : b % 9223372036854775808 = 9218868437227405312
    · show (Ieee.double.read a).order (Ieee.double.read b) = _
      rw [read_inf h2, read_fin (by omega)]
      simp only [Ieee.Datum.order, Option.some.injEq]
      unfold sgB
      rw [h2]
      generalize a % 9223372036854775808 = r at *
      cases negB b
      · simp only [Bool.false_eq_true, if_false]
        symm
        apply compare_lt
        split <;> omega
      · simp only [if_true]
        symm
        apply compare_gt
        split <;> omega
    · rw [order_fin (by omega) (by omega), val_sg]
end Go.Proofs.Ytkbpddejafdmdaa.A

namespace Go.Proofs.Ytkbpddejafdmdaa.A
open Go
set_option linter.unusedVariables false
set_option maxRecDepth 100000
set_option pp.maxSteps 1500

theorem cmp_lt {x y : Int} : compare x y = .lt ↔ x < y := by
  simp only [compare, compareOfLessAndEq]
  split
  · simp [*]
  · split <;> simp [*]
theorem cmp_eq {x y : Int} : compare x y = .eq ↔ x = y := by
  simp only [compare, compareOfLessAndEq]
  split
  · rename_i h
    simp
    omega
  · split <;> simp [*]
theorem negB_iff {b : Nat} (hb : b < 18446744073709551616) : negB b = true ↔ 9223372036854775808 ≤ b := by
  simp only [negB, beq_iff_eq]
  omega
theorem place_sg {b : Nat} (hb : b < 18446744073709551616) (hn : nanB b = false) :
    (9223372036854775808 ≤ b ∧ sgB b = -((b % 9223372036854775808 : Nat) : Int) ∧ placeB b = 9218868437227405312 - b % 9223372036854775808) ∨ (b < 9223372036854775808 ∧ sgB b = (b : Int) ∧ placeB b = 9218868437227405313 + b) := by
  by_cases h : 9223372036854775808 ≤ b
  · left
    refine ⟨h, by simp only [sgB, (negB_iff hb).2 h, if_true], ?_⟩
    simp only [placeB, hn, Bool.false_eq_true, if_false, if_pos h]
  · right
    have hng : negB b = false := by
      cases hq : negB b
      · rfl
      · exact absurd ((negB_iff hb).1 hq) h
    refine ⟨by omega, ?_, ?_⟩
    · simp only [sgB, hng, Bool.false_eq_true, if_false]
      omega
    · simp only [placeB, hn, Bool.false_eq_true, if_false, if_neg h]
end Go.Proofs.Ytkbpddejafdmdaa.A

namespace Go.Proofs.Ytkbpddejafdmdaa.A
open Go
set_option linter.unusedVariables false
set_option maxRecDepth 100000
set_option pp.maxSteps 1500

end Go.Proofs.Ytkbpddejafdmdaa.A

namespace Go.Proofs.Ytkbpddejafdmdaa.A
open Go
set_option linter.unusedVariables false
set_option maxRecDepth 100000
set_option pp.maxSteps 1500

theorem bytesLess_val : ∀ (l m : List UInt8) (a b : Nat), l.length = m.length → Op.bytesLess l m = true → a ≤ b → l.foldl (fun p c => p * 256 + c.toNat) a < m.foldl (fun p c => p * 256 + c.toNat) b
  | [], [], a, b, _, h, hab => by cases h
  | [], _ :: _, _, _, h, _, _ => by cases h
  | _ :: _, [], _, _, h, _, _ => by cases h
  | x :: l, y :: m, a, b, hl0, h, hab => by
    have hl : l.length = m.length := by simpa using hl0
    simp only [Op.bytesLess, Bool.or_eq_true, Bool.and_eq_true, decide_eq_true_eq, beq_iff_eq] at h
    simp only [List.foldl]
    rcases h with h | ⟨h1, h2⟩
    · have hx : x.toNat < y.toNat := h
      have key : ∀ (l m : List UInt8) (a b : Nat), l.length = m.length → a < b → l.foldl (fun p c => p * 256 + c.toNat) a < m.foldl (fun p c => p * 256 + c.toNat) b := by
        intro l
        induction l with
        | nil => intro m a b hl hab; cases m with
          | nil => exact hab
          | cons _ _ => cases hl
        | cons x l ih => intro m a b hl hab; cases m with
          | nil => cases hl
          | cons y m =>
            simp only [List.foldl]
            have := x.toNat_lt
            exact ih m _ _ (by simpa using hl) (by omega)
      exact key l m _ _ hl (by omega)
    · subst h1
      exact bytesLess_val l m _ _ hl h2 (by omega)
theorem bytesLess_irr : ∀ (l : List UInt8), Op.bytesLess l l = false
  | [] => rfl
  | x :: l => by simp [Op.bytesLess, bytesLess_irr l]
theorem bytesLess_tri : ∀ (l m : List UInt8), l.length = m.length → Op.bytesLess l m = true ∨ l = m ∨ Op.bytesLess m l = true
  | [], [], _ => .inr (.inl rfl)
  | [], _ :: _, h => by cases h
  | _ :: _, [], h => by cases h
  | x :: l, y :: m, h => by
    have hl : l.length = m.length := by simpa using h
    simp only [Op.bytesLess, Bool.or_eq_true, Bool.and_eq_true, decide_eq_true_eq, beq_iff_eq]
    rcases UInt8.lt_or_lt_of_ne (a := x) (b := y) |> fun f => (Decidable.em (x = y)).imp id f with h1 | h1 | h1
    · subst h1
      rcases bytesLess_tri l m hl with h2 | h2 | h2
      · exact .inl (.inr ⟨rfl, h2⟩)
      · exact .inr (.inl (by rw [h2]))
      · exact .inr (.inr (.inr ⟨rfl, h2⟩))
    · exact .inl (.inl h1)
    · exact .inr (.inr (.inl h1))
theorem bytesLess_valL {l m : List UInt8} (h : l.length = m.length) : Op.bytesLess l m = decide (valL l < valL m) := by
  rcases bytesLess_tri l m h with h1 | h1 | h1
  · rw [h1]
    exact (decide_eq_true (bytesLess_val l m 0 0 h h1 (Nat.le_refl 0))).symm
  · subst h1
    rw [bytesLess_irr]
    exact (decide_eq_false (Nat.lt_irrefl _)).symm
  · have h2 : valL m < valL l := bytesLess_val m l 0 0 h.symm h1 (Nat.le_refl 0)
    rw [decide_eq_false (by omega)]
    cases hq : Op.bytesLess l m
    · rfl
    · have h3 : valL l < valL m := bytesLess_val l m 0 0 h hq (Nat.le_refl 0)
      omega
theorem strLt_eq (x y : ByteArray) : strLt x y = Op.bytesLess x.data.toList y.data.toList := by rw [strLt, ByteArray.toList_eq, ByteArray.toList_eq]
theorem keyLt {p q : Nat} (hp : p < 18446744073709551616) (hq : q < 18446744073709551616) : strLt ⟨(keyL p).toArray⟩ ⟨(keyL q).toArray⟩ = decide (p < q) := by
  rw [strLt_eq]
  show Op.bytesLess (keyL p) (keyL q) = _
  rw [bytesLess_valL (l := keyL p) (m := keyL q) rfl, valL_keyL hp, valL_keyL hq]
theorem keyEq {p q : Nat} (hp : p < 18446744073709551616) (hq : q < 18446744073709551616) : strEq ⟨(keyL p).toArray⟩ ⟨(keyL q).toArray⟩ = decide (p = q) := by
  rw [strEq_eq]
  show ((keyL p) == (keyL q)) = _
  by_cases h : p = q
  · subst h
    simp
  · rw [decide_eq_false h]
    simp only [beq_eq_false_iff_ne, ne_eq]
    intro he
    have := congrArg valL he
    rw [valL_keyL hp, valL_keyL hq] at this
    exact h this
/-- Which one stands ahead. -/
def cmpI (x y : Nat) : Int := if x < y then -1 else if y < x then 1 else 0
theorem placeB_inj {a b : Nat} (ha : a < 18446744073709551616) (hb : b < 18446744073709551616) : placeB a = placeB b ↔ bitsB a = bitsB b := by
  constructor
  · intro h
    rw [← atB_place ha, ← atB_place hb, h]
  · intro h
    have key : ∀ {c : Nat}, placeB (bitsB c) = placeB c := fun {c} => by
      unfold bitsB
      cases hn : nanB c
      · simp
      · have hc : nanB 9221120237041090561 = true := by decide
        simp [placeB, hn, hc]
    rw [← key (c := a), ← key (c := b), h]
end Go.Proofs.Ytkbpddejafdmdaa.A
