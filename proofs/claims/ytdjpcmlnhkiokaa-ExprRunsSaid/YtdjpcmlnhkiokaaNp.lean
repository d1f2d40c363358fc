/- Cutting off what is behind the point. No condition. -/
import Derived.Test.YtdjpcmlnhkiokaaNo
namespace Go.Proofs.Ytdjpcmlnhkiokaa.A
open Go
set_option linter.unusedVariables false
set_option maxRecDepth 100000
set_option pp.maxSteps 1500

theorem cut_zero (s : Bool) (n d : Nat) : Ieee.Toward.cut .zero s n d = n / 2 ^ d := by
  unfold Ieee.Toward.cut
  simp only [Nat.one_shiftLeft, Bool.toNat_false, Nat.add_zero]
  rcases Nat.le_total d (n.log2 + 2) with h | h
  · rw [Nat.min_eq_left h]
  · rw [Nat.min_eq_right h]
    have h1 : n < 2 ^ (n.log2 + 1) := Nat.lt_log2_self
    have h2 : 2 ^ (n.log2 + 1) ≤ 2 ^ (n.log2 + 2) := Nat.pow_le_pow_right (by decide) (by omega)
    have h3 : 2 ^ (n.log2 + 2) ≤ 2 ^ d := Nat.pow_le_pow_right (by decide) h
    rw [Nat.div_eq_of_lt (by omega), Nat.div_eq_of_lt (by omega)]
theorem cut_even (s : Bool) (n d : Nat) (hd : d ≤ n.log2 + 2) (h : n % 2 ^ d = 0) : Ieee.Toward.cut .even s n d = n / 2 ^ d := by
  unfold Ieee.Toward.cut
  have h0 : 0 < 2 ^ d := Nat.pow_pos (by decide)
  simp only [Nat.min_eq_left hd, Nat.one_shiftLeft, h]
  have h1 : decide (2 ^ d < 2 * 0) = false := decide_eq_false (by omega)
  have h2 : (2 ^ d == 2 * 0) = false := by simp
  rw [h1, h2]
  simp
theorem near_big (s : Bool) (m i : Nat) (h1 : 4503599627370496 ≤ m) (h2 : m < 9007199254740992) : Ieee.double.nearest s (m <<< i) 0 = Ieee.double.word s (min ((i + 1074) * 4503599627370496 + m) 9218868437227405312) := by
  have hp : 0 < 2 ^ i := Nat.pow_pos (by decide)
  have hm : m <<< i = m * 2 ^ i := Nat.shiftLeft_eq m i
  have hpos : m * 2 ^ i ≠ 0 := by
    have := Nat.mul_pos (show 0 < m by omega) hp
    omega
  have hl : (m * 2 ^ i).log2 = 52 + i := by
    rw [Nat.log2_eq_iff hpos]
    constructor
    · rw [Nat.pow_add]; exact Nat.mul_le_mul_right _ h1
    · rw [show 52 + i + 1 = 53 + i by omega, Nat.pow_add]; exact Nat.mul_lt_mul_of_pos_right h2 hp
  unfold Ieee.Format.nearest
  rw [hm, if_neg hpos]
  have hf : (Ieee.double.fractionBits : Int) = 52 := rfl
  have hlp : Ieee.double.leastPlace = -1074 := rfl
  have hb : Ieee.double.binade = 4503599627370496 := rfl
  have hi : Ieee.double.infRung = 9218868437227405312 := rfl
  simp only [hl, hf, hlp, hb, hi]
  have e1 : max (0 + ((52 + i : Nat) : Int) - 52) (-1074) = (i : Int) := by omega
  rw [e1]
  have e2 : (0 - (i : Int)).toNat = 0 := by omega
  have e3 : ((i : Int) - 0).toNat = i := by omega
  have e4 : ((i : Int) - -1074).toNat = i + 1074 := by omega
  rw [e2, e3, e4, Nat.shiftLeft_zero, cut_even s _ i (by rw [hl]; omega) (Nat.mul_mod_left _ _), Nat.mul_div_cancel _ hp]
theorem near_small (s : Bool) (m k : Nat) (h1 : 4503599627370496 ≤ m) (h2 : m < 9007199254740992) (hk : k ≤ 52) : Ieee.double.nearest s (m / 2 ^ k) 0 = Ieee.double.word s (min ((1074 - k) * 4503599627370496 + m / 2 ^ k * 2 ^ k) 9218868437227405312) := by
  have hp : 0 < 2 ^ k := Nat.pow_pos (by decide)
  have h52 : 2 ^ (52 - k) * 2 ^ k = 4503599627370496 := by rw [← Nat.pow_add, Nat.sub_add_cancel hk]
  have h53 : 2 ^ (53 - k) * 2 ^ k = 9007199254740992 := by rw [← Nat.pow_add, Nat.sub_add_cancel (by omega)]
  have hlo : 2 ^ (52 - k) ≤ m / 2 ^ k := by rw [Nat.le_div_iff_mul_le hp, h52]; exact h1
  have hhi : m / 2 ^ k < 2 ^ (53 - k) := by rw [Nat.div_lt_iff_lt_mul hp, h53]; exact h2
  have hpos : m / 2 ^ k ≠ 0 := by
    have : 0 < 2 ^ (52 - k) := Nat.pow_pos (by decide)
    omega
  have hl : (m / 2 ^ k).log2 = 52 - k := by
    rw [Nat.log2_eq_iff hpos]
    refine ⟨hlo, ?_⟩
    rw [show 52 - k + 1 = 53 - k by omega]
    exact hhi
  unfold Ieee.Format.nearest
  rw [if_neg hpos]
  have hf : (Ieee.double.fractionBits : Int) = 52 := rfl
  have hlp : Ieee.double.leastPlace = -1074 := rfl
  have hb : Ieee.double.binade = 4503599627370496 := rfl
  have hi : Ieee.double.infRung = 9218868437227405312 := rfl
  simp only [hl, hf, hlp, hb, hi]
  have e1 : max (0 + ((52 - k : Nat) : Int) - 52) (-1074) = -(k : Int) := by omega
  rw [e1]
  have e2 : (0 - -(k : Int)).toNat = k := by omega
  have e3 : (-(k : Int) - 0).toNat = 0 := by omega
  have e4 : (-(k : Int) - -1074).toNat = 1074 - k := by omega
  rw [e2, e3, e4, cut_even s _ 0 (by omega) (Nat.mod_one _), Nat.pow_zero, Nat.div_one, Nat.shiftLeft_eq]
/-- The wholes of a rung. -/
def intR (r : Nat) : Nat := if 4841369599423283200 ≤ r then (4503599627370496 + r % 4503599627370496) * 2 ^ (r / 4503599627370496 - 1075)
  else if r < 4607182418800017408 then 0 else (4503599627370496 + r % 4503599627370496) / 2 ^ (1075 - r / 4503599627370496)
/-- The rung of them. -/
def truncR (r : Nat) : Nat := if 4841369599423283200 ≤ r then r
  else if r < 4607182418800017408 then 0 else r - r % 4503599627370496 % 2 ^ (1075 - r / 4503599627370496)
def truncB (b : Nat) : Nat := (if negB b = true then 9223372036854775808 else 0) + truncR (b % 9223372036854775808)
theorem truncR_le (r : Nat) : truncR r ≤ r := by
  unfold truncR
  split
  · exact Nat.le_refl _
  · split <;> omega
theorem pow_dvd52 {k : Nat} (hk : k ≤ 52) : 4503599627370496 = 2 ^ (52 - k) * 2 ^ k := by rw [← Nat.pow_add, Nat.sub_add_cancel hk]
theorem mod_lead {f k : Nat} (hk : k ≤ 52) : (4503599627370496 + f) % 2 ^ k = f % 2 ^ k := by
  rw [pow_dvd52 hk, Nat.add_comm, Nat.mul_comm, Nat.add_mul_mod_self_left]
theorem integral_read {b : Nat} (h : b % 9223372036854775808 ≤ 4890909195324358656) : (Ieee.double.read b).integral .zero = .number (negB b) (intR (b % 9223372036854775808)) 0 := by
  rw [read_fin (by omega)]
  generalize b % 9223372036854775808 = r at *
  have hlp : Ieee.double.leastPlace = -1074 := rfl
  simp only [Ieee.Datum.integral, cut_zero, hlp, Nat.shiftLeft_eq]
  congr 1
  unfold intR
  by_cases h1 : 4841369599423283200 ≤ r
  · rw [if_pos h1]
    have hm : mR r = 4503599627370496 + r % 4503599627370496 := by unfold mR; rw [if_neg (by omega)]
    have he : eR r = r / 4503599627370496 - 1 := by unfold eR; rw [if_neg (by omega)]
    rw [hm, he]
    have e1 : (-1074 + ((r / 4503599627370496 - 1 : Nat) : Int)).toNat = r / 4503599627370496 - 1075 := by omega
    have e2 : (-(-1074 + ((r / 4503599627370496 - 1 : Nat) : Int))).toNat = 0 := by omega
    rw [e1, e2, Nat.pow_zero, Nat.div_one]
  · rw [if_neg h1]
    by_cases h2 : r < 4607182418800017408
    · rw [if_pos h2]
      have he : eR r ≤ 1021 := by unfold eR; split <;> omega
      have hm : mR r < 9007199254740992 := by unfold mR; split <;> omega
      have e1 : (-1074 + ((eR r : Nat) : Int)).toNat = 0 := by omega
      have e2 : (-(-1074 + ((eR r : Nat) : Int))).toNat = 1074 - eR r := by omega
      rw [e1, e2, Nat.pow_zero, Nat.mul_one]
      have : 2 ^ 53 ≤ 2 ^ (1074 - eR r) := Nat.pow_le_pow_right (by decide) (by omega)
      exact Nat.div_eq_of_lt (by omega)
    · rw [if_neg h2]
      have hm : mR r = 4503599627370496 + r % 4503599627370496 := by unfold mR; rw [if_neg (by omega)]
      have he : eR r = r / 4503599627370496 - 1 := by unfold eR; rw [if_neg (by omega)]
      rw [hm, he]
      have e1 : (-1074 + ((r / 4503599627370496 - 1 : Nat) : Int)).toNat = 0 := by omega
      have e2 : (-(-1074 + ((r / 4503599627370496 - 1 : Nat) : Int))).toNat = 1075 - r / 4503599627370496 := by omega
      rw [e1, e2, Nat.pow_zero, Nat.mul_one]
theorem word_eq (s : Bool) (r : Nat) : Ieee.double.word s r = (if s = true then 9223372036854775808 else 0) + r := by
  have hs : Ieee.double.signWeight = 9223372036854775808 := rfl
  unfold Ieee.Format.word
  rw [hs]
  cases s <;> simp
theorem near_int (s : Bool) {r : Nat} (h : r ≤ 4890909195324358656) : Ieee.double.nearest s (intR r) 0 = (if s = true then 9223372036854775808 else 0) + truncR r := by
  rw [← word_eq]
  unfold intR truncR
  by_cases h1 : 4841369599423283200 ≤ r
  · rw [if_pos h1, if_pos h1, ← Nat.shiftLeft_eq, near_big s _ _ (by omega) (by omega)]
    congr 1
    omega
  · rw [if_neg h1, if_neg h1]
    by_cases h2 : r < 4607182418800017408
    · rw [if_pos h2, if_pos h2]
      rfl
    · rw [if_neg h2, if_neg h2, near_small s _ _ (by omega) (by omega) (by omega)]
      congr 1
      have hd := Nat.div_add_mod (4503599627370496 + r % 4503599627370496) (2 ^ (1075 - r / 4503599627370496))
      rw [mod_lead (by omega), Nat.mul_comm] at hd
      generalize hx : (4503599627370496 + r % 4503599627370496) / 2 ^ (1075 - r / 4503599627370496) * 2 ^ (1075 - r / 4503599627370496) = x at *
      generalize hy : r % 4503599627370496 % 2 ^ (1075 - r / 4503599627370496) = y at *
      omega
theorem trunc_enc {b : Nat} (h : b % 9223372036854775808 ≤ 4890909195324358656) : FloatKind.f64.encode ((FloatKind.f64.decode b).integral .zero) = truncB b := by
  show Ieee.double.write ((Ieee.double.read b).integral .zero) = _
  rw [integral_read h]
  exact near_int _ h
theorem toInt_read {b : Nat} (h : b % 9223372036854775808 ≤ 4890909195324358656) : (FloatKind.f64.decode b).toInt .zero = some (if negB b = true then -(intR (b % 9223372036854775808) : Int) else (intR (b % 9223372036854775808) : Int)) := by
  show (Ieee.double.read b).toInt .zero = _
  unfold Ieee.Datum.toInt
  rw [integral_read h]
  simp [Ieee.signed, Nat.shiftLeft_zero]
end Go.Proofs.Ytdjpcmlnhkiokaa.A
