/- expr: floors, by the document. No condition. -/
import Derived.Test.YtdjpcmlnhkiokaaEj
import Derived.Test.YtdjpcmlnhkiokaaHa
namespace Go.Proofs.Ytdjpcmlnhkiokaa.A
open Go
set_option linter.unusedVariables false
set_option maxRecDepth 100000
set_option pp.maxSteps 1500

theorem add_word {a b : Nat} {x y : Int} (ha : Rep a x) (hb : Rep b y) (hxy : x + y ≠ 0) : FloatKind.f64.format.add a b = some (wN (x + y)) := by
  obtain ⟨s, m, i, e1, h1, v1⟩ := ha
  obtain ⟨t, n, j, e2, h2, v2⟩ := hb
  have hadd : FloatKind.f64.format.add a b = ((Ieee.double.read a).sum (Ieee.double.read b)).map Ieee.double.write := rfl
  rw [hadd, e1, e2]
  simp only [Ieee.Datum.sum, Option.map_some, Ieee.Format.write]
  generalize hb : min i j = base
  have t1 : Ieee.signed s m (i - base).toNat * 2 ^ (base + 1074).toNat = x * 2 ^ kE := by
    rw [sgn_mul, ← v1]
    congr 1
    omega
  have t2 : Ieee.signed t n (j - base).toNat * 2 ^ (base + 1074).toNat = y * 2 ^ kE := by
    rw [sgn_mul, ← v2]
    congr 1
    omega
  generalize Ieee.signed s m (i - base).toNat = u at *
  generalize Ieee.signed t n (j - base).toNat = v at *
  have tt : (u + v) * 2 ^ (base + 1074).toNat = (x + y) * 2 ^ kE := by rw [Int.add_mul, Int.add_mul, t1, t2]
  have hz : ¬ u + v = 0 := fun hz => by
    rw [hz, Int.zero_mul] at tt
    rcases Int.mul_eq_zero.1 tt.symm with h | h
    · exact hxy h
    · exact absurd h (pow_ne _)
  rw [if_neg hz]
  have hw : Ieee.double.nearest (decide (u + v < 0)) (u + v).natAbs base = wN (x + y) := by
    refine write_rep (by omega) ?_ hxy
    rw [signed_eq, ← tt]
    by_cases hneg : u + v < 0
    · rw [decide_eq_true hneg, if_pos rfl, ← Int.mul_assoc]
      congr 1
      omega
    · rw [decide_eq_false hneg, if_neg (by decide), ← Int.mul_assoc]
      congr 1
      omega
  rw [hw]
theorem cut_down (s : Bool) (n d : Nat) : Ieee.Toward.cut .down s n d = n / 2 ^ d + (s && n % 2 ^ d != 0).toNat := by
  unfold Ieee.Toward.cut
  simp only [Nat.one_shiftLeft]
  rcases Nat.le_total d (n.log2 + 2) with h | h
  · rw [Nat.min_eq_left h]
  · rw [Nat.min_eq_right h]
    have h1 : n < 2 ^ (n.log2 + 1) := Nat.lt_log2_self
    have h2 : 2 ^ (n.log2 + 1) ≤ 2 ^ (n.log2 + 2) := Nat.pow_le_pow_right (by decide) (by omega)
    have h3 : 2 ^ (n.log2 + 2) ≤ 2 ^ d := Nat.pow_le_pow_right (by decide) h
    rw [Nat.div_eq_of_lt (by omega), Nat.div_eq_of_lt (by omega), Nat.mod_eq_of_lt (by omega), Nat.mod_eq_of_lt (by omega)]
theorem floorB_fin {b : Nat} (h : b % 9223372036854775808 < 9218868437227405312) :
    floorB b = Ieee.double.nearest (negB b) (Ieee.Toward.cut .down (negB b) (mR (b % 9223372036854775808) <<< (-1074 + (eR (b % 9223372036854775808) : Nat) : Int).toNat) (-(-1074 + (eR (b % 9223372036854775808) : Nat) : Int)).toNat) 0 := by
  unfold floorB
  rw [if_neg (by unfold nanB; rw [decide_eq_true_eq]; omega)]
  show Ieee.double.write ((Ieee.double.read b).integral .down) = _
  rw [read_fin h]
  rfl
theorem word_self {b : Nat} (hb : b < 18446744073709551616) : (if negB b = true then 9223372036854775808 else 0) + b % 9223372036854775808 = b := by
  unfold negB
  split
  · rename_i h
    have := beq_iff_eq.1 h
    omega
  · rename_i h
    have : ¬ b / 9223372036854775808 % 2 = 1 := fun hh => h (beq_iff_eq.2 hh)
    omega
theorem wordE (s : Bool) (r : Nat) : Ieee.double.word s r = (if s = true then 9223372036854775808 else 0) + r := by
  have hs : Ieee.double.signWeight = 9223372036854775808 := rfl
  unfold Ieee.Format.word
  rw [hs]
  cases s <;> simp
theorem mulB (c f B : Nat) : (c + 1074) * B + (B + f) = B * (c + 1075) + f := by
  have h : (c + 1075) * B = (c + 1074) * B + B := Nat.succ_mul (c + 1074) B
  rw [Nat.mul_comm B, h, Nat.add_assoc]
theorem big_word {r : Nat} (h1 : 1075 ≤ r / 4503599627370496) (h2 : r ≤ 9218868437227405312) : min ((r / 4503599627370496 - 1075 + 1074) * 4503599627370496 + (4503599627370496 + r % 4503599627370496)) 9218868437227405312 = r := by
  have hd := Nat.div_add_mod r 4503599627370496
  generalize r / 4503599627370496 = q at *
  generalize r % 4503599627370496 = f at *
  have e : (q - 1075 + 1074) * 4503599627370496 + (4503599627370496 + f) = r := by
    obtain ⟨c, rfl⟩ : ∃ c, q = c + 1075 := ⟨q - 1075, by omega⟩
    have hc : c + 1075 - 1075 = c := by omega
    rw [hc, ← hd]
    exact mulB c f 4503599627370496
  rw [e]
  exact Nat.min_eq_left h2
theorem floorB_same {b : Nat} (hb : b < 18446744073709551616) (h : 4841369599423283200 ≤ b % 9223372036854775808) : floorB b = b := by
  by_cases hn : nanB b = true
  · unfold floorB
    rw [if_pos hn]
  have hn' : b % 9223372036854775808 ≤ 9218868437227405312 := by
    unfold nanB at hn
    rw [decide_eq_true_eq] at hn
    omega
  by_cases hi : b % 9223372036854775808 = 9218868437227405312
  · unfold floorB
    rw [if_neg hn]
    show Ieee.double.write ((Ieee.double.read b).integral .down) = _
    rw [read_inf hi]
    show Ieee.double.word (negB b) 9218868437227405312 = b
    rw [wordE, ← hi]
    exact word_self hb
  rw [floorB_fin (by omega)]
  have hw := word_self hb
  have hm : mR (b % 9223372036854775808) = 4503599627370496 + b % 9223372036854775808 % 4503599627370496 := if_neg (by omega)
  have he : eR (b % 9223372036854775808) = b % 9223372036854775808 / 4503599627370496 - 1 := if_neg (by omega)
  have h1 : 1075 ≤ b % 9223372036854775808 / 4503599627370496 := by omega
  have e1 : (-1074 + ((b % 9223372036854775808 / 4503599627370496 - 1 : Nat) : Int)).toNat = b % 9223372036854775808 / 4503599627370496 - 1075 := by omega
  have e2 : (-(-1074 + ((b % 9223372036854775808 / 4503599627370496 - 1 : Nat) : Int))).toNat = 0 := by omega
  rw [hm, he, e1, e2, cut_down, Nat.pow_zero, Nat.div_one, Nat.mod_one]
  simp only [bne_self_eq_false, Bool.and_false, Bool.toNat_false, Nat.add_zero]
  rw [near_big _ _ _ (by omega) (by omega), wordE]
  refine Eq.trans (congrArg (fun z => (if negB b = true then 9223372036854775808 else 0) + z) ?_) hw
  generalize b % 9223372036854775808 = r at *
  exact big_word (by omega) (by omega)
theorem floorB_zero {b : Nat} (hb : b < 18446744073709551616) (h : b % 9223372036854775808 = 0) : floorB b = b := by
  have hw := word_self hb
  rw [floorB_fin (by omega), h]
  rw [h] at hw
  have hm : mR 0 = 0 := rfl
  rw [hm, Nat.zero_shiftLeft, cut_down, Nat.zero_div, Nat.zero_mod]
  simp only [bne_self_eq_false, Bool.and_false, Bool.toNat_false, Nat.add_zero]
  have : Ieee.double.nearest (negB b) 0 0 = Ieee.double.word (negB b) 0 := if_pos rfl
  rw [this, wordE]
  exact hw
theorem floorB_low {b : Nat} (hb : b < 18446744073709551616) (h0 : b % 9223372036854775808 ≠ 0) (h : b % 9223372036854775808 < 4607182418800017408) : floorB b = if negB b = true then 13830554455654793216 else 0 := by
  rw [floorB_fin (by omega)]
  generalize b % 9223372036854775808 = r at *
  have hm : mR r ≠ 0 ∧ mR r < 9007199254740992 := by
    unfold mR
    split <;> omega
  have he : eR r ≤ 1021 := by
    unfold eR
    split <;> omega
  have e1 : (-1074 + (eR r : Int)).toNat = 0 := by omega
  rw [e1, Nat.shiftLeft_zero, cut_down]
  have hp : 9007199254740992 ≤ 2 ^ (-(-1074 + (eR r : Int))).toNat := by
    have : 2 ^ 53 ≤ 2 ^ (-(-1074 + (eR r : Int))).toNat := Nat.pow_le_pow_right (by decide) (by omega)
    exact this
  rw [Nat.div_eq_of_lt (by omega), Nat.mod_eq_of_lt (by omega)]
  have hne : (mR r != 0) = true := by rw [bne_iff_ne]; exact hm.1
  rw [hne]
  cases negB b <;> rfl
theorem mid {r k m : Nat} (h1 : 4607182418800017408 ≤ r) (h2 : r < 4841369599423283200) (hk : k = 1075 - r / 4503599627370496) (hm : m = 4503599627370496 + r % 4503599627370496) :
    1 ≤ k ∧ k ≤ 52 ∧ 4503599627370496 ≤ m ∧ m < 9007199254740992 ∧ m % 2 ^ k = r % 2 ^ k ∧ (1074 - k) * 4503599627370496 + m / 2 ^ k * 2 ^ k = r - r % 2 ^ k ∧ r % 2 ^ k ≤ m := by
  have hk1 : 1 ≤ k ∧ k ≤ 52 := by omega
  have hd : 2 ^ k ∣ 4503599627370496 := ⟨2 ^ (52 - k), by rw [← Nat.pow_add, show k + (52 - k) = 52 by omega]⟩
  obtain ⟨c, hc⟩ := hd
  have hr : r = 2 ^ k * (c * (r / 4503599627370496)) + r % 4503599627370496 := by
    rw [← Nat.mul_assoc, ← hc]
    exact (Nat.div_add_mod r 4503599627370496).symm
  have hmm : m % 2 ^ k = r % 2 ^ k := by
    have a1 : m % 2 ^ k = r % 4503599627370496 % 2 ^ k := by rw [hm, hc, Nat.mul_add_mod]
    have a2 : r % 2 ^ k = r % 4503599627370496 % 2 ^ k := by
      conv => lhs; rw [hr]
      rw [Nat.mul_add_mod]
    rw [a1, a2]
  have hdm := Nat.div_add_mod m (2 ^ k)
  have hle := Nat.mod_le m (2 ^ k)
  rw [hmm] at hdm hle
  rw [Nat.mul_comm] at hdm
  refine ⟨hk1.1, hk1.2, by omega, by omega, hmm, ?_, hle⟩
  generalize m / 2 ^ k * 2 ^ k = q at *
  generalize r % 2 ^ k = t at *
  omega
theorem floorB_mid {b k : Nat} (hb : b < 18446744073709551616) (h1 : 4607182418800017408 ≤ b % 9223372036854775808) (h2 : b % 9223372036854775808 < 4841369599423283200) (hk : k = 1075 - b % 9223372036854775808 / 4503599627370496) :
    (b % 9223372036854775808 % 2 ^ k = 0 → floorB b = b) ∧ (b % 9223372036854775808 % 2 ^ k ≠ 0 → negB b = false → floorB b = b - b % 9223372036854775808 % 2 ^ k)
    ∧ (b % 9223372036854775808 % 2 ^ k ≠ 0 → negB b = true → FloatKind.f64.format.sub (b - b % 9223372036854775808 % 2 ^ k) 4607182418800017408 = some (floorB b)) := by
  have hf := floorB_fin (b := b) (by omega)
  have hw := word_self hb
  have hm : mR (b % 9223372036854775808) = 4503599627370496 + b % 9223372036854775808 % 4503599627370496 := if_neg (by omega)
  have he : eR (b % 9223372036854775808) = b % 9223372036854775808 / 4503599627370496 - 1 := if_neg (by omega)
  generalize hr : b % 9223372036854775808 = r at *
  obtain ⟨k1, k2, m1, m2, m3, m4, m5⟩ := mid h1 h2 hk hm
  have hq : r / 4503599627370496 ≤ 1074 ∧ 1023 ≤ r / 4503599627370496 := by omega
  have e1 : (-1074 + ((r / 4503599627370496 - 1 : Nat) : Int)).toNat = 0 := by omega
  have e2 : (-(-1074 + ((r / 4503599627370496 - 1 : Nat) : Int))).toNat = k := by omega
  rw [he, e1, e2, Nat.shiftLeft_zero, cut_down, m3] at hf
  generalize mR r = m at *
  have hsm := near_small (negB b) m k m1 m2 k2
  rw [m4, wordE] at hsm
  have hmin : min (r - r % 2 ^ k) 9218868437227405312 = r - r % 2 ^ k := Nat.min_eq_left (by omega)
  rw [hmin] at hsm
  refine ⟨fun h => ?_, fun h hs => ?_, fun h hs => ?_⟩
  · rw [h] at hf hsm
    simp only [bne_self_eq_false, Bool.and_false, Bool.toNat_false, Nat.add_zero] at hf
    rw [hf, hsm, Nat.sub_zero]
    exact hw
  · rw [hs] at hf hsm hw
    simp only [Bool.false_and, Bool.toNat_false, Nat.add_zero] at hf
    rw [hf, hsm]
    simp at hw ⊢
    omega
  · rw [hs] at hf hsm hw
    have hne : (r % 2 ^ k != 0) = true := by rw [bne_iff_ne]; exact h
    rw [hne] at hf
    have hn1 : 1 ≤ m / 2 ^ k := by
      rw [Nat.le_div_iff_mul_le (Nat.pow_pos (by decide)), Nat.one_mul]
      have : 2 ^ k ≤ 2 ^ 52 := Nat.pow_le_pow_right (by decide) k2
      exact Nat.le_trans this m1
    have hn2 : m / 2 ^ k ≤ m := Nat.div_le_self ..
    have hy : b - r % 2 ^ k = wN (-((m / 2 ^ k : Nat) : Int)) := by
      rw [wN_eq, decide_eq_true (by omega), Int.natAbs_neg, Int.natAbs_natCast, hsm]
      simp at hw ⊢
      omega
    have r1 : Rep (b - r % 2 ^ k) (-((m / 2 ^ k : Nat) : Int)) := by
      rw [hy]
      exact rep_small (by omega) (by omega)
    have r2 : Rep 13830554455654793216 (-1) := by
      have : (13830554455654793216 : Nat) = wN (-1) := by decide
      rw [this]
      exact rep_small (by decide) (by decide)
    have hs1 : FloatKind.f64.format.sub (b - r % 2 ^ k) 4607182418800017408 = FloatKind.f64.format.add (b - r % 2 ^ k) 13830554455654793216 := by
      show ((Ieee.double.read _).sum (Ieee.double.read 4607182418800017408).opposite).map Ieee.double.write = ((Ieee.double.read _).sum (Ieee.double.read 13830554455654793216)).map Ieee.double.write
      rw [show (Ieee.double.read 4607182418800017408).opposite = Ieee.double.read 13830554455654793216 by decide]
    generalize m / 2 ^ k = q at *
    rw [hs1, add_word r1 r2 (by omega), hf, wN_eq, decide_eq_true (by omega)]
    have hq : (-(q : Int) + -1).natAbs = q + (true && true).toNat := by show _ = q + 1; omega
    rw [hq]
end Go.Proofs.Ytdjpcmlnhkiokaa.A
