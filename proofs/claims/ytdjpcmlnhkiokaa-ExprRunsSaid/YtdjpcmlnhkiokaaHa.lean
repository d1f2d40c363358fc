/- Whole numbers as floats: what stands for them, sums and products. No condition. -/
import Derived.Test.YtdjpcmlnhkiokaaNr
namespace Go.Proofs.Ytdjpcmlnhkiokaa.A
open Go
set_option linter.unusedVariables false
set_option maxRecDepth 100000
set_option pp.maxSteps 1500

/-- How far below one the last place is: a word that nothing unfolds by itself. -/
noncomputable def kE : Nat := Classical.choose (⟨1074, rfl⟩ : ∃ k : Nat, k = 1074)
theorem kE_eq : kE = 1074 := Classical.choose_spec (⟨1074, rfl⟩ : ∃ k : Nat, k = 1074)
theorem log2_shift {m : Nat} (k : Nat) (hm : m ≠ 0) : (m * 2 ^ k).log2 = m.log2 + k := by
  have hp : 0 < 2 ^ k := Nat.pow_pos (by decide)
  have h0 : m * 2 ^ k ≠ 0 := Nat.ne_of_gt (Nat.mul_pos (Nat.pos_of_ne_zero hm) hp)
  rw [Nat.log2_eq_iff h0]
  have h1 := Nat.log2_self_le hm
  have h2 : m < 2 ^ (m.log2 + 1) := Nat.lt_log2_self
  constructor
  · rw [Nat.pow_add]; exact Nat.mul_le_mul_right _ h1
  · rw [show m.log2 + k + 1 = m.log2 + 1 + k by omega, Nat.pow_add]; exact Nat.mul_lt_mul_of_pos_right h2 hp
theorem cut_scale (s : Bool) (n d k : Nat) (hn : n ≠ 0) : Ieee.Toward.cut .even s (n * 2 ^ k) (d + k) = Ieee.Toward.cut .even s n d := by
  have hp : 0 < 2 ^ k := Nat.pow_pos (by decide)
  unfold Ieee.Toward.cut
  have e1 : min (d + k) ((n * 2 ^ k).log2 + 2) = min d (n.log2 + 2) + k := by rw [log2_shift k hn]; omega
  simp only [e1, Nat.one_shiftLeft, Nat.pow_add]
  generalize 2 ^ min d (n.log2 + 2) = g
  rw [Nat.mul_div_mul_right _ _ hp, Nat.mul_mod_mul_right]
  have e2 : (g * 2 ^ k < 2 * (n % g * 2 ^ k)) ↔ g < 2 * (n % g) := by
    rw [← Nat.mul_assoc]
    exact Nat.mul_lt_mul_right hp
  have e3 : (g * 2 ^ k == 2 * (n % g * 2 ^ k)) = (g == 2 * (n % g)) := by
    rw [← Nat.mul_assoc, Bool.eq_iff_iff, beq_iff_eq, beq_iff_eq]
    exact Nat.mul_right_cancel_iff hp
  rw [e3]
  congr 2
  congr 1
  exact decide_eq_decide.2 e2
/-- What a number is nearest to hangs on its value alone. -/
theorem near_shift (s : Bool) (m k : Nat) (p : Int) (hm : m ≠ 0) : Ieee.double.nearest s (m * 2 ^ k) p = Ieee.double.nearest s m (p + k) := by
  have hp : 0 < 2 ^ k := Nat.pow_pos (by decide)
  have h0 : m * 2 ^ k ≠ 0 := Nat.ne_of_gt (Nat.mul_pos (Nat.pos_of_ne_zero hm) hp)
  unfold Ieee.Format.nearest
  rw [if_neg h0, if_neg hm]
  have hf : (Ieee.double.fractionBits : Int) = 52 := rfl
  have hlp : Ieee.double.leastPlace = -1074 := rfl
  simp only [hf, hlp, log2_shift k hm]
  have e1 : max (p + ((m.log2 + k : Nat) : Int) - 52) (-1074) = max (p + (k : Int) + (m.log2 : Nat) - 52) (-1074) := by
    congr 1
    omega
  rw [e1]
  generalize hl : max (p + (k : Int) + (m.log2 : Nat) - 52) (-1074) = last
  congr 2
  congr 1
  by_cases h1 : p < last
  · by_cases h2 : p + k < last
    · have d1 : (p - last).toNat = 0 := by omega
      have d2 : (p + k - last).toNat = 0 := by omega
      have d3 : (last - p).toNat = (last - (p + k)).toNat + k := by omega
      rw [d1, d2, d3, Nat.shiftLeft_zero, Nat.shiftLeft_zero, cut_scale s m _ k hm]
    · have d1 : (p - last).toNat = 0 := by omega
      have d2 : (p + k - last).toNat = k - (last - p).toNat := by omega
      have d3 : (last - (p + k)).toNat = 0 := by omega
      have hd : (last - p).toNat ≤ k := by omega
      rw [d1, d2, d3, Nat.shiftLeft_zero, Nat.shiftLeft_eq]
      generalize (last - p).toNat = d at *
      have hs : 2 ^ k = 2 ^ (k - d) * 2 ^ d := by rw [← Nat.pow_add, Nat.sub_add_cancel hd]
      have hlog : (m * 2 ^ k).log2 = m.log2 + k := log2_shift k hm
      rw [cut_even s _ d (by omega) (by rw [hs, ← Nat.mul_assoc]; exact Nat.mul_mod_left _ _), cut_even s _ 0 (Nat.zero_le _) (Nat.mod_one _), Nat.pow_zero, Nat.div_one, hs, ← Nat.mul_assoc, Nat.mul_div_cancel _ (Nat.pow_pos (by decide))]
  · have d1 : (p + k - last).toNat = (p - last).toNat + k := by omega
    have d2 : (last - p).toNat = 0 := by omega
    have d3 : (last - (p + k)).toNat = 0 := by omega
    rw [d1, d2, d3, Nat.shiftLeft_eq, Nat.shiftLeft_eq, Nat.mul_assoc, ← Nat.pow_add, Nat.add_comm k]
/-- Two numbers of one value have one word. -/
theorem near_same (s : Bool) {m n : Nat} {i j : Int} (hi : -2148 ≤ i) (hj : -2148 ≤ j) (hm : m ≠ 0) (h : m * 2 ^ (i + 2148).toNat = n * 2 ^ (j + 2148).toNat) : Ieee.double.nearest s m i = Ieee.double.nearest s n j := by
  have hn : n ≠ 0 := fun hz => by
    rw [hz, Nat.zero_mul] at h
    rcases Nat.mul_eq_zero.1 h with h | h
    · exact hm h
    · have : 0 < 2 ^ (i + 2148).toNat := Nat.pow_pos (by decide)
      omega
  have h1 := near_shift s m (i + 2148).toNat (-2148) hm
  have h2 := near_shift s n (j + 2148).toNat (-2148) hn
  rw [show (-2148 : Int) + ((i + 2148).toNat : Nat) = i by omega] at h1
  rw [show (-2148 : Int) + ((j + 2148).toNat : Nat) = j by omega] at h2
  rw [← h1, ← h2, h]
/-- The word of a whole number. -/
def wN (n : Int) : Nat := FloatKind.f64.nearest n
theorem wN_eq (n : Int) : wN n = Ieee.double.nearest (decide (n < 0)) n.natAbs 0 := rfl
theorem cut_sign (x d : Nat) : Ieee.Toward.cut .even true x d = Ieee.Toward.cut .even false x d := rfl
theorem near_neg (m : Nat) (p : Int) : Ieee.double.nearest true m p = 9223372036854775808 + Ieee.double.nearest false m p := by
  unfold Ieee.Format.nearest
  by_cases h : m = 0
  · rw [if_pos h, if_pos h, word_eq, word_eq]
    rfl
  · rw [if_neg h, if_neg h, word_eq, word_eq, cut_sign, if_pos rfl, if_neg (by decide), Nat.zero_add]
/-- A word stands for a whole number. -/
def Rep (b : Nat) (n : Int) : Prop := ∃ s m i, Ieee.double.read b = .number s m i ∧ -1074 ≤ i ∧ Ieee.signed s m (i + 1074).toNat = n * 2 ^ kE
theorem signed_eq (s : Bool) (m k : Nat) : Ieee.signed s m k = (if s = true then -1 else 1) * ((m : Int) * 2 ^ k) := by
  unfold Ieee.signed
  rw [Nat.shiftLeft_eq]
  cases s <;> simp
theorem sgn_mul (s : Bool) (m a b : Nat) : Ieee.signed s m a * 2 ^ b = Ieee.signed s m (a + b) := by
  rw [signed_eq, signed_eq, Int.pow_add]
  rw [Int.mul_assoc, Int.mul_assoc]
theorem pow_ne (k : Nat) : (2 : Int) ^ k ≠ 0 := by
  have : (0 : Int) < 2 ^ k := Int.pow_pos (by decide)
  omega
/-- The word of what stands for a whole number that is not nought. -/
theorem write_rep {s : Bool} {m : Nat} {i : Int} {n : Int} (hi : -1074 ≤ i) (h : Ieee.signed s m (i + 1074).toNat = n * 2 ^ kE) (hn : n ≠ 0) : Ieee.double.nearest s m i = wN n := by
  rw [signed_eq] at h
  have hp : (0 : Int) < 2 ^ (i + 1074).toNat := Int.pow_pos (by decide)
  have hq : (0 : Int) < 2 ^ kE := Int.pow_pos (by decide)
  have habs : m * 2 ^ (i + 1074).toNat = n.natAbs * 2 ^ kE := by
    have := congrArg Int.natAbs h
    rw [Int.natAbs_mul, Int.natAbs_mul, Int.natAbs_mul, Int.natAbs_pow, Int.natAbs_pow] at this
    have e1 : (if s = true then (-1 : Int) else 1).natAbs = 1 := by cases s <;> rfl
    rw [e1, Nat.one_mul] at this
    simpa using this
  have hm : m ≠ 0 := fun hz => by
    rw [hz, Nat.zero_mul] at habs
    rcases Nat.mul_eq_zero.1 habs.symm with h | h
    · omega
    · have : 0 < 2 ^ kE := Nat.pow_pos (by decide)
      omega
  have hsg : s = decide (n < 0) := by
    have hmp : (0 : Int) < (m : Int) * 2 ^ (i + 1074).toNat := Int.mul_pos (by omega) hp
    cases s
    · rw [if_neg (by decide), Int.one_mul] at h
      have : ¬ n < 0 := fun hlt => by
        have := Int.mul_neg_of_neg_of_pos hlt hq
        omega
      exact (decide_eq_false this).symm
    · rw [if_pos rfl] at h
      have : n < 0 := by
        by_cases h1 : n < 0
        · exact h1
        · have := Int.mul_nonneg (show 0 ≤ n by omega) (Int.le_of_lt hq)
          omega
      exact (decide_eq_true this).symm
  rw [wN_eq, ← hsg]
  refine near_same s (by omega) (by omega) hm ?_
  have e1 : (i + 2148).toNat = (i + 1074).toNat + kE := by rw [kE_eq]; omega
  have e2 : ((0 : Int) + 2148).toNat = kE + kE := by rw [kE_eq]; rfl
  rw [e1, e2, Nat.pow_add, Nat.pow_add, ← Nat.mul_assoc, ← Nat.mul_assoc, habs]
theorem rep_zero : Rep 0 0 := ⟨false, 0, -1074, rfl, by decide, by rw [signed_eq]; simp⟩
theorem rep_nzero : Rep 9223372036854775808 0 := ⟨true, 0, -1074, rfl, by decide, by rw [signed_eq]; simp⟩
/-- A word with a leading one, read. -/
theorem read_word (s : Bool) {e m : Nat} (h1 : 4503599627370496 ≤ m) (h2 : m < 9007199254740992) (he : e ≤ 2044) : Ieee.double.read (Ieee.double.word s (min (e * 4503599627370496 + m) 9218868437227405312)) = .number s m (-1074 + (e : Int)) := by
  have hmin : min (e * 4503599627370496 + m) 9218868437227405312 = e * 4503599627370496 + m := Nat.min_eq_left (by omega)
  rw [hmin, word_eq]
  have hmod : ((if s = true then 9223372036854775808 else 0) + (e * 4503599627370496 + m)) % 9223372036854775808 = e * 4503599627370496 + m := by cases s <;> simp <;> omega
  have hneg : negB ((if s = true then 9223372036854775808 else 0) + (e * 4503599627370496 + m)) = s := by
    unfold negB
    cases s
    · simp; omega
    · simp; omega
  rw [read_fin (by rw [hmod]; omega), hmod, hneg]
  have hm : mR (e * 4503599627370496 + m) = m := by unfold mR; rw [if_neg (by omega)]; omega
  have hee : eR (e * 4503599627370496 + m) = e := by unfold eR; rw [if_neg (by omega)]; omega
  rw [hm, hee]
  rfl
theorem rep_of {s : Bool} {b e m : Nat} {n : Int} (hb : b = Ieee.double.word s (min (e * 4503599627370496 + m) 9218868437227405312)) (h1 : 4503599627370496 ≤ m) (h2 : m < 9007199254740992) (he : e ≤ 2044) (hs : s = decide (n < 0)) (hv : m * 2 ^ e = n.natAbs * 2 ^ kE) : Rep b n := by
  refine ⟨s, m, -1074 + (e : Int), by rw [hb]; exact read_word s h1 h2 he, by omega, ?_⟩
  rw [signed_eq, show (-1074 + (e : Int) + 1074).toNat = e by omega]
  have hv' : ((m : Int) * 2 ^ e) = (n.natAbs : Int) * 2 ^ kE := by
    have := congrArg (fun z : Nat => (z : Int)) hv
    simpa using this
  rw [hv', ← Int.mul_assoc]
  congr 1
  rw [hs]
  by_cases hn : n < 0
  · rw [decide_eq_true hn, if_pos rfl]; omega
  · rw [decide_eq_false hn, if_neg (by decide)]; omega
/-- A whole number with its leading one at place 52. -/
theorem norm52 {n : Nat} (h0 : n ≠ 0) (h : n < 9007199254740992) : ∃ k, k ≤ 52 ∧ 4503599627370496 ≤ n * 2 ^ k ∧ n * 2 ^ k < 9007199254740992 := by
  have h1 := Nat.log2_self_le h0
  have h2 : n < 2 ^ (n.log2 + 1) := Nat.lt_log2_self
  have hl : n.log2 ≤ 52 := by
    have : n.log2 < 53 := (Nat.log2_lt h0).2 h
    omega
  refine ⟨52 - n.log2, by omega, ?_, ?_⟩
  · have : 2 ^ n.log2 * 2 ^ (52 - n.log2) = 4503599627370496 := by rw [← Nat.pow_add, Nat.add_sub_cancel' hl]
    rw [← this]
    exact Nat.mul_le_mul_right _ h1
  · have : 2 ^ (n.log2 + 1) * 2 ^ (52 - n.log2) = 9007199254740992 := by rw [← Nat.pow_add, show n.log2 + 1 + (52 - n.log2) = 53 by omega]
    rw [← this]
    exact Nat.mul_lt_mul_of_pos_right h2 (Nat.pow_pos (by decide))
theorem rep_small {n : Int} (h0 : n ≠ 0) (h : n.natAbs ≤ 9007199254740992) : Rep (wN n) n := by
  rw [wN_eq]
  by_cases hlt : n.natAbs < 9007199254740992
  · obtain ⟨k, hk, h1, h2⟩ := norm52 (by omega) hlt
    have hp : 0 < 2 ^ k := Nat.pow_pos (by decide)
    have hn := near_small (decide (n < 0)) (n.natAbs * 2 ^ k) k h1 h2 hk
    rw [Nat.mul_div_cancel _ hp] at hn
    refine rep_of hn h1 h2 (by omega) rfl ?_
    rw [Nat.mul_assoc, ← Nat.pow_add, show k + (1074 - k) = kE by rw [kE_eq]; omega]
  · have he : n.natAbs = 4503599627370496 <<< 1 := by
      rw [Nat.shiftLeft_eq]
      omega
    have hn := near_big (decide (n < 0)) 4503599627370496 1 (by omega) (by omega)
    rw [← he] at hn
    refine rep_of hn (by omega) (by omega) (by omega) rfl ?_
    rw [he, Nat.shiftLeft_eq, Nat.mul_assoc, ← Nat.pow_add, kE_eq]
theorem add_rep {a b : Nat} {x y : Int} (ha : Rep a x) (hb : Rep b y) (hs : (x + y).natAbs ≤ 9007199254740992) : ∃ c, FloatKind.f64.format.add a b = some c ∧ Rep c (x + y) := by
  obtain ⟨s, m, i, e1, h1, v1⟩ := ha
  obtain ⟨t, n, j, e2, h2, v2⟩ := hb
  have hadd : FloatKind.f64.format.add a b = ((Ieee.double.read a).sum (Ieee.double.read b)).map Ieee.double.write := rfl
  rw [hadd, e1, e2]
  simp only [Ieee.Datum.sum, Option.map_some, Ieee.Format.write]
  generalize hb : min i j = base
  have t1 : Ieee.signed s m (i - base).toNat * 2 ^ (base + 1074).toNat = x * 2 ^ kE := by
    rw [sgn_mul, ← v1]
    congr 1
    omega
  have t2 : Ieee.signed t n (j - base).toNat * 2 ^ (base + 1074).toNat = y * 2 ^ kE := by
    rw [sgn_mul, ← v2]
    congr 1
    omega
  generalize Ieee.signed s m (i - base).toNat = u at *
  generalize Ieee.signed t n (j - base).toNat = v at *
  have tt : (u + v) * 2 ^ (base + 1074).toNat = (x + y) * 2 ^ kE := by rw [Int.add_mul, Int.add_mul, t1, t2]
  by_cases hz : u + v = 0
  · have hxy : x + y = 0 := by
      rw [hz, Int.zero_mul] at tt
      rcases Int.mul_eq_zero.1 tt.symm with h | h
      · exact h
      · exact absurd h (pow_ne _)
    rw [if_pos hz, hz, hxy]
    refine ⟨_, rfl, ?_⟩
    cases s && t
    · exact rep_zero
    · exact rep_nzero
  · have hxy : x + y ≠ 0 := fun hh => by
      rw [hh, Int.zero_mul] at tt
      rcases Int.mul_eq_zero.1 tt with h | h
      · exact hz h
      · exact absurd h (pow_ne _)
    rw [if_neg hz]
    have hw : Ieee.double.nearest (decide (u + v < 0)) (u + v).natAbs base = wN (x + y) := by
      refine write_rep (by omega) ?_ hxy
      rw [signed_eq, ← tt]
      by_cases hneg : u + v < 0
      · rw [decide_eq_true hneg, if_pos rfl, ← Int.mul_assoc]
        congr 1
        omega
      · rw [decide_eq_false hneg, if_neg (by decide), ← Int.mul_assoc]
        congr 1
        omega
    exact ⟨_, rfl, by rw [hw]; exact rep_small hxy hs⟩
theorem order_rep {a b : Nat} {x : Int} (ha : Rep a x) (hb : Rep b x) : FloatKind.f64.format.order a b = some .eq := by
  obtain ⟨s, m, i, e1, h1, v1⟩ := ha
  obtain ⟨t, n, j, e2, h2, v2⟩ := hb
  have hord : FloatKind.f64.format.order a b = (Ieee.double.read a).order (Ieee.double.read b) := rfl
  rw [hord, e1, e2]
  simp only [Ieee.Datum.order]
  generalize hb : min i j = base
  have t1 : Ieee.signed s m (i - base).toNat * 2 ^ (base + 1074).toNat = x * 2 ^ kE := by
    rw [sgn_mul, ← v1]
    congr 1
    omega
  have t2 : Ieee.signed t n (j - base).toNat * 2 ^ (base + 1074).toNat = x * 2 ^ kE := by
    rw [sgn_mul, ← v2]
    congr 1
    omega
  have : Ieee.signed s m (i - base).toNat = Ieee.signed t n (j - base).toNat := Int.eq_of_mul_eq_mul_right (pow_ne _) (t1.trans t2.symm)
  rw [this]
  simp
theorem rep_pos {b : Nat} {x : Int} (h : Rep b x) (hx : 0 < x) : ∃ m i, Ieee.double.read b = .number false m i ∧ -1074 ≤ i ∧ m * 2 ^ (i + 1074).toNat = x.toNat * 2 ^ kE := by
  obtain ⟨s, m, i, e1, h1, v1⟩ := h
  rw [signed_eq] at v1
  have hp : (0 : Int) < 2 ^ (i + 1074).toNat := Int.pow_pos (by decide)
  have hq : (0 : Int) < 2 ^ kE := Int.pow_pos (by decide)
  have hxq := Int.mul_pos hx hq
  have hmp : (0 : Int) ≤ (m : Int) * 2 ^ (i + 1074).toNat := Int.mul_nonneg (by omega) (Int.le_of_lt hp)
  cases s
  · refine ⟨m, i, e1, h1, ?_⟩
    rw [if_neg (by decide), Int.one_mul] at v1
    have := congrArg Int.toNat v1
    rw [Int.toNat_mul (by omega) (Int.le_of_lt hp), Int.toNat_mul (by omega) (Int.le_of_lt hq), Int.toNat_pow_of_nonneg (by decide), Int.toNat_pow_of_nonneg (by decide)] at this
    exact this
  · rw [if_pos rfl] at v1
    omega
theorem mul_rep {a b : Nat} {x y : Int} (ha : Rep a x) (hb : Rep b y) (hx : 0 < x) (hy : 0 < y) : FloatKind.f64.format.mul a b = some (wN (x * y)) := by
  obtain ⟨m, i, e1, h1, v1⟩ := rep_pos ha hx
  obtain ⟨n, j, e2, h2, v2⟩ := rep_pos hb hy
  have hmul : FloatKind.f64.format.mul a b = ((Ieee.double.read a).product (Ieee.double.read b)).map Ieee.double.write := rfl
  have hxy := Int.mul_pos hx hy
  rw [hmul, e1, e2, wN_eq, decide_eq_false (show ¬ x * y < 0 by omega)]
  simp only [Ieee.Datum.product, Option.map_some, Ieee.Format.write, Bool.xor_self]
  have hq : 0 < 2 ^ kE := Nat.pow_pos (by decide)
  have hm : m ≠ 0 := fun hz => by
    rw [hz, Nat.zero_mul] at v1
    have := Nat.mul_pos (show 0 < x.toNat by omega) hq
    omega
  have hn : n ≠ 0 := fun hz => by
    rw [hz, Nat.zero_mul] at v2
    have := Nat.mul_pos (show 0 < y.toNat by omega) hq
    omega
  have hmn : m * n ≠ 0 := Nat.mul_ne_zero hm hn
  refine congrArg some (near_same false (by omega) (by omega) hmn ?_)
  have e3 : (i + j + 2148).toNat = (i + 1074).toNat + (j + 1074).toNat := by omega
  have e4 : ((0 : Int) + 2148).toNat = kE + kE := by rw [kE_eq]; rfl
  have e5 : (x * y).natAbs = x.toNat * y.toNat := by rw [Int.natAbs_mul]; congr 1 <;> omega
  rw [e3, e4, e5, Nat.pow_add, Nat.pow_add, Nat.mul_mul_mul_comm, v1, v2, Nat.mul_mul_mul_comm]
/-- The word of so many units, each a power of two. -/
theorem wN_units {m j : Nat} (h1 : 4503599627370496 ≤ m) (h2 : m ≤ 9007199254740992) (hj : j ≤ 100) : wN ((m : Int) * ((2 ^ j : Nat) : Int)) = (j + 1074) * 4503599627370496 + m := by
  have hp : 0 < 2 ^ j := Nat.pow_pos (by decide)
  have hab : ((m : Int) * ((2 ^ j : Nat) : Int)).natAbs = m * 2 ^ j := by rw [Int.natAbs_mul]; rfl
  have hnn : ¬ (m : Int) * ((2 ^ j : Nat) : Int) < 0 := by
    have := Int.mul_nonneg (show (0 : Int) ≤ m by omega) (show (0 : Int) ≤ ((2 ^ j : Nat) : Int) by omega)
    omega
  rw [wN_eq, hab, decide_eq_false hnn]
  by_cases hm : m < 9007199254740992
  · rw [← Nat.shiftLeft_eq, near_big false m j h1 hm, word_eq, if_neg (by decide), Nat.zero_add, Nat.min_eq_left (by omega)]
  · have hmm : m * 2 ^ j = 4503599627370496 <<< (j + 1) := by
      rw [Nat.shiftLeft_eq, Nat.pow_succ]
      have : m = 9007199254740992 := by omega
      rw [this]
      generalize 2 ^ j = z
      omega
    rw [hmm, near_big false 4503599627370496 (j + 1) (by omega) (by omega), word_eq, if_neg (by decide), Nat.zero_add, Nat.min_eq_left (by omega)]
    omega
theorem wN_log {n s : Nat} (hs : 1 ≤ s) (hs2 : s ≤ 100) (h1 : 2 ^ (52 + s) ≤ n) (h2 : n < 2 ^ (53 + s)) : wN (n : Int) = (s + 1074) * 4503599627370496 + Ieee.Toward.cut .even false n s := by
  have h0 : n ≠ 0 := by
    have : 0 < 2 ^ (52 + s) := Nat.pow_pos (by decide)
    omega
  have hl : n.log2 = 52 + s := by
    rw [Nat.log2_eq_iff h0]
    exact ⟨h1, by rw [show 52 + s + 1 = 53 + s by omega]; exact h2⟩
  rw [wN_eq, decide_eq_false (show ¬ (n : Int) < 0 by omega), Int.natAbs_natCast]
  unfold Ieee.Format.nearest
  rw [if_neg h0]
  have hf : (Ieee.double.fractionBits : Int) = 52 := rfl
  have hlp : Ieee.double.leastPlace = -1074 := rfl
  have hb : Ieee.double.binade = 4503599627370496 := rfl
  have hi : Ieee.double.infRung = 9218868437227405312 := rfl
  simp only [hl, hf, hlp, hb, hi]
  have e1 : max (0 + ((52 + s : Nat) : Int) - 52) (-1074) = (s : Int) := by omega
  rw [e1]
  have e2 : (0 - (s : Int)).toNat = 0 := by omega
  have e3 : ((s : Int) - 0).toNat = s := by omega
  have e4 : ((s : Int) - -1074).toNat = s + 1074 := by omega
  rw [e2, e3, e4, Nat.shiftLeft_zero, word_eq, if_neg (by decide), Nat.zero_add]
  refine Nat.min_eq_left ?_
  have hcut : Ieee.Toward.cut .even false n s ≤ 9007199254740992 := by
    unfold Ieee.Toward.cut
    rw [hl, Nat.min_eq_left (show s ≤ 52 + s + 2 by omega)]
    simp only [Nat.one_shiftLeft]
    have : n / 2 ^ s < 9007199254740992 := by
      rw [Nat.div_lt_iff_lt_mul (Nat.pow_pos (by decide))]
      rw [Nat.pow_add] at h2
      exact h2
    have hb : ∀ b : Bool, b.toNat ≤ 1 := fun b => by cases b <;> decide
    have := hb (decide (2 ^ s < 2 * (n % 2 ^ s)) || (2 ^ s == 2 * (n % 2 ^ s)) && (n / 2 ^ s % 2 == 1))
    omega
  omega
/-- What Up does behind its loop. -/
def upM (n sc : Nat) : Nat := if sc < 2 * (n % sc) ∨ (2 * (n % sc) = sc ∧ n / sc % 2 = 1 ∧ 1 < sc) then n / sc + 1 else n / sc
theorem up_word {n j : Nat} (hn : 1 ≤ n) (hj : j ≤ 60) (h1 : n / 2 ^ j ≤ 9007199254740992) (h2 : j = 0 ∨ 9007199254740992 < n / 2 ^ (j - 1)) : FloatKind.f64.format.mul (wN (upM n (2 ^ j) : Nat)) (wN ((2 ^ j : Nat) : Int)) = some (wN (n : Int)) := by
  have hp : 0 < 2 ^ j := Nat.pow_pos (by decide)
  have r2 : Rep (wN ((2 ^ j : Nat) : Int)) ((2 ^ j : Nat) : Int) := by
    by_cases hj53 : j ≤ 53
    · refine rep_small (by omega) ?_
      rw [Int.natAbs_natCast]
      have : 2 ^ j ≤ 2 ^ 53 := Nat.pow_le_pow_right (by decide) hj53
      omega
    · have hn2 := near_big false 4503599627370496 (j - 52) (by omega) (by omega)
      have hpj : 2 ^ j = 4503599627370496 <<< (j - 52) := by
        rw [Nat.shiftLeft_eq, show (4503599627370496 : Nat) = 2 ^ 52 from rfl, ← Nat.pow_add, Nat.add_sub_cancel' (by omega)]
      refine rep_of (s := false) (e := j - 52 + 1074) (m := 4503599627370496) ?_ (by omega) (by omega) (by omega) (decide_eq_false (by omega)).symm ?_
      · rw [wN_eq, decide_eq_false (by omega), Int.natAbs_natCast, hpj]
        exact hn2
      · rw [Int.natAbs_natCast, Nat.pow_add, ← Nat.mul_assoc, hpj, Nat.shiftLeft_eq, kE_eq]
  by_cases hj0 : j = 0
  · subst hj0
    have hu : upM n (2 ^ 0) = n := by
      unfold upM
      rw [Nat.pow_zero, Nat.mod_one, Nat.div_one, if_neg (by omega)]
    rw [hu]
    rw [Nat.pow_zero, Nat.div_one] at h1
    have := mul_rep (rep_small (n := (n : Int)) (by omega) (by omega)) r2 (by omega) (by omega)
    rw [this]
    simp
  · have hlow : 9007199254740992 < n / 2 ^ (j - 1) := h2.resolve_left hj0
    have hpj : 2 ^ j = 2 ^ (j - 1) * 2 := by rw [← Nat.pow_succ]; congr 1; omega
    have hq : 0 < 2 ^ (j - 1) := Nat.pow_pos (by decide)
    have hge : 4503599627370496 ≤ n / 2 ^ j := by
      rw [hpj, ← Nat.div_div_eq_div_mul]
      omega
    have hdm := Nat.div_add_mod n (2 ^ j)
    have hrl := Nat.mod_lt n hp
    by_cases hm : n / 2 ^ j < 9007199254740992
    · have hl1 : 2 ^ (52 + j) ≤ n := by
        rw [Nat.pow_add, show (2 ^ 52 : Nat) = 4503599627370496 from rfl]
        exact (Nat.le_div_iff_mul_le hp).1 hge
      have hl2 : n < 2 ^ (53 + j) := by
        rw [Nat.pow_add, show (2 ^ 53 : Nat) = 9007199254740992 from rfl]
        exact (Nat.div_lt_iff_lt_mul hp).1 hm
      have hw := wN_log (by omega) (by omega) hl1 hl2
      have hcut : Ieee.Toward.cut .even false n j = upM n (2 ^ j) := by
        unfold Ieee.Toward.cut upM
        have hlog : j ≤ n.log2 + 2 := by
          have := (Nat.le_log2 (show n ≠ 0 by omega)).2 hl1
          omega
        rw [Nat.min_eq_left hlog]
        simp only [Nat.one_shiftLeft]
        have h1j : 1 < 2 ^ j := by
          have : 2 ^ 1 ≤ 2 ^ j := Nat.pow_le_pow_right (by decide) (by omega)
          omega
        by_cases c1 : 2 ^ j < 2 * (n % 2 ^ j)
        · rw [if_pos (.inl c1), decide_eq_true c1]
          rfl
        · rw [decide_eq_false c1]
          by_cases c2 : 2 ^ j = 2 * (n % 2 ^ j)
          · rw [beq_iff_eq.2 c2]
            by_cases c3 : n / 2 ^ j % 2 = 1
            · rw [if_pos (.inr ⟨c2.symm, c3, h1j⟩), c3]
              rfl
            · rw [if_neg (by omega), beq_eq_false_iff_ne.2 c3]
              rfl
          · rw [if_neg (by omega), beq_eq_false_iff_ne.2 c2]
            rfl
      have hu1 : n / 2 ^ j ≤ upM n (2 ^ j) ∧ upM n (2 ^ j) ≤ n / 2 ^ j + 1 := by
        unfold upM
        split <;> omega
      rw [hw, hcut, ← wN_units (by omega) (by omega) (by omega)]
      exact mul_rep (rep_small (by omega) (by omega)) r2 (by omega) (by omega)
    · have hme : n / 2 ^ j = 9007199254740992 := by omega
      have hl1 : 2 ^ (52 + (j + 1)) ≤ n := by
        rw [show 52 + (j + 1) = 53 + j by omega, Nat.pow_add, show (2 ^ 53 : Nat) = 9007199254740992 from rfl]
        exact (Nat.le_div_iff_mul_le hp).1 (by omega)
      have hl2 : n < 2 ^ (53 + (j + 1)) := by
        rw [show 53 + (j + 1) = 54 + j by omega, Nat.pow_add, show (2 ^ 54 : Nat) = 18014398509481984 from rfl]
        exact (Nat.div_lt_iff_lt_mul hp).1 (by omega)
      have hw := wN_log (by omega) (by omega) hl1 hl2
      have hdiv : n / 2 ^ (j + 1) = 4503599627370496 := by
        rw [Nat.pow_succ, ← Nat.div_div_eq_div_mul, hme]
      have hmod : n % 2 ^ (j + 1) < 2 ^ j := by
        have h3 := Nat.div_add_mod n (2 ^ (j + 1))
        rw [hdiv] at h3
        rw [hme] at hdm
        rw [Nat.pow_succ] at h3 ⊢
        generalize 2 ^ j = z at *
        generalize n % (z * 2) = y at *
        generalize n % z = x at *
        omega
      have hcut : Ieee.Toward.cut .even false n (j + 1) = 4503599627370496 := by
        unfold Ieee.Toward.cut
        have hlog : j + 1 ≤ n.log2 + 2 := by
          have := (Nat.le_log2 (show n ≠ 0 by omega)).2 hl1
          omega
        rw [Nat.min_eq_left hlog]
        simp only [Nat.one_shiftLeft]
        rw [hdiv]
        have c1 : ¬ 2 ^ (j + 1) < 2 * (n % 2 ^ (j + 1)) := by rw [Nat.pow_succ] at *; omega
        have c2 : ¬ 2 ^ (j + 1) = 2 * (n % 2 ^ (j + 1)) := by rw [Nat.pow_succ] at *; omega
        rw [decide_eq_false c1, beq_eq_false_iff_ne.2 c2]
        rfl
      have hu1 : upM n (2 ^ j) = 9007199254740992 ∨ upM n (2 ^ j) = 9007199254740993 := by
        unfold upM
        rw [hme]
        split <;> omega
      have hwu : wN (upM n (2 ^ j) : Nat) = wN (9007199254740992 : Nat) := by
        rcases hu1 with h | h
        · rw [h]
        · rw [h]
          kernel_rfl
      rw [hwu, hw, hcut]
      have := mul_rep (rep_small (n := ((9007199254740992 : Nat) : Int)) (by omega) (by omega)) r2 (by omega) (by omega)
      rw [this, wN_units (by omega) (by omega) (by omega)]
      exact congrArg some (by omega)
theorem up_zero : FloatKind.f64.format.mul (wN ((0 : Nat) : Int)) (wN ((2 ^ 0 : Nat) : Int)) = some (wN ((0 : Nat) : Int)) := rfl
end Go.Proofs.Ytdjpcmlnhkiokaa.A
