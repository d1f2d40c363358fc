/- Whole numbers added exactly: both sums. No condition. -/
import Derived.Test.YtihjhigckomapaaHb
namespace Go.Proofs.Ytihjhigckomapaa.A
open Go
set_option linter.unusedVariables false
set_option maxRecDepth 100000
set_option pp.maxSteps 1500

theorem wN_lt {n : Nat} (h : n < 9223372036854775808) (h0 : 0 < n) : wN (n : Int) < 9223372036854775808 := by
  rw [wN_eq, decide_eq_false (show ¬ (n : Int) < 0 by omega)]
  unfold Ieee.Format.nearest
  split
  · decide
  · rw [word_eq, if_neg (by decide), Nat.zero_add]
    have : Ieee.double.infRung = 9218868437227405312 := rfl
    rw [this]
    exact Nat.lt_of_le_of_lt (Nat.min_le_right _ _) (by decide)
theorem neg_float {b : Nat} (h : b < 9223372036854775808) : Op.negFloat .f64 b = 9223372036854775808 + b := by
  show b ^^^ 2 ^ 63 = _
  have h1 : 9223372036854775808 + b = 2 ^ 63 * 1 ||| b := by rw [← Nat.two_pow_add_eq_or_of_lt (i := 63) h 1]
  rw [h1]
  refine Nat.eq_of_testBit_eq fun i => ?_
  rw [Nat.testBit_xor, Nat.testBit_or, Nat.mul_one, Nat.testBit_two_pow]
  by_cases hi : 63 = i
  · subst hi
    have : b.testBit 63 = false := Nat.testBit_lt_two_pow h
    simp [this]
  · simp [hi]
theorem wN_neg {n : Nat} (h : n < 9223372036854775808) (h0 : 0 < n) : Op.negFloat .f64 (wN (n : Int)) = wN (-(n : Int)) := by
  rw [neg_float (wN_lt h h0), wN_eq, wN_eq, decide_eq_false (show ¬ (n : Int) < 0 by omega), decide_eq_true (show -(n : Int) < 0 by omega), near_neg, Int.natAbs_neg]
theorem round_ok (n : Int) (h1 : n ≤ 4611686018427387904) (h2 : -4611686018427387904 ≤ n) : ACalls Try.prog 29 [i64 n] [] (Ret (fl (wN n))) := by
  by_cases hn : n < 0
  · obtain ⟨m, hm⟩ : ∃ m : Nat, n = -(m : Int) := ⟨(-n).toNat, by omega⟩
    have hu := up_ok m (by omega)
    have e1 : wrp .u64 (wrp .i64 (0 - n)) = (m : Int) := by rw [wrpE, wrpE, wi64, wu64]; omega
    rw [← e1] at hu
    refine acalls_of_awp hT mixed Try.func29 rfl (by kernel_rfl) (by kernel_rfl) (Nat.le_of_ble_eq_true rfl) ?_
    refine forkD (fun h => ?_) (fun h => absurd hn h)
    refine callP hu rfl rfl ?_
    refine end0 rfl rfl rfl (congrArg fl ?_)
    rw [e1, hm]
    exact wN_neg (by omega) (by omega)
  · obtain ⟨m, rfl⟩ : ∃ m : Nat, n = (m : Int) := ⟨n.toNat, by omega⟩
    have hu := up_ok m (by omega)
    have e1 : wrp .u64 (m : Int) = (m : Int) := wu64n (by omega)
    rw [← e1] at hu
    refine acalls_of_awp hT mixed Try.func29 rfl (by kernel_rfl) (by kernel_rfl) (Nat.le_of_ble_eq_true rfl) ?_
    refine callP hu rfl rfl ?_
    refine end0 rfl rfl rfl (congrArg (fun z => fl (wN z)) e1)
instance : DecidablePred smallB := fun b => inferInstanceAs (Decidable (_ ∧ _ ∧ _))
def exV (l : List Nat) : AV := if ∀ b ∈ l, smallB b then (if l.length ≤ 512 then .tup [fl (wN (sumB l)), i64 0] else .tup [fl 0, i64 5]) else .tup [fl 0, i64 1]
theorem exV_bad {l : List Nat} {b : Nat} (h : b ∈ l) (hb : ¬ smallB b) : .tup [fl 0, i64 1] = exV l := (if_neg (fun hh => hb (hh b h))).symm
structure ExSt (l : List Nat) : Type where
  k : Nat
  s : Int
  hk : k ≤ l.length
  sm : ∀ b ∈ l.take k, smallB b
  hs : l.length ≤ 512 → s = sumB (l.take k)
theorem sum_take {l : List Nat} {k : Nat} (h : ∀ b ∈ l.take k, smallB b) (hk : k ≤ 512) : sumB (l.take k) ≤ 4611686018427387904 ∧ -4611686018427387904 ≤ sumB (l.take k) := by
  have := sumB_le h
  have hl : (l.take k).length ≤ 512 := by rw [List.length_take]; omega
  omega
theorem small_next {l : List Nat} {k y : Nat} (hy : l[k]? = some y) (h : ∀ b ∈ l.take k, smallB b) (hs : smallB y) : ∀ b ∈ l.take (k + 1), smallB b := by
  rw [take_snocA hy]
  intro b hb
  rcases List.mem_append.1 hb with hb | hb
  · exact h b hb
  · rw [List.mem_singleton.1 hb]; exact hs
theorem sum_next {l : List Nat} {k y : Nat} {s : Int} (hy : l[k]? = some y) (hl : l.length ≤ 512) (h : ∀ b ∈ l.take (k + 1), smallB b) (hs : s = sumB (l.take k)) : wrp .i64 (s + intB y) = sumB (l.take (k + 1)) := by
  have hk := (List.getElem?_eq_some_iff.1 hy).1
  have := sum_take h (by omega)
  rw [take_snocA hy, sumB_snoc, ← hs] at this ⊢
  rw [wrpE, wi64]
  omega
theorem exact_ok (l : List Nat) (hl : l.length < 1000000) : ACalls Try.prog 17 [.view l.length (l.map fl)] [] (Ret (exV l)) := by
  refine acalls_of_awp hT mixed Try.func17 rfl (by kernel_rfl) (by kernel_rfl) (Nat.le_of_ble_eq_true rfl) ?_
  refine loopI (α := ExSt l) (fun z => [(0, .view l.length (l.map fl)), (4, i64 z.s), (9, .view l.length (l.map fl)), (10, i64 l.length), (11, i64 (z.k : Nat))]) (fun _ => []) (fun z => l.length - z.k) ⟨0, 0, Nat.zero_le _, by simp, fun _ => rfl⟩ [] ⟨⟨rfl, rfl, rfl, rfl, rfl, True.intro⟩, True.intro, rfl, rfl, rfl⟩ ?_
  rintro ⟨k, s, hk, hsm, hs⟩ K hK
  have hinc : wrp .i64 ((k : Int) + 1) = ((k + 1 : Nat) : Int) := by rw [wrpE, wi64]; omega
  refine forkD (fun h => ?_) (fun h => ?_)
  · have h' : k < l.length := by have : (k : Int) < (l.length : Int) := h; omega
    obtain ⟨y, hy⟩ : ∃ y, l[k]? = some y := ⟨_, List.getElem?_eq_getElem h'⟩
    have hmem := List.mem_of_getElem? hy
    have hwh := whole_ok y
    refine Ob.intro (show (0 : Int) ≤ (k : Nat) ∧ ((k : Nat) : Int) < (l.length : Nat) by omega) ?_
    refine optK_intro (nth_map hy) ?_
    by_cases hw : whB y
    · rw [if_pos hw] at hwh
      refine callP hwh rfl rfl ?_
      refine forkD (fun h1 => ?_) (fun h1 => ?_)
      · refine end0 rfl rfl rfl (exV_bad hmem (fun hh => by have := hh.2.1; omega))
      · refine forkD (fun h2 => ?_) (fun h2 => ?_)
        · refine end0 rfl rfl rfl (exV_bad hmem (fun hh => by have := hh.2.2; omega))
        · have hn := small_next hy hsm ⟨hw, by omega, by omega⟩
          refine forkD (fun h3 => ?_) (fun h3 => ?_)
          · refine hK ⟨k + 1, wrp .i64 (s + intB y), h', hn, fun hh => sum_next hy hh hn (hs hh)⟩ [] _ (show l.length - k = l.length - (k + 1) + 1 by omega) ⟨⟨rfl, rfl, rfl, rfl, congrArg i64 hinc, True.intro⟩, True.intro, rfl, rfl, rfl⟩
          · refine hK ⟨k + 1, s, h', hn, fun hh => absurd (show (l.length : Int) ≤ 512 by omega) h3⟩ [] _ (show l.length - k = l.length - (k + 1) + 1 by omega) ⟨⟨rfl, rfl, rfl, rfl, congrArg i64 hinc, True.intro⟩, True.intro, rfl, rfl, rfl⟩
    · rw [if_neg hw] at hwh
      refine callP hwh rfl rfl ?_
      refine end0 rfl rfl rfl (exV_bad hmem (fun hh => hw hh.1))
  · have h' : k = l.length := by have : ¬ (k : Int) < (l.length : Int) := h; omega
    subst h'
    rw [List.take_length] at hsm hs
    have hv : exV l = if l.length ≤ 512 then .tup [fl (wN (sumB l)), i64 0] else .tup [fl 0, i64 5] := if_pos hsm
    refine forkD (fun h1 => ?_) (fun h1 => ?_)
    · refine end0 rfl rfl rfl ?_
      rw [hv, if_neg (by omega)]
      rfl
    · refine end0 rfl rfl rfl ?_
      rw [hv, if_pos (by omega), ← hs (by omega)]
      rfl
theorem rExact_ok (l : List Nat) (hl : l.length < 1000000) (hb : ∀ x ∈ l, x < 18446744073709551616) : ACalls Try.prog 18 [.view l.length (l.map fl)] [] (Ret (exV l)) := by
  refine acalls_of_awp hT mixed Try.func18 rfl (by kernel_rfl) (by kernel_rfl) (Nat.le_of_ble_eq_true rfl) ?_
  refine loopI (α := ExSt l) (fun z => [(0, .view l.length (l.map fl)), (4, i64 z.s), (5, i64 (z.k : Nat))]) (fun _ => []) (fun z => l.length - z.k) ⟨0, 0, Nat.zero_le _, by simp, fun _ => rfl⟩ [] ⟨⟨rfl, rfl, rfl, True.intro⟩, True.intro, rfl, rfl, rfl⟩ ?_
  rintro ⟨k, s, hk, hsm, hs⟩ K hK
  have hinc : wrp .i64 ((k : Int) + 1) = ((k + 1 : Nat) : Int) := by rw [wrpE, wi64]; omega
  refine forkD (fun h => ?_) (fun h => ?_)
  · have h' : k < l.length := by have : (k : Int) < (l.length : Int) := h; omega
    obtain ⟨y, hy⟩ : ∃ y, l[k]? = some y := ⟨_, List.getElem?_eq_getElem h'⟩
    have hmem := List.mem_of_getElem? hy
    have hwh := rWhole_ok y (hb y hmem)
    obtain ⟨hw1, hw2⟩ := rw_wh (hb y hmem)
    refine Ob.intro (show (0 : Int) ≤ (k : Nat) ∧ ((k : Nat) : Int) < (l.length : Nat) by omega) ?_
    refine optK_intro (nth_map hy) ?_
    by_cases hw : whB y
    · rw [hw1.2 hw, hw2 hw] at hwh
      refine callP hwh rfl rfl ?_
      refine forkD (fun h1 => ?_) (fun h1 => ?_)
      · refine end0 rfl rfl rfl (exV_bad hmem (fun hh => by have := hh.2.1; omega))
      · refine forkD (fun h2 => ?_) (fun h2 => ?_)
        · refine end0 rfl rfl rfl (exV_bad hmem (fun hh => by have := hh.2.2; omega))
        · have hn := small_next hy hsm ⟨hw, by omega, by omega⟩
          refine forkD (fun h3 => ?_) (fun h3 => ?_)
          · refine hK ⟨k + 1, wrp .i64 (s + intB y), h', hn, fun hh => sum_next hy hh hn (hs hh)⟩ [] _ (show l.length - k = l.length - (k + 1) + 1 by omega) ⟨⟨rfl, rfl, congrArg i64 hinc, True.intro⟩, True.intro, rfl, rfl, rfl⟩
          · refine hK ⟨k + 1, s, h', hn, fun hh => absurd (show (k : Int) < 512 by omega) h3⟩ [] _ (show l.length - k = l.length - (k + 1) + 1 by omega) ⟨⟨rfl, rfl, congrArg i64 hinc, True.intro⟩, True.intro, rfl, rfl, rfl⟩
    · have hf : rwO (negB y) (y / 4503599627370496 % 2048) (y % 4503599627370496) = false := by
        cases hq : rwO (negB y) (y / 4503599627370496 % 2048) (y % 4503599627370496)
        · rfl
        · exact absurd (hw1.1 hq) hw
      rw [hf] at hwh
      refine callP hwh rfl rfl ?_
      refine end0 rfl rfl rfl (exV_bad hmem (fun hh => hw hh.1))
  · have h' : k = l.length := by have : ¬ (k : Int) < (l.length : Int) := h; omega
    subst h'
    rw [List.take_length] at hsm hs
    have hv : exV l = if l.length ≤ 512 then .tup [fl (wN (sumB l)), i64 0] else .tup [fl 0, i64 5] := if_pos hsm
    refine forkD (fun h1 => ?_) (fun h1 => ?_)
    · refine end0 rfl rfl rfl ?_
      rw [hv, if_neg (by omega)]
      rfl
    · have hle := sum_take (l := l) (k := l.length) (by rw [List.take_length]; exact hsm) (by omega)
      rw [List.take_length, ← hs (by omega)] at hle
      refine callP (round_ok s hle.1 hle.2) rfl rfl ?_
      refine end0 rfl rfl rfl ?_
      rw [hv, if_pos (by omega), ← hs (by omega)]
      rfl
end Go.Proofs.Ytihjhigckomapaa.A
