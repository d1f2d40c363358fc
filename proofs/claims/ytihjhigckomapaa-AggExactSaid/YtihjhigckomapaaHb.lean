/- Whole numbers added exactly: the functions. No condition. -/
import Derived.Test.YtihjhigckomapaaHa
import Derived.Test.YtihjhigckomapaaGf
import Derived.Test.YtihjhigckomapaaNs
import Derived.Test.YtihjhigckomapaaOw
namespace Go.Proofs.Ytihjhigckomapaa.A
open Go
set_option linter.unusedVariables false
set_option maxRecDepth 100000
set_option pp.maxSteps 1500

theorem rep_whole {b : Nat} (h : whB b) : Rep b (intB b) := by
  obtain ⟨hin, htr⟩ := h
  have hle := inB_le hin
  have hrd := read_fin (b := b) (by omega)
  have hval : mR (b % 9223372036854775808) * 2 ^ eR (b % 9223372036854775808) = intR (b % 9223372036854775808) * 2 ^ kE := by
    generalize b % 9223372036854775808 = r at *
    unfold truncR at htr
    unfold intR
    by_cases h1 : 4841369599423283200 ≤ r
    · rw [if_pos h1]
      unfold mR eR
      rw [if_neg (by omega), if_neg (by omega), Nat.mul_assoc, ← Nat.pow_add]
      congr 2
      rw [kE_eq]
      omega
    · rw [if_neg h1] at htr ⊢
      by_cases h2 : r < 4607182418800017408
      · rw [if_pos h2] at htr ⊢
        subst htr
        unfold mR
        simp
      · rw [if_neg h2] at htr ⊢
        have hmod : (4503599627370496 + r % 4503599627370496) % 2 ^ (1075 - r / 4503599627370496) = 0 := by
          rw [mod_lead (by omega)]
          have := Nat.mod_le (r % 4503599627370496) (2 ^ (1075 - r / 4503599627370496))
          omega
        have hdm := Nat.div_add_mod (4503599627370496 + r % 4503599627370496) (2 ^ (1075 - r / 4503599627370496))
        rw [hmod, Nat.add_zero] at hdm
        have hm : mR r = 4503599627370496 + r % 4503599627370496 := by unfold mR; rw [if_neg (by omega)]
        have he : eR r = r / 4503599627370496 - 1 := by unfold eR; rw [if_neg (by omega)]
        rw [hm, he]
        have hp : 2 ^ kE = 2 ^ (1075 - r / 4503599627370496) * 2 ^ (r / 4503599627370496 - 1) := by rw [← Nat.pow_add, show 1075 - r / 4503599627370496 + (r / 4503599627370496 - 1) = kE by rw [kE_eq]; omega]
        rw [hp, ← Nat.mul_assoc, Nat.mul_comm ((4503599627370496 + r % 4503599627370496) / 2 ^ (1075 - r / 4503599627370496)), hdm]
  refine ⟨_, _, _, hrd, ?_, ?_⟩
  · have : Ieee.double.leastPlace = -1074 := rfl
    rw [this]
    omega
  · have hl : Ieee.double.leastPlace = -1074 := rfl
    rw [signed_eq, hl, show (-1074 + ((eR (b % 9223372036854775808) : Nat) : Int) + 1074).toNat = eR (b % 9223372036854775808) by omega]
    have hv : ((mR (b % 9223372036854775808) : Int) * 2 ^ eR (b % 9223372036854775808)) = (intR (b % 9223372036854775808) : Int) * 2 ^ kE := by
      have := congrArg (fun z : Nat => (z : Int)) hval
      simpa using this
    rw [hv, ← Int.mul_assoc]
    congr 1
    unfold intB
    cases negB b
    · simp
    · simp
def sumB (l : List Nat) : Int := (l.map intB).sum
theorem sumB_snoc (l : List Nat) (x : Nat) : sumB (l ++ [x]) = sumB l + intB x := by simp [sumB]
def smallB (b : Nat) : Prop := whB b ∧ intB b ≤ 9007199254740992 ∧ -9007199254740992 ≤ intB b
theorem sumB_le : ∀ {l : List Nat}, (∀ b ∈ l, smallB b) → sumB l ≤ l.length * 9007199254740992 ∧ -((l.length : Int) * 9007199254740992) ≤ sumB l
  | [], _ => by simp [sumB]
  | b :: l, h => by
    have h1 := sumB_le (l := l) fun x hx => h x (List.mem_cons_of_mem _ hx)
    have h2 := (h b (List.mem_cons_self ..)).2
    have e : sumB (b :: l) = intB b + sumB l := by simp [sumB]
    rw [e, List.length_cons]
    omega
/-- The adder's sum stands for the sum, as long as that is small. -/
theorem acc_rep : ∀ (l : List Nat), (∀ b ∈ l, whB b) → (∀ k, k ≤ l.length → (sumB (l.take k)).natAbs ≤ 9007199254740992) → ∃ c, (accA l).2.1 = some c ∧ Rep c (sumB l) := by
  intro l
  generalize hn : l.length = n
  induction n generalizing l with
  | zero =>
    intro _ _
    obtain rfl := List.eq_nil_of_length_eq_zero hn
    exact ⟨0, rfl, rep_zero⟩
  | succ n ih =>
    intro hw hs
    obtain ⟨l', x, rfl⟩ : ∃ l' x, l = l' ++ [x] := by
      rcases List.eq_nil_or_concat l with h | ⟨l', x, h⟩
      · rw [h] at hn; cases hn
      · exact ⟨l', x, by rw [h]; simp⟩
    have hl : l'.length = n := by simpa using hn
    obtain ⟨c, h1, h2⟩ := ih l' hl (fun b hb => hw b (List.mem_append_left _ hb)) (fun k hk => by
      have := hs k (by omega)
      rwa [List.take_append_of_le_length (by omega)] at this)
    have h3 := hs (n + 1) (Nat.le_refl _)
    rw [List.take_of_length_le (by simp; omega), sumB_snoc] at h3
    obtain ⟨d, h4, h5⟩ := add_rep h2 (rep_whole (hw x (by simp))) h3
    refine ⟨d, ?_, by rw [sumB_snoc]; exact h5⟩
    rw [accA_snoc]
    show addS (accA l').2.1 x = _
    rw [h1]
    show fari .add .f64 c x = _
    rw [fari_add]
    exact h4
theorem rep_notNan {b : Nat} {n : Int} (h : Rep b n) : nanB b = false := by
  obtain ⟨s, m, i, e, _⟩ := h
  cases hq : nanB b with
  | false => rfl
  | true =>
    have h1 := nan_order (b := b) hq
    have h2 : FloatKind.f64.format.order b b = (Ieee.double.read b).order (Ieee.double.read b) := rfl
    rw [h2, e] at h1
    simp [Ieee.Datum.order] at h1
/-! ### Up -/
theorem wu64n {q : Nat} (h : q < 18446744073709551616) : wrp .u64 (q : Int) = (q : Int) := by rw [wrpE, wu64]; omega
def UpSt (n : Nat) : Type := { j : Nat // j ≤ 10 ∧ (j = 0 ∨ 9007199254740992 < n / 2 ^ (j - 1)) }
theorem div_pow {n j : Nat} (hn : n < 18446744073709551616) (hj : j ≤ 20) : wrp .u64 ((n : Int).tdiv ((2 ^ j : Nat) : Int)) = ((n / 2 ^ j : Nat) : Int) := by
  have e1 : (n : Int).tdiv ((2 ^ j : Nat) : Int) = ((n / 2 ^ j : Nat) : Int) := by rw [Int.tdiv_eq_ediv_of_nonneg (by omega)]; rfl
  have h2 : n / 2 ^ j ≤ n := Nat.div_le_self ..
  rw [e1]
  exact wu64n (by omega)
theorem mod_pow {n j : Nat} : hd ((n : Int).tmod ((2 ^ j : Nat) : Int)) = ((n % 2 ^ j : Nat) : Int) := by
  rw [hd_eq, Int.tmod_eq_emod_of_nonneg (by omega)]
  rfl
theorem dbl {x : Nat} (h : x < 9223372036854775808) : wrp .u64 ((2 : Int) * (x : Int)) = ((2 * x : Nat) : Int) := by
  rw [wrpE, wu64]
  omega
theorem up_ok (n : Nat) (hn : n < 9223372036854775808) : ACalls Try.prog 39 [u64 n] [] (Ret (fl (wN (n : Int)))) := by
  refine acalls_of_awpC [8] hT mixed Try.func39 rfl (by kernel_rfl) (by kernel_rfl) (Nat.le_of_ble_eq_true rfl) ?_
  refine loopI (α := UpSt n) (fun j => [(0, u64 n), (3, u64 (2 ^ j.val : Nat))]) (fun _ => []) (fun j => 10 - j.val) ⟨0, Nat.zero_le _, .inl rfl⟩ [] ⟨⟨rfl, rfl, True.intro⟩, True.intro, rfl, rfl, rfl⟩ ?_
  rintro ⟨j, hj, hlow⟩ K hK
  have hp : 0 < 2 ^ j := Nat.pow_pos (by decide)
  have hp10 : 2 ^ j ≤ 2 ^ 10 := Nat.pow_le_pow_right (by decide) hj
  have hdiv := div_pow (n := n) (j := j) (by omega) (by omega)
  have hmod := mod_pow (n := n) (j := j)
  have hne : ((2 ^ j : Nat) : Int) ≠ 0 := by omega
  have hnn : n / 2 ^ j ≤ n := Nat.div_le_self ..
  have hj10 : 9007199254740992 < n / 2 ^ j → j < 10 := fun h => by
    refine Decidable.byContradiction fun hh => ?_
    have : j = 10 := by omega
    subst this
    omega
  have hdbl : wrp .u64 ((2 : Int) * ((2 ^ j : Nat) : Int)) = ((2 ^ (j + 1) : Nat) : Int) := by
    rw [dbl (by omega), Nat.pow_succ, Nat.mul_comm]
  have hgo : 9007199254740992 < n / 2 ^ j → 10 - j = 10 - (j + 1) + 1 := fun h => by have := hj10 h; omega
  have hnext : 9007199254740992 < n / 2 ^ j → j + 1 ≤ 10 ∧ (j + 1 = 0 ∨ 9007199254740992 < n / 2 ^ (j + 1 - 1)) := fun h => ⟨hj10 h, .inr h⟩
  refine Ob.intro hne ?_
  refine forkD (fun h => ?_) (fun h => ?_)
  · rw [hdiv] at h
    have h' : 9007199254740992 < n / 2 ^ j := by omega
    refine hK ⟨j + 1, hnext h'⟩ [] _ (hgo h') ⟨⟨rfl, congrArg u64 hdbl, True.intro⟩, True.intro, rfl, rfl, rfl⟩
  · rw [hdiv] at h
    refine Ob.intro hne ?_
    refine forkD (fun h2 => ?_) (fun h2 => ?_)
    · rw [hdiv] at h2
      have h' : 9007199254740992 < n / 2 ^ j := by omega
      refine hK ⟨j + 1, hnext h'⟩ [] _ (hgo h') ⟨⟨rfl, congrArg u64 hdbl, True.intro⟩, True.intro, rfl, rfl, rfl⟩
    · rw [hdiv] at h2
      have hrl := Nat.mod_lt n hp
      have hr2 := dbl (x := n % 2 ^ j) (by omega)
      have hm2 : hd (((n / 2 ^ j : Nat) : Int).tmod 2) = ((n / 2 ^ j % 2 : Nat) : Int) := by
        rw [hd_eq, Int.tmod_eq_emod_of_nonneg (Int.natCast_nonneg _)]
        rfl
      have hadd : wrp .u64 (((n / 2 ^ j : Nat) : Int) + 1) = ((n / 2 ^ j + 1 : Nat) : Int) := wu64n (q := n / 2 ^ j + 1) (by omega)
      refine Ob.intro hne ?_
      refine Ob.intro hne ?_
      refine cutI (α := Unit) (fun _ => [(3, u64 (2 ^ j : Nat)), (4, u64 (upM n (2 ^ j) : Nat))]) (fun _ => []) [] (fun K3 hK3 => ?_) (fun _ => ?_)
      · refine forkD (fun h3 => ?_) (fun h3 => ?_)
        · rw [hmod, hr2] at h3
          replace h3 : ((2 * (n % 2 ^ j) : Nat) : Int) > ((2 ^ j : Nat) : Int) := h3
          refine hK3 () [] [] _ ⟨⟨rfl, congrArg u64 ?_, True.intro⟩, True.intro, rfl, rfl, rfl⟩
          have hu : upM n (2 ^ j) = n / 2 ^ j + 1 := if_pos (.inl (by omega))
          rw [hu, ← hadd]
          exact congrArg (fun z => wrp .u64 (z + 1)) hdiv
        · rw [hmod, hr2] at h3
          replace h3 : ¬ ((2 * (n % 2 ^ j) : Nat) : Int) > ((2 ^ j : Nat) : Int) := h3
          refine fork (fun h4 => ?_) (fun h4 => ?_)
          · rw [hmod, hr2] at h4
            replace h4 : ((2 * (n % 2 ^ j) : Nat) : Int) = ((2 ^ j : Nat) : Int) := beq_iff_eq.1 h4
            refine Ob.intro (by decide) ?_
            refine fork (fun h5 => ?_) (fun h5 => ?_)
            · rw [hdiv, hm2] at h5
              have h5 := beq_iff_eq.1 h5
              refine forkD (fun h6 => ?_) (fun h6 => ?_)
              · replace h6 : ((2 ^ j : Nat) : Int) > 1 := h6
                refine hK3 () [] [] _ ⟨⟨rfl, congrArg u64 ?_, True.intro⟩, True.intro, rfl, rfl, rfl⟩
                have hu : upM n (2 ^ j) = n / 2 ^ j + 1 := if_pos (.inr ⟨by omega, by omega, by omega⟩)
                rw [hu, ← hadd]
                exact congrArg (fun z => wrp .u64 (z + 1)) hdiv
              · replace h6 : ¬ ((2 ^ j : Nat) : Int) > 1 := h6
                refine hK3 () [] [] _ ⟨⟨rfl, congrArg u64 ?_, True.intro⟩, True.intro, rfl, rfl, rfl⟩
                have hu : upM n (2 ^ j) = n / 2 ^ j := if_neg (by omega)
                rw [hu]
                exact hdiv
            · rw [hdiv, hm2] at h5
              have h5 := beq_eq_false_iff_ne.1 h5
              refine hK3 () [] [] _ ⟨⟨rfl, congrArg u64 ?_, True.intro⟩, True.intro, rfl, rfl, rfl⟩
              have hu : upM n (2 ^ j) = n / 2 ^ j := if_neg (by omega)
              rw [hu]
              exact hdiv
          · rw [hmod, hr2] at h4
            replace h4 : ((2 * (n % 2 ^ j) : Nat) : Int) ≠ ((2 ^ j : Nat) : Int) := beq_eq_false_iff_ne.1 h4
            refine hK3 () [] [] _ ⟨⟨rfl, congrArg u64 ?_, True.intro⟩, True.intro, rfl, rfl, rfl⟩
            have hu : upM n (2 ^ j) = n / 2 ^ j := if_neg (by omega)
            rw [hu]
            exact hdiv
      · have hw : fari .mul .f64 (wN (upM n (2 ^ j) : Nat)) (wN ((2 ^ j : Nat) : Int)) = some (wN (n : Int)) := by
          rw [fari_mul]
          by_cases h0 : n = 0
          · subst h0
            have hj0 : j = 0 := by
              rcases hlow with h | h
              · exact h
              · rw [Nat.zero_div] at h; omega
            subst hj0
            exact up_zero
          · exact up_word (by omega) (by omega) (by omega) hlow
        refine forO (fun h => ?_) (fun r hr => ?_)
        · exact absurd (hw.symm.trans h) (fun hh => by cases hh)
        · refine end0 rfl rfl rfl (congrArg fl (Option.some.inj ((show fari .mul .f64 (wN (upM n (2 ^ j) : Nat)) (wN ((2 ^ j : Nat) : Int)) = some r from hr).symm.trans hw)))
end Go.Proofs.Ytihjhigckomapaa.A
