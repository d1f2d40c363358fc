/- expr: the document's Floor and Step. No condition. -/
import Derived.Test.YtdjpcmlnhkiokaaEk
namespace Go.Proofs.Ytdjpcmlnhkiokaa.A
open Go
set_option linter.unusedVariables false
set_option maxRecDepth 100000
set_option pp.maxSteps 1500

theorem feq0 (b : Nat) : (ordr .f64 b 0 == some .eq) = decide (nanB b = false ∧ b % 9223372036854775808 = 0) := by
  rw [ordr_eq]
  cases hn : nanB b
  · rw [order_sg hn (by decide)]
    have hc : sgB 0 = 0 := by decide
    rw [hc, Bool.eq_iff_iff, decide_eq_true_eq]
    simp only [beq_iff_eq, Option.some.injEq, cmp_eq, true_and]
    rcases sg_cases b with ⟨_, h2⟩ | ⟨_, h2⟩ <;> rw [h2] <;> omega
  · rw [nan_order hn]
    simp
theorem expE (b : Nat) (hb : b < 18446744073709551616) : hd ((wrp .u64 ((b : Int).tdiv 4503599627370496)).tmod 2048) = ((b / 4503599627370496 % 2048 : Nat) : Int) := by
  have : (b : Int).tdiv 4503599627370496 = ((b / 4503599627370496 : Nat) : Int) := rfl
  rw [this, wrpE, wu64, hd_eq]
  have h2 : ((b / 4503599627370496 : Nat) : Int) % 18446744073709551616 = ((b / 4503599627370496 % 18446744073709551616 : Nat) : Int) := rfl
  rw [h2]
  show ((b / 4503599627370496 % 18446744073709551616 % 2048 : Nat) : Int) = _
  congr 1
  omega
theorem mod_pow' {n j : Nat} : hd ((n : Int).tmod ((2 ^ j : Nat) : Int)) = ((n % 2 ^ j : Nat) : Int) := by
  rw [hd_eq]
  rfl
theorem mod_r (b k : Nat) (hk : k ≤ 63) : b % 2 ^ k = b % 9223372036854775808 % 2 ^ k := by
  have : (9223372036854775808 : Nat) = 2 ^ k * 2 ^ (63 - k) := by rw [← Nat.pow_add, show k + (63 - k) = 63 by omega]
  rw [this, Nat.mod_mul_right_mod]
theorem rFloor_ok (b : Nat) (hb : b < 18446744073709551616) : ACalls Try.prog 32 [fl b] [] (Ret (fl (floorB b))) := by
  have hE := expE b hb
  have h0 := feq0 b
  have hr : b / 4503599627370496 % 2048 = b % 9223372036854775808 / 4503599627370496 := by omega
  refine acalls_of_awp hT mixed Try.func32 rfl (by kernel_rfl) (by kernel_rfl) (Nat.le_of_ble_eq_true rfl) ?_
  refine callP (float64bits_ok b) rfl rfl ?_
  refine Ob.intro (by decide) ?_
  refine Ob.intro (by decide) ?_
  refine fork (fun h => ?_) (fun h => ?_)
  · rw [h0, decide_eq_true_eq] at h
    rw [floorB_zero hb h.2]
    refine end0 rfl rfl rfl rfl
  rw [h0, decide_eq_false_iff_not] at h
  refine forkD (fun g => ?_) (fun g => ?_)
  · have g' : (1075 : Int) ≤ hd ((wrp .u64 ((b : Int).tdiv 4503599627370496)).tmod 2048) := g
    rw [hE] at g'
    rw [floorB_same hb (by omega)]
    refine end0 rfl rfl rfl rfl
  have g' : ¬ (1075 : Int) ≤ hd ((wrp .u64 ((b : Int).tdiv 4503599627370496)).tmod 2048) := g
  rw [hE] at g'
  have hlt : b % 9223372036854775808 < 4841369599423283200 := by omega
  have hnz : b % 9223372036854775808 ≠ 0 := fun hh => h ⟨by unfold nanB; rw [hh]; rfl, hh⟩
  have hneg : negB b = decide (9223372036854775808 ≤ b) := by
    unfold negB
    rw [Bool.eq_iff_iff, decide_eq_true_eq, beq_iff_eq]
    omega
  obtain ⟨k, hk⟩ : ∃ k, k = 1075 - b % 9223372036854775808 / 4503599627370496 := ⟨_, rfl⟩
  have hmid := fun h1 => floorB_mid (b := b) (k := k) hb h1 hlt hk
  refine forkD (fun s => ?_) (fun s => ?_)
  · have s' : 9223372036854775808 ≤ b := by have : (9223372036854775808 : Int) ≤ (b : Int) := s; omega
    rw [decide_eq_true s'] at hneg
    refine forkD (fun l => ?_) (fun l => ?_)
    · have l' : hd ((wrp .u64 ((b : Int).tdiv 4503599627370496)).tmod 2048) < (1023 : Int) := l
      rw [hE] at l'
      rw [floorB_low hb hnz (by omega), hneg]
      refine end0 rfl rfl rfl rfl
    have l' : ¬ hd ((wrp .u64 ((b : Int).tdiv 4503599627370496)).tmod 2048) < (1023 : Int) := l
    rw [hE] at l'
    obtain ⟨f1, f2, f3⟩ := hmid (by omega)
    have hk2 : b / 4503599627370496 % 2048 + k = 1075 := by omega
    have hk52 : k ≤ 52 := by omega
    refine loopI (α := { j : Nat // j ≤ k }) (fun j => [(0, fl b), (3, u64 b), (5, bo true), (6, u64 (2 ^ j.val : Nat)), (7, u64 (b / 4503599627370496 % 2048 + j.val : Nat))]) (fun _ => []) (fun j => k - j.val) ⟨0, Nat.zero_le _⟩ [] ⟨⟨rfl, rfl, rfl, rfl, congrArg u64 hE, True.intro⟩, True.intro, rfl, rfl, rfl⟩ ?_
    rintro ⟨j, hj⟩ K hK
    have hp63 : 2 ^ j ≤ 4503599627370496 := Nat.pow_le_pow_right (n := 2) (by decide) (show j ≤ 52 by omega)
    have hinc : wrp .u64 (((b / 4503599627370496 % 2048 + j : Nat) : Int) + 1) = ((b / 4503599627370496 % 2048 + (j + 1) : Nat) : Int) := by rw [wrpE, wu64]; omega
    have hdbl : wrp .u64 ((2 : Int) * ((2 ^ j : Nat) : Int)) = ((2 ^ (j + 1) : Nat) : Int) := by
      rw [Nat.pow_succ]
      generalize 2 ^ j = z at *
      rw [wrpE, wu64]
      omega
    refine forkD (fun q => ?_) (fun q => ?_)
    · have q' : ((b / 4503599627370496 % 2048 + j : Nat) : Int) < 1075 := q
      refine hK ⟨j + 1, by omega⟩ [] _ (show k - j = k - (j + 1) + 1 by omega) ⟨⟨rfl, rfl, rfl, congrArg u64 hdbl, congrArg u64 hinc, True.intro⟩, True.intro, rfl, rfl, rfl⟩
    · have q' : ¬ ((b / 4503599627370496 % 2048 + j : Nat) : Int) < 1075 := q
      have hjk : j = k := by
        have hj2 : j ≤ k := hj
        clear hdbl hinc hp63 q hK hmid f1 f2 f3 hr
        omega
      subst hjk
      have hmod : hd ((b : Int).tmod ((2 ^ j : Nat) : Int)) = ((b % 2 ^ j : Nat) : Int) := mod_pow'
      have hmr := mod_r b j (by omega)
      have hle : b % 2 ^ j ≤ b := Nat.mod_le _ _
      rw [← hmr] at f1 f2 f3
      have hpos : 0 < 2 ^ j := Nat.pow_pos (by decide)
      generalize b % 2 ^ j = pt at *
      have hne : ((2 ^ j : Nat) : Int) ≠ 0 := by omega
      refine Ob.intro hne ?_
      refine fork (fun z => ?_) (fun z => ?_)
      · have z' : pt = 0 := by
          have := beq_iff_eq.1 z
          rw [hmod] at this
          omega
        rw [f1 z']
        refine end0 rfl rfl rfl rfl
      · have z' : pt ≠ 0 := by
          have := beq_eq_false_iff_ne.1 z
          rw [hmod] at this
          omega
        have hsub : wrp .u64 ((b : Int) - hd ((b : Int).tmod ((2 ^ j : Nat) : Int))) = ((b - pt : Nat) : Int) := by rw [hmod, wrpE, wu64]; omega
        refine callP (float64frombits_ok _) rfl rfl ?_
        refine forO (fun o => ?_) (fun r o => ?_)
        · exfalso
          have o' : fari .sub .f64 (wrp .u64 ((b : Int) - hd ((b : Int).tmod ((2 ^ j : Nat) : Int)))).toNat 4607182418800017408 = none := o
          rw [hsub, Int.toNat_natCast, fari_sub, f3 z' hneg] at o'
          cases o'
        · have o' : fari .sub .f64 (wrp .u64 ((b : Int) - hd ((b : Int).tmod ((2 ^ j : Nat) : Int)))).toNat 4607182418800017408 = some r := o
          rw [hsub, Int.toNat_natCast, fari_sub, f3 z' hneg] at o'
          rw [Option.some.inj o']
          refine end0 rfl rfl rfl rfl
  · have s' : ¬ 9223372036854775808 ≤ b := by have : ¬ (9223372036854775808 : Int) ≤ (b : Int) := s; omega
    rw [decide_eq_false s'] at hneg
    refine forkD (fun l => ?_) (fun l => ?_)
    · have l' : hd ((wrp .u64 ((b : Int).tdiv 4503599627370496)).tmod 2048) < (1023 : Int) := l
      rw [hE] at l'
      rw [floorB_low hb hnz (by omega), hneg]
      refine end0 rfl rfl rfl rfl
    have l' : ¬ hd ((wrp .u64 ((b : Int).tdiv 4503599627370496)).tmod 2048) < (1023 : Int) := l
    rw [hE] at l'
    obtain ⟨f1, f2, f3⟩ := hmid (by omega)
    have hk2 : b / 4503599627370496 % 2048 + k = 1075 := by omega
    have hk52 : k ≤ 52 := by omega
    refine loopI (α := { j : Nat // j ≤ k }) (fun j => [(0, fl b), (3, u64 b), (5, bo false), (6, u64 (2 ^ j.val : Nat)), (7, u64 (b / 4503599627370496 % 2048 + j.val : Nat))]) (fun _ => []) (fun j => k - j.val) ⟨0, Nat.zero_le _⟩ [] ⟨⟨rfl, rfl, rfl, rfl, congrArg u64 hE, True.intro⟩, True.intro, rfl, rfl, rfl⟩ ?_
    rintro ⟨j, hj⟩ K hK
    have hp63 : 2 ^ j ≤ 4503599627370496 := Nat.pow_le_pow_right (n := 2) (by decide) (show j ≤ 52 by omega)
    have hinc : wrp .u64 (((b / 4503599627370496 % 2048 + j : Nat) : Int) + 1) = ((b / 4503599627370496 % 2048 + (j + 1) : Nat) : Int) := by rw [wrpE, wu64]; omega
    have hdbl : wrp .u64 ((2 : Int) * ((2 ^ j : Nat) : Int)) = ((2 ^ (j + 1) : Nat) : Int) := by
      rw [Nat.pow_succ]
      generalize 2 ^ j = z at *
      rw [wrpE, wu64]
      omega
    refine forkD (fun q => ?_) (fun q => ?_)
    · have q' : ((b / 4503599627370496 % 2048 + j : Nat) : Int) < 1075 := q
      refine hK ⟨j + 1, by omega⟩ [] _ (show k - j = k - (j + 1) + 1 by omega) ⟨⟨rfl, rfl, rfl, congrArg u64 hdbl, congrArg u64 hinc, True.intro⟩, True.intro, rfl, rfl, rfl⟩
    · have q' : ¬ ((b / 4503599627370496 % 2048 + j : Nat) : Int) < 1075 := q
      have hjk : j = k := by
        have hj2 : j ≤ k := hj
        clear hdbl hinc hp63 q hK hmid f1 f2 f3 hr
        omega
      subst hjk
      have hmod : hd ((b : Int).tmod ((2 ^ j : Nat) : Int)) = ((b % 2 ^ j : Nat) : Int) := mod_pow'
      have hmr := mod_r b j (by omega)
      have hle : b % 2 ^ j ≤ b := Nat.mod_le _ _
      rw [← hmr] at f1 f2 f3
      have hpos : 0 < 2 ^ j := Nat.pow_pos (by decide)
      generalize b % 2 ^ j = pt at *
      have hne : ((2 ^ j : Nat) : Int) ≠ 0 := by omega
      refine Ob.intro hne ?_
      refine fork (fun z => ?_) (fun z => ?_)
      · have z' : pt = 0 := by
          have := beq_iff_eq.1 z
          rw [hmod] at this
          omega
        rw [f1 z']
        refine end0 rfl rfl rfl rfl
      · have z' : pt ≠ 0 := by
          have := beq_eq_false_iff_ne.1 z
          rw [hmod] at this
          omega
        have hsub : wrp .u64 ((b : Int) - hd ((b : Int).tmod ((2 ^ j : Nat) : Int))) = ((b - pt : Nat) : Int) := by rw [hmod, wrpE, wu64]; omega
        refine callP (float64frombits_ok _) rfl rfl ?_
        refine end0 rfl rfl rfl ?_
        show fl (wrp .u64 ((b : Int) - hd ((b : Int).tmod ((2 ^ j : Nat) : Int)))).toNat = fl (floorB b)
        rw [hsub, Int.toNat_natCast, f2 z' hneg]
end Go.Proofs.Ytdjpcmlnhkiokaa.A
