/- The document's answers of num. No condition. -/
import Derived.Test.YtdjpcmlnhkiokaaNd
namespace Go.Proofs.Ytdjpcmlnhkiokaa.A
open Go
set_option linter.unusedVariables false
set_option maxRecDepth 100000
set_option pp.maxSteps 1500

theorem tdiv_u (b c : Nat) (h : b < 18446744073709551616) : wrp .u64 ((b : Int).tdiv (c : Int)) = ((b / c : Nat) : Int) := by
  have : (b : Int).tdiv (c : Int) = ((b / c : Nat) : Int) := rfl
  rw [this, wrpE, IntKind.wrap_u64]
  have : b / c ≤ b := Nat.div_le_self _ _
  generalize b / c = q at *
  omega
theorem tmod_u (b c : Nat) : hd ((b : Int).tmod (c : Int)) = ((b % c : Nat) : Int) := by
  rw [hd_eq]
  rfl
theorem parts_ok (b : Nat) (hb : b < 18446744073709551616) : ACalls Try.prog 23 [fl b] [] (Ret (.tup [bo (decide (9223372036854775808 ≤ b)), u64 (b / 4503599627370496 % 2048 : Nat), u64 (b % 4503599627370496 : Nat)])) := by
  refine acalls_of_awp hT mixed Try.func23 rfl (by kernel_rfl) (by kernel_rfl) (Nat.le_of_ble_eq_true rfl) ?_
  refine callP (float64bits_ok b) rfl rfl ?_
  have e1 : hd ((wrp .u64 ((b : Int).tdiv 4503599627370496)).tmod 2048) = ((b / 4503599627370496 % 2048 : Nat) : Int) := by
    rw [show (4503599627370496 : Int) = ((4503599627370496 : Nat) : Int) from rfl, tdiv_u b _ hb]
    exact tmod_u _ 2048
  have e2 : hd ((b : Int).tmod 4503599627370496) = ((b % 4503599627370496 : Nat) : Int) := tmod_u _ 4503599627370496
  refine forkD (fun h => ?_) (fun h => ?_)
  · refine Ob.intro (by decide) ?_
    refine Ob.intro (by decide) ?_
    refine Ob.intro (by decide) ?_
    refine end0 rfl rfl rfl ?_
    rw [← e1, ← e2, show decide (9223372036854775808 ≤ b) = true from decide_eq_true (by omega)]
    rfl
  · refine Ob.intro (by decide) ?_
    refine Ob.intro (by decide) ?_
    refine Ob.intro (by decide) ?_
    refine end0 rfl rfl rfl ?_
    rw [← e1, ← e2, show decide (9223372036854775808 ≤ b) = false from decide_eq_false (by omega)]
    rfl
theorem rNaN_ok (b : Nat) (hb : b < 18446744073709551616) : ACalls Try.prog 21 [fl b] [] (Ret (bo (nanB b))) := by
  refine acalls_of_awp hT mixed Try.func21 rfl (by kernel_rfl) (by kernel_rfl) (Nat.le_of_ble_eq_true rfl) ?_
  refine callP (parts_ok b hb) rfl rfl ?_
  have hn : nanB b = (((b / 4503599627370496 % 2048 : Nat) : Int) == 2047 && decide (((b % 4503599627370496 : Nat) : Int) > 0)) := by
    unfold nanB
    rw [Bool.eq_iff_iff]
    simp only [decide_eq_true_eq, Bool.and_eq_true, beq_iff_eq]
    omega
  refine fork (fun h0 => ?_) (fun h0 => ?_) <;>
  · refine fork (fun h => ?_) (fun h => ?_)
    · refine fork (fun h1 => ?_) (fun h1 => ?_)
      · refine end0 rfl rfl rfl (congrArg bo ?_)
        rw [hn, h, ← gtD_eq, h1]
        rfl
      · refine end0 rfl rfl rfl (congrArg bo ?_)
        rw [hn, h, ← gtD_eq, h1]
        rfl
    · refine end0 rfl rfl rfl (congrArg bo ?_)
      rw [hn, h]
      rfl
theorem rBits_ok (b : Nat) (hb : b < 18446744073709551616) : ACalls Try.prog 9 [fl b] [] (Ret (u64 (bitsB b))) := by
  refine acalls_of_awp hT mixed Try.func9 rfl (by kernel_rfl) (by kernel_rfl) (Nat.le_of_ble_eq_true rfl) ?_
  refine callP (rNaN_ok b hb) rfl rfl ?_
  refine fork (fun h => ?_) (fun h => ?_)
  · refine end0 rfl rfl rfl (congrArg u64 ?_)
    simp [bitsB, h]
  · refine callP (float64bits_ok b) rfl rfl ?_
    refine end0 rfl rfl rfl (congrArg u64 ?_)
    rw [bitsB_eq h]
theorem classB_eq (b : Nat) (hn : nanB b = false) : classB b =
    if 9223372036854775808 ≤ b then (if b % 9223372036854775808 = 9218868437227405312 then 1 else if b % 9223372036854775808 = 0 then 4 else if b % 9223372036854775808 < 4503599627370496 then 3 else 2)
    else (if b % 9223372036854775808 = 9218868437227405312 then 8 else if b % 9223372036854775808 = 0 then 5 else if b % 9223372036854775808 < 4503599627370496 then 6 else 7) := by
  have h1 := hn
  simp only [nanB, decide_eq_false_iff_not] at h1
  simp only [classB, bitsB_eq hn, classM]
  rw [if_neg (by omega)]
theorem rClass_ok (b : Nat) (hb : b < 18446744073709551616) : ACalls Try.prog 13 [fl b] [] (Ret (i64 (classB b))) := by
  refine acalls_of_awp hT mixed Try.func13 rfl (by kernel_rfl) (by kernel_rfl) (Nat.le_of_ble_eq_true rfl) ?_
  refine callP (parts_ok b hb) rfl rfl ?_
  have hN : nanB b = true → classB b = 0 := fun h => by simp [classB, bitsB, h, classM]
  refine fork (fun h0 => ?_) (fun h0 => ?_)
  all_goals
    refine fork (fun h => ?_) (fun h => ?_)
    · simp only [beq_iff_eq] at h
      refine fork (fun h1 => ?_) (fun h1 => ?_)
      · have h1 := of_decide_eq_true h1
        refine end0 rfl rfl rfl (congrArg i64 ?_)
        rw [hN (by simp only [nanB, decide_eq_true_eq]; omega)]
      · have h1 := of_decide_eq_false h1
        have hn : nanB b = false := by simp only [nanB, decide_eq_false_iff_not]; omega
        refine fork (fun g => ?_) (fun g => by simp [h] at g)
        refine end0 rfl rfl rfl (congrArg i64 ?_)
        rw [classB_eq b hn]
        first | have h0' := of_decide_eq_true h0 | have h0' := of_decide_eq_false h0
        have e1 : b % 9223372036854775808 = 9218868437227405312 := by omega
        simp [h0', e1, wrpE, wi64]
    · refine fork (fun g => by rw [h] at g; cases g) (fun g => ?_)
      simp only [beq_eq_false_iff_ne] at h
      have hn : nanB b = false := by simp only [nanB, decide_eq_false_iff_not]; omega
      first | have h0' := of_decide_eq_true h0 | have h0' := of_decide_eq_false h0
      refine fork (fun h2 => ?_) (fun h2 => ?_)
      · refine fork (fun h3 => ?_) (fun h3 => ?_)
        · simp only [beq_iff_eq] at h3 h2
          refine end0 rfl rfl rfl (congrArg i64 ?_)
          rw [classB_eq b hn]
          have e1 : b % 9223372036854775808 = 0 := by omega
          simp [h0', e1, wrpE, wi64]
        · refine fork (fun g => ?_) (fun g => by rw [h2] at g; cases g)
          simp only [beq_iff_eq] at h2
          simp only [beq_eq_false_iff_ne] at h3
          refine end0 rfl rfl rfl (congrArg i64 ?_)
          rw [classB_eq b hn]
          have e1 : ¬ b % 9223372036854775808 = 0 := by omega
          have e2 : b % 9223372036854775808 < 4503599627370496 := by omega
          have e3 : ¬ b % 9223372036854775808 = 9218868437227405312 := by omega
          simp [h0', e1, e2, e3, wrpE, wi64]
      · refine fork (fun g => by rw [h2] at g; cases g) (fun g => ?_)
        simp only [beq_eq_false_iff_ne] at h2
        refine end0 rfl rfl rfl (congrArg i64 ?_)
        rw [classB_eq b hn]
        have e1 : ¬ b % 9223372036854775808 = 0 := by omega
        have e2 : ¬ b % 9223372036854775808 < 4503599627370496 := by omega
        have e3 : ¬ b % 9223372036854775808 = 9218868437227405312 := by omega
        simp [h0', e1, e2, e3, wrpE, wi64]
end Go.Proofs.Ytdjpcmlnhkiokaa.A
