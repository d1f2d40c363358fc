/- The document's answers of num. No condition. -/
import Derived.Test.YthebddjpnkimjaaNd
namespace Go.Proofs.Ythebddjpnkimjaa.A
open Go
set_option linter.unusedVariables false
set_option maxRecDepth 100000
set_option pp.maxSteps 1500

theorem tdiv_u (b c : Nat) (h : b < 18446744073709551616) : wrp .u64 ((b : Int).tdiv (c : Int)) = ((b / c : Nat) : Int) := by
  have : (b : Int).tdiv (c : Int) = ((b / c : Nat) : Int) := rfl
  rw [this, wrpE, IntKind.wrap_u64]
  have : b / c ≤ b := Nat.div_le_self _ _
  generalize b / c = q at *
  omega
theorem tmod_u (b c : Nat) : hd ((b : Int).tmod (c : Int)) = ((b % c : Nat) : Int) := by
  rw [hd_eq]
  rfl
theorem parts_ok (b : Nat) (hb : b < 18446744073709551616) : ACalls Try.prog 65 [fl b] [] (Ret (.tup [bo (decide (9223372036854775808 ≤ b)), u64 (b / 4503599627370496 % 2048 : Nat), u64 (b % 4503599627370496 : Nat)])) := by
  refine acalls_of_awp hT mixed Try.func65 rfl (by kernel_rfl) (by kernel_rfl) (Nat.le_of_ble_eq_true rfl) ?_
  refine callP (float64bits_ok b) rfl rfl ?_
  have e1 : hd ((wrp .u64 ((b : Int).tdiv 4503599627370496)).tmod 2048) = ((b / 4503599627370496 % 2048 : Nat) : Int) := by
    rw [show (4503599627370496 : Int) = ((4503599627370496 : Nat) : Int) from rfl, tdiv_u b _ hb]
    exact tmod_u _ 2048
  have e2 : hd ((b : Int).tmod 4503599627370496) = ((b % 4503599627370496 : Nat) : Int) := tmod_u _ 4503599627370496
  refine forkD (fun h => ?_) (fun h => ?_)
  · refine Ob.intro (by decide) ?_
    refine Ob.intro (by decide) ?_
    refine Ob.intro (by decide) ?_
    refine end0 rfl rfl rfl ?_
    rw [← e1, ← e2, show decide (9223372036854775808 ≤ b) = true from decide_eq_true (by omega)]
    rfl
  · refine Ob.intro (by decide) ?_
    refine Ob.intro (by decide) ?_
    refine Ob.intro (by decide) ?_
    refine end0 rfl rfl rfl ?_
    rw [← e1, ← e2, show decide (9223372036854775808 ≤ b) = false from decide_eq_false (by omega)]
    rfl
theorem rNaN_ok (b : Nat) (hb : b < 18446744073709551616) : ACalls Try.prog 62 [fl b] [] (Ret (bo (nanB b))) := by
  refine acalls_of_awp hT mixed Try.func62 rfl (by kernel_rfl) (by kernel_rfl) (Nat.le_of_ble_eq_true rfl) ?_
  refine callP (parts_ok b hb) rfl rfl ?_
  have hn : nanB b = (((b / 4503599627370496 % 2048 : Nat) : Int) == 2047 && decide (((b % 4503599627370496 : Nat) : Int) > 0)) := by
    unfold nanB
    rw [Bool.eq_iff_iff]
    simp only [decide_eq_true_eq, Bool.and_eq_true, beq_iff_eq]
    omega
  refine fork (fun h0 => ?_) (fun h0 => ?_) <;>
  · refine fork (fun h => ?_) (fun h => ?_)
    · refine fork (fun h1 => ?_) (fun h1 => ?_)
      · refine end0 rfl rfl rfl (congrArg bo ?_)
        rw [hn, h, ← gtD_eq, h1]
        rfl
      · refine end0 rfl rfl rfl (congrArg bo ?_)
        rw [hn, h, ← gtD_eq, h1]
        rfl
    · refine end0 rfl rfl rfl (congrArg bo ?_)
      rw [hn, h]
      rfl
theorem rBits_ok (b : Nat) (hb : b < 18446744073709551616) : ACalls Try.prog 50 [fl b] [] (Ret (u64 (bitsB b))) := by
  refine acalls_of_awp hT mixed Try.func50 rfl (by kernel_rfl) (by kernel_rfl) (Nat.le_of_ble_eq_true rfl) ?_
  refine callP (rNaN_ok b hb) rfl rfl ?_
  refine fork (fun h => ?_) (fun h => ?_)
  · refine end0 rfl rfl rfl (congrArg u64 ?_)
    simp [bitsB, h]
  · refine callP (float64bits_ok b) rfl rfl ?_
    refine end0 rfl rfl rfl (congrArg u64 ?_)
    rw [bitsB_eq h]
theorem rPlace_ok (b : Nat) (hb : b < 18446744073709551616) : ACalls Try.prog 63 [fl b] [] (Ret (u64 (placeB b))) := by
  refine acalls_of_awp hT mixed Try.func63 rfl (by kernel_rfl) (by kernel_rfl) (Nat.le_of_ble_eq_true rfl) ?_
  refine callP (rNaN_ok b hb) rfl rfl ?_
  refine fork (fun h => ?_) (fun h => ?_)
  · refine end0 rfl rfl rfl (congrArg u64 ?_)
    simp [placeB, h]
  · refine callP (parts_ok b hb) rfl rfl ?_
    have hn := h
    simp only [nanB, decide_eq_false_iff_not] at hn
    refine fork (fun h1 => ?_) (fun h1 => ?_)
    · have h1 := of_decide_eq_true h1
      refine end0 rfl rfl rfl (congrArg u64 ?_)
      simp only [placeB, h, Bool.false_eq_true, if_false, if_pos h1, wrpE, IntKind.wrap_u64]
      omega
    · have h1 := of_decide_eq_false h1
      refine end0 rfl rfl rfl (congrArg u64 ?_)
      simp only [placeB, h, Bool.false_eq_true, if_false, if_neg h1, wrpE, IntKind.wrap_u64]
      omega
theorem classB_eq (b : Nat) (hn : nanB b = false) : classB b =
    if 9223372036854775808 ≤ b then (if b % 9223372036854775808 = 9218868437227405312 then 1 else if b % 9223372036854775808 = 0 then 4 else if b % 9223372036854775808 < 4503599627370496 then 3 else 2)
    else (if b % 9223372036854775808 = 9218868437227405312 then 8 else if b % 9223372036854775808 = 0 then 5 else if b % 9223372036854775808 < 4503599627370496 then 6 else 7) := by
  have h1 := hn
  simp only [nanB, decide_eq_false_iff_not] at h1
  simp only [classB, bitsB_eq hn, classM]
  rw [if_neg (by omega)]
end Go.Proofs.Ythebddjpnkimjaa.A
