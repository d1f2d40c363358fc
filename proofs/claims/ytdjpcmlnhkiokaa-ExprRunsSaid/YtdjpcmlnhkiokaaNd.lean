/- The functions of num: classes, and the document's answers. No condition. -/
import Derived.Test.YtdjpcmlnhkiokaaNc
namespace Go.Proofs.Ytdjpcmlnhkiokaa.A
open Go
set_option linter.unusedVariables false
set_option maxRecDepth 100000
set_option pp.maxSteps 1500

theorem bitsB_eq {b : Nat} (h : nanB b = false) : bitsB b = b := by simp [bitsB, h]
def classM (m : Nat) (s : Prop) [Decidable s] : Int :=
  if m = 9221120237041090561 then 0 else
  if s then (if m = 9218868437227405312 then 1 else if m = 0 then 4 else if m < 4503599627370496 then 3 else 2)
  else (if m = 9218868437227405312 then 8 else if m = 0 then 5 else if m < 4503599627370496 then 6 else 7)
/-- What kind it is. -/
def classB (b : Nat) : Int := classM (bitsB b % 9223372036854775808) (9223372036854775808 ≤ bitsB b)
theorem class_ok (b : Nat) (hb : b < 18446744073709551616) : ACalls Try.prog 45 [fl b] [] (Ret (i64 (classB b))) := by
  refine acalls_of_awp hT mixed Try.func45 rfl (by kernel_rfl) (by kernel_rfl) (Nat.le_of_ble_eq_true rfl) ?_
  refine callP (bits_ok b) rfl rfl ?_
  have hw := andNot_sign' _ (bitsB_lt hb)
  have hs := and_sign' _ (bitsB_lt hb)
  unfold classB
  generalize bitsB b = c at *
  have fin : ∀ (x y : Int), x = y → i64 x = i64 y := fun _ _ h => congrArg i64 h
  refine fork (fun h => ?_) (fun h => ?_)
  all_goals
    rw [hs] at h
    refine fork (fun h1 => ?_) (fun h1 => ?_)
    all_goals (rw [hw] at h1; simp only [beq_iff_eq, beq_eq_false_iff_ne] at h1)
    · refine end0 rfl rfl rfl (congrArg i64 ?_)
      simp only [classM]
      rw [if_pos (by omega)]
    · refine fork (fun h2 => ?_) (fun h2 => ?_)
      all_goals (rw [hw] at h2; simp only [beq_iff_eq, beq_eq_false_iff_ne] at h2)
      · refine end0 rfl rfl rfl (congrArg i64 ?_)
        simp only [classM, wrpE, wi64]
        split at h <;> (repeat' split) <;> simp_all <;> omega
      · refine fork (fun h3 => ?_) (fun h3 => ?_)
        all_goals (rw [hw] at h3; simp only [beq_iff_eq, beq_eq_false_iff_ne] at h3)
        · refine end0 rfl rfl rfl (congrArg i64 ?_)
          simp only [classM, wrpE, wi64]
          split at h <;> (repeat' split) <;> simp_all <;> omega
        · refine fork (fun h4 => ?_) (fun h4 => ?_)
          · rw [hw] at h4
            have h4 := of_decide_eq_true h4
            have h4' : c % 9223372036854775808 < 4503599627370496 := by omega
            clear h4
            refine end0 rfl rfl rfl (congrArg i64 ?_)
            simp only [classM, wrpE, wi64]
            split at h <;> (repeat' split) <;> simp_all <;> omega
          · rw [hw] at h4
            have h4 := of_decide_eq_false h4
            have h4' : ¬ c % 9223372036854775808 < 4503599627370496 := by omega
            clear h4
            refine end0 rfl rfl rfl (congrArg i64 ?_)
            simp only [classM, wrpE, wi64]
            split at h <;> (repeat' split) <;> simp_all <;> omega
end Go.Proofs.Ytdjpcmlnhkiokaa.A
