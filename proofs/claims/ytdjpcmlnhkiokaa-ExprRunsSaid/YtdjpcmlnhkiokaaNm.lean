/- Which number stands ahead, by the document. No condition. -/
import Derived.Test.YtdjpcmlnhkiokaaNl
namespace Go.Proofs.Ytdjpcmlnhkiokaa.A
open Go
set_option linter.unusedVariables false
set_option maxRecDepth 100000
set_option pp.maxSteps 1500

theorem cmp_lt {x y : Int} : compare x y = .lt ↔ x < y := by
  simp only [compare, compareOfLessAndEq]
  split
  · simp [*]
  · split <;> simp [*]
theorem cmp_eq {x y : Int} : compare x y = .eq ↔ x = y := by
  simp only [compare, compareOfLessAndEq]
  split
  · rename_i h
    simp
    omega
  · split <;> simp [*]
theorem negB_iff {b : Nat} (hb : b < 18446744073709551616) : negB b = true ↔ 9223372036854775808 ≤ b := by
  simp only [negB, beq_iff_eq]
  omega
theorem place_sg {b : Nat} (hb : b < 18446744073709551616) (hn : nanB b = false) :
    (9223372036854775808 ≤ b ∧ sgB b = -((b % 9223372036854775808 : Nat) : Int) ∧ placeB b = 9218868437227405312 - b % 9223372036854775808) ∨ (b < 9223372036854775808 ∧ sgB b = (b : Int) ∧ placeB b = 9218868437227405313 + b) := by
  by_cases h : 9223372036854775808 ≤ b
  · left
    refine ⟨h, by simp only [sgB, (negB_iff hb).2 h, if_true], ?_⟩
    simp only [placeB, hn, Bool.false_eq_true, if_false, if_pos h]
  · right
    have hng : negB b = false := by
      cases hq : negB b
      · rfl
      · exact absurd ((negB_iff hb).1 hq) h
    refine ⟨by omega, ?_, ?_⟩
    · simp only [sgB, hng, Bool.false_eq_true, if_false]
      omega
    · simp only [placeB, hn, Bool.false_eq_true, if_false, if_neg h]
theorem less_ok (a b : Nat) (ha : a < 18446744073709551616) (hb : b < 18446744073709551616) : ACalls Try.prog 12 [fl a, fl b] [] (Ret (bo (decide (placeB a < placeB b)))) := by
  refine acalls_of_awp hT mixed Try.func12 rfl (by kernel_rfl) (by kernel_rfl) (Nat.le_of_ble_eq_true rfl) ?_
  have hNp : ∀ {x : Nat}, nanB x = true → placeB x = 18437736874454810626 := fun h => by simp [placeB, h]
  refine callP (rNaN_ok a ha) rfl rfl ?_
  refine fork (fun na => ?_) (fun na => ?_)
  · refine callP (rNaN_ok a ha) rfl rfl ?_
    refine fork (fun na' => ?_) (fun na' => by rw [na] at na'; cases na')
    refine end0 rfl rfl rfl (congrArg bo (decide_eq_false ?_).symm)
    have := placeB_lt hb
    rw [hNp na]
    omega
  · refine callP (rNaN_ok b hb) rfl rfl ?_
    refine fork (fun nb => ?_) (fun nb => ?_)
    · refine callP (rNaN_ok a ha) rfl rfl ?_
      refine fork (fun na' => by rw [na] at na'; cases na') (fun na' => ?_)
      refine callP (rNaN_ok b hb) rfl rfl ?_
      refine fork (fun nb' => ?_) (fun nb' => by rw [nb] at nb'; cases nb')
      refine end0 rfl rfl rfl (congrArg bo (decide_eq_true ?_).symm)
      have := placeB_lt' ha na
      rw [hNp nb]
      omega
    · have pa := place_sg ha na
      have pb := place_sg hb nb
      have hna := na
      have hnb := nb
      simp only [nanB, decide_eq_false_iff_not] at hna hnb
      refine fork (fun he => ?_) (fun he => ?_)
      · rw [ordr_eq, order_sg na nb] at he
        have he := cmp_eq.1 (by simpa using he)
        have ca := classB_eq a na
        have cb := classB_eq b nb
        refine callP (rClass_ok a ha) rfl rfl ?_
        refine fork (fun h1 => ?_) (fun h1 => ?_)
        · have h1 : classB a = 4 := by simpa using h1
          refine callP (rClass_ok b hb) rfl rfl ?_
          refine fork (fun h2 => ?_) (fun h2 => ?_)
          · have h2 : classB b = 5 := by simpa using h2
            refine end0 rfl rfl rfl (congrArg bo (decide_eq_true ?_).symm)
            rw [h1] at ca
            rw [h2] at cb
            split at ca <;> split at cb <;> (repeat' split at ca) <;> (repeat' split at cb) <;> omega
          · have h2 : ¬ classB b = 5 := by simpa using h2
            refine end0 rfl rfl rfl (congrArg bo (decide_eq_false ?_).symm)
            rw [cb] at h2
            split at h2 <;> (repeat' split at h2) <;> omega
        · have h1 : ¬ classB a = 4 := by simpa using h1
          refine end0 rfl rfl rfl (congrArg bo (decide_eq_false ?_).symm)
          rw [ca] at h1
          split at h1 <;> (repeat' split at h1) <;> omega
      · rw [ordr_eq, order_sg na nb] at he
        have he : ¬ sgB a = sgB b := fun h => by
          rw [cmp_eq.2 h] at he
          cases he
        refine fork (fun hl => ?_) (fun hl => ?_)
        · rw [ordr_eq, order_sg na nb] at hl
          have hl := cmp_lt.1 (by simpa using hl)
          refine end0 rfl rfl rfl (congrArg bo (decide_eq_true ?_).symm)
          omega
        · rw [ordr_eq, order_sg na nb] at hl
          have hl : ¬ sgB a < sgB b := fun h => by
            rw [cmp_lt.2 h] at hl
            cases hl
          refine end0 rfl rfl rfl (congrArg bo (decide_eq_false ?_).symm)
          omega
end Go.Proofs.Ytdjpcmlnhkiokaa.A
