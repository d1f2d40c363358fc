/- The functions of value: made, packed. No condition. -/
import Derived.Test.YtihjhigckomapaaVa
namespace Go.Proofs.Ytihjhigckomapaa.A
open Go
set_option linter.unusedVariables false
set_option maxRecDepth 100000
set_option pp.maxSteps 1500

theorem rRight_ok (n : Bool) (t : ByteArray) (b : Nat) (hb : b < 18446744073709551616) : ACalls Try.prog 27 [val n t b] [] (Ret (bo (rightV n t b))) := by
  cases n
  · refine acalls_of_awp hT mixed Try.func27 rfl (by kernel_rfl) (by kernel_rfl) (Nat.le_of_ble_eq_true rfl) ?_
    refine fork (fun h => ?_) (fun h => ?_)
    · have h : b = 0 := by simpa using h
      refine forkD (fun h2 => ?_) (fun h2 => ?_)
      · refine end0 rfl rfl rfl (congrArg bo ?_)
        exact (decide_eq_true ⟨h, by omega⟩).symm
      · refine end0 rfl rfl rfl (congrArg bo ?_)
        exact (decide_eq_false fun hh => by omega).symm
    · have h : ¬ b = 0 := by simpa using h
      refine end0 rfl rfl rfl (congrArg bo ?_)
      exact (decide_eq_false fun hh => h hh.1).symm
  · refine acalls_of_awp hT mixed Try.func27 rfl (by kernel_rfl) (by kernel_rfl) (Nat.le_of_ble_eq_true rfl) ?_
    refine ⟨[0, 0, 0, 0, 0, 0, 0, 1, 2, 0, 0, 2, 2, 2], [[], [0], [0, 1], [0, 1, 2], [0, 1, 2, 3], [0, 1, 2, 3, 4], [0, 1, 2, 3, 4, 5], [0, 1, 2, 3, 4, 5, 6], [0, 1, 2, 3, 4, 5, 6, 7], [0, 1, 2, 3, 4], [0, 1, 2, 3, 4, 9], [0, 1, 2, 3, 4, 5, 6, 7, 8, 9, 10], [0, 1, 2, 3, 4, 5, 6, 7, 8, 9, 10, 11], [0, 1, 2, 3, 4, 5, 6, 7, 8, 9, 10, 11, 12]], [0, 0, 0, 0, 0, 0, 0, 0, 0, 0, 0, 0, 0, 0], [7, 8], [[1], [15], [16], [17], [18], [1, 19], [20, 19], [21, 19], [22, 19], [1, 19], [24, 19], [23, 25, 19], [19, 26], [27]], Ob.intro (by kernel_rfl) ?_⟩
    refine fork (fun h => ?_) (fun h => ?_)
    · have h : t.size = 0 := by
        have := beq_iff_eq.1 h
        omega
      repeat refine same ?_
      refine callP (float64frombits_ok b) rfl rfl ?_
      repeat refine same ?_
      refine callP (rBits_ok b hb) rfl rfl ?_
      refine fork (fun h2 => ?_) (fun h2 => ?_)
      · repeat refine same ?_
        refine end0 rfl rfl rfl (congrArg bo ?_)
        rw [beq_iff_eq] at h2
        exact (decide_eq_true ⟨h, by omega⟩).symm
      · repeat refine same ?_
        refine end0 rfl rfl rfl (congrArg bo ?_)
        rw [beq_eq_false_iff_ne] at h2
        exact (decide_eq_false fun hh => h2 (by rw [hh.2])).symm
    · have h : ¬ t.size = 0 := by
        have := beq_eq_false_iff_ne.1 h
        omega
      repeat refine same ?_
      refine end0 rfl rfl rfl (congrArg bo ?_)
      exact (decide_eq_false fun hh => h hh.1).symm
def nilT : ByteArray := ⟨#[]⟩
theorem float_ok (n : Bool) (t : ByteArray) (b : Nat) : ACalls Try.prog 26 [val n t b] [] (Ret (if (n && rightV n t b) = true then .tup [fl (bitsB b), i64 0] else .tup [fl 0, i64 1])) := by
  cases n
  · refine acalls_of_awp hT mixed Try.func26 rfl (by kernel_rfl) (by kernel_rfl) (Nat.le_of_ble_eq_true rfl) ?_
    refine end0 rfl rfl rfl rfl
  · refine acalls_of_awp hT mixed Try.func26 rfl (by kernel_rfl) (by kernel_rfl) (Nat.le_of_ble_eq_true rfl) ?_
    refine callP (right_ok true t b) rfl rfl ?_
    refine fork (fun h => ?_) (fun h => ?_)
    · refine callP (from_ok b) rfl rfl ?_
      refine end0 rfl rfl rfl ?_
      rw [if_pos (by rw [h]; rfl)]
      rfl
    · refine end0 rfl rfl rfl ?_
      rw [if_neg (by rw [h]; decide)]
      rfl
/-- Its bytes. -/
def packV (n : Bool) (t : ByteArray) (b : Nat) : ByteArray := bif n then ⟨#[1]⟩ ++ ⟨(keyL (placeB b)).toArray⟩ else ⟨#[0]⟩ ++ t
theorem right_bits {t : ByteArray} {b : Nat} (h : rightV true t b = true) : t.size = 0 ∧ bitsB b = b := of_decide_eq_true h
theorem right_text {t : ByteArray} {b : Nat} (h : rightV false t b = true) : b = 0 ∧ t.size ≤ 64 := of_decide_eq_true h
end Go.Proofs.Ytihjhigckomapaa.A
