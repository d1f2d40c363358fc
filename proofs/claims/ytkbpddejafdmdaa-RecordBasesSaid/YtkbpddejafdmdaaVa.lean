/- The functions of value that are told by values alone. No condition. -/
import Derived.Test.YtkbpddejafdmdaaNo
namespace Go.Proofs.Ytkbpddejafdmdaa.A
open Go
set_option linter.unusedVariables false
set_option maxRecDepth 100000
set_option pp.maxSteps 1500

/-- A value: is it a number, its text, its bits. -/
def val (n : Bool) (t : ByteArray) (b : Nat) : AV := .agg [bo n, str t, u64 b]
/-- May it be? -/
def rightV (n : Bool) (t : ByteArray) (b : Nat) : Bool := bif n then decide (t.size = 0 ∧ bitsB b = b) else decide (b = 0 ∧ t.size ≤ 64)
theorem strEq_nil (t : ByteArray) : strEq t ⟨#[]⟩ = decide (t.size = 0) := by
  rw [strEq_eq]
  show (t.data.toList == []) = decide (t.data.size = 0)
  rw [Bool.eq_iff_iff, beq_iff_eq, decide_eq_true_eq, ← Array.length_toList]
  exact List.length_eq_zero_iff.symm
theorem vright_ok (n : Bool) (t : ByteArray) (b : Nat) : ACalls Try.prog 61 [val n t b] [] (Ret (bo (rightV n t b))) := by
  cases n
  · refine acalls_of_awp hT mixed Try.func61 rfl (by kernel_rfl) (by kernel_rfl) (Nat.le_of_ble_eq_true rfl) ?_
    refine fork (fun h => ?_) (fun h => ?_)
    · have h : b = 0 := by simpa using h
      refine forkD (fun h2 => ?_) (fun h2 => ?_)
      · refine end0 rfl rfl rfl (congrArg bo ?_)
        exact (decide_eq_true ⟨h, by omega⟩).symm
      · refine end0 rfl rfl rfl (congrArg bo ?_)
        exact (decide_eq_false fun hh => by omega).symm
    · have h : ¬ b = 0 := by simpa using h
      refine end0 rfl rfl rfl (congrArg bo ?_)
      exact (decide_eq_false fun hh => h hh.1).symm
  · refine acalls_of_awp hT mixed Try.func61 rfl (by kernel_rfl) (by kernel_rfl) (Nat.le_of_ble_eq_true rfl) ?_
    refine ⟨[0, 0, 0, 0, 0, 0, 1, 2, 0, 0, 2, 2, 2], [[], [0], [0, 1], [0, 1, 2], [0, 1, 2, 3], [0, 1, 2, 3, 4], [0, 1, 2, 3, 4, 5], [0, 1, 2, 3, 4, 5, 6], [0, 1, 2, 3], [0, 1, 2, 3, 8], [0, 1, 2, 3, 4, 5, 6, 7, 8, 9], [0, 1, 2, 3, 4, 5, 6, 7, 8, 9, 10], [0, 1, 2, 3, 4, 5, 6, 7, 8, 9, 10, 11]], [0, 0, 0, 0, 0, 0, 0, 0, 0, 0, 0, 0, 0], [6, 7], [[1], [5], [6], [7], [1, 8], [9, 8], [10, 8], [11, 8], [1, 8], [13, 8], [12, 14, 8], [8, 15], [16]], Ob.intro (by kernel_rfl) ?_⟩
    refine fork (fun h => ?_) (fun h => ?_)
    · repeat refine same ?_
      refine callP (from_ok b) rfl rfl ?_
      repeat refine same ?_
      refine callP (bits_ok _) rfl rfl ?_
      refine fork (fun h2 => ?_) (fun h2 => ?_)
      · repeat refine same ?_
        refine end0 rfl rfl rfl (congrArg bo ?_)
        rw [strEq_nil] at h
        rw [bitsB_bitsB, beq_iff_eq] at h2
        exact (decide_eq_true ⟨of_decide_eq_true h, by omega⟩).symm
      · repeat refine same ?_
        refine end0 rfl rfl rfl (congrArg bo ?_)
        rw [bitsB_bitsB, beq_eq_false_iff_ne] at h2
        exact (decide_eq_false fun hh => h2 (by rw [hh.2])).symm
    · repeat refine same ?_
      refine end0 rfl rfl rfl (congrArg bo ?_)
      rw [strEq_nil] at h
      exact (decide_eq_false fun hh => of_decide_eq_false h hh.1).symm
end Go.Proofs.Ytkbpddejafdmdaa.A
