/- The functions of value: made, packed. No condition. -/
import Derived.Test.YtkbpddejafdmdaaVa
namespace Go.Proofs.Ytkbpddejafdmdaa.A
open Go
set_option linter.unusedVariables false
set_option maxRecDepth 100000
set_option pp.maxSteps 1500

theorem rvRight_ok (n : Bool) (t : ByteArray) (b : Nat) (hb : b < 18446744073709551616) : ACalls Try.prog 42 [val n t b] [] (Ret (bo (rightV n t b))) := by
  cases n
  · refine acalls_of_awp hT mixed Try.func42 rfl (by kernel_rfl) (by kernel_rfl) (Nat.le_of_ble_eq_true rfl) ?_
    refine fork (fun h => ?_) (fun h => ?_)
    · have h : b = 0 := by simpa using h
      refine forkD (fun h2 => ?_) (fun h2 => ?_)
      · refine end0 rfl rfl rfl (congrArg bo ?_)
        exact (decide_eq_true ⟨h, by omega⟩).symm
      · refine end0 rfl rfl rfl (congrArg bo ?_)
        exact (decide_eq_false fun hh => by omega).symm
    · have h : ¬ b = 0 := by simpa using h
      refine end0 rfl rfl rfl (congrArg bo ?_)
      exact (decide_eq_false fun hh => h hh.1).symm
  · refine acalls_of_awp hT mixed Try.func42 rfl (by kernel_rfl) (by kernel_rfl) (Nat.le_of_ble_eq_true rfl) ?_
    refine ⟨[0, 0, 0, 0, 0, 0, 0, 1, 2, 0, 0, 2, 2, 2], [[], [0], [0, 1], [0, 1, 2], [0, 1, 2, 3], [0, 1, 2, 3, 4], [0, 1, 2, 3, 4, 5], [0, 1, 2, 3, 4, 5, 6], [0, 1, 2, 3, 4, 5, 6, 7], [0, 1, 2, 3, 4], [0, 1, 2, 3, 4, 9], [0, 1, 2, 3, 4, 5, 6, 7, 8, 9, 10], [0, 1, 2, 3, 4, 5, 6, 7, 8, 9, 10, 11], [0, 1, 2, 3, 4, 5, 6, 7, 8, 9, 10, 11, 12]], [0, 0, 0, 0, 0, 0, 0, 0, 0, 0, 0, 0, 0, 0], [7, 8], [[1], [15], [16], [17], [18], [1, 19], [20, 19], [21, 19], [22, 19], [1, 19], [24, 19], [23, 25, 19], [19, 26], [27]], Ob.intro (by kernel_rfl) ?_⟩
    refine fork (fun h => ?_) (fun h => ?_)
    · have h : t.size = 0 := by
        have := beq_iff_eq.1 h
        omega
      repeat refine same ?_
      refine callP (float64frombits_ok b) rfl rfl ?_
      repeat refine same ?_
      refine callP (rBits_ok b hb) rfl rfl ?_
      refine fork (fun h2 => ?_) (fun h2 => ?_)
      · repeat refine same ?_
        refine end0 rfl rfl rfl (congrArg bo ?_)
        rw [beq_iff_eq] at h2
        exact (decide_eq_true ⟨h, by omega⟩).symm
      · repeat refine same ?_
        refine end0 rfl rfl rfl (congrArg bo ?_)
        rw [beq_eq_false_iff_ne] at h2
        exact (decide_eq_false fun hh => h2 (by rw [hh.2])).symm
    · have h : ¬ t.size = 0 := by
        have := beq_eq_false_iff_ne.1 h
        omega
      repeat refine same ?_
      refine end0 rfl rfl rfl (congrArg bo ?_)
      exact (decide_eq_false fun hh => h hh.1).symm
def nilT : ByteArray := ⟨#[]⟩
theorem vnumber_ok (b : Nat) : ACalls Try.prog 102 [fl b] [] (Ret (val true nilT (bitsB b))) := by
  refine acalls_of_awp hT mixed Try.func102 rfl (by kernel_rfl) (by kernel_rfl) (Nat.le_of_ble_eq_true rfl) ?_
  refine callP (bits_ok b) rfl rfl ?_
  refine end0 rfl rfl rfl rfl
/-- Its bytes. -/
def packV (n : Bool) (t : ByteArray) (b : Nat) : ByteArray := bif n then ⟨#[1]⟩ ++ ⟨(keyL (placeB b)).toArray⟩ else ⟨#[0]⟩ ++ t
theorem right_bits {t : ByteArray} {b : Nat} (h : rightV true t b = true) : t.size = 0 ∧ bitsB b = b := of_decide_eq_true h
theorem right_text {t : ByteArray} {b : Nat} (h : rightV false t b = true) : b = 0 ∧ t.size ≤ 64 := of_decide_eq_true h
theorem pack_ok (n : Bool) (t : ByteArray) (b : Nat) (hb : b < 18446744073709551616) : ACalls Try.prog 62 [val n t b] [] (Ret (if rightV n t b = true then .tup [str (packV n t b), i64 0] else .tup [str nilT, i64 1])) := by
  cases n
  · refine acalls_of_awp hT mixed Try.func62 rfl (by kernel_rfl) (by kernel_rfl) (Nat.le_of_ble_eq_true rfl) ?_
    refine callP (vright_ok false t b) rfl rfl ?_
    refine fork (fun h => ?_) (fun h => ?_)
    · have hr := right_text h
      refine Ob.intro (show (ByteArray.size ⟨#[0]⟩) + t.size ≤ 9223372036854775807 from ?_) ?_
      · have : ByteArray.size ⟨#[0]⟩ = 1 := rfl
        omega
      refine end0 rfl rfl rfl ?_
      rw [if_pos h]
      rfl
    · refine end0 rfl rfl rfl ?_
      rw [if_neg (by rw [h]; decide)]
      rfl
  · refine acalls_of_awp hT mixed Try.func62 rfl (by kernel_rfl) (by kernel_rfl) (Nat.le_of_ble_eq_true rfl) ?_
    refine callP (vright_ok true t b) rfl rfl ?_
    refine fork (fun h => ?_) (fun h => ?_)
    · have hr := right_bits h
      refine callP (from_ok b) rfl rfl ?_
      refine callP (key_ok _ (bitsB_lt hb)) rfl rfl ?_
      refine Ob.intro (show (ByteArray.size ⟨#[1]⟩) + (ByteArray.size ⟨(keyL (placeB (bitsB b))).toArray⟩) ≤ 9223372036854775807 from ?_) ?_
      · show 1 + 8 ≤ _
        decide
      refine end0 rfl rfl rfl ?_
      rw [if_pos h, hr.2]
      rfl
    · refine end0 rfl rfl rfl ?_
      rw [if_neg (by rw [h]; decide)]
      rfl
theorem rPack_ok (n : Bool) (t : ByteArray) (b : Nat) (hb : b < 18446744073709551616) (ht : t.size ≤ 9223372036854775806) : ACalls Try.prog 45 [val n t b] [] (Ret (str (packV n t b))) := by
  cases n
  · refine acalls_of_awp hT mixed Try.func45 rfl (by kernel_rfl) (by kernel_rfl) (Nat.le_of_ble_eq_true rfl) ?_
    refine Ob.intro (show (ByteArray.size ⟨#[0]⟩) + t.size ≤ 9223372036854775807 from ?_) ?_
    · have : ByteArray.size ⟨#[0]⟩ = 1 := rfl
      omega
    refine end0 rfl rfl rfl rfl
  · refine acalls_of_awp hT mixed Try.func45 rfl (by kernel_rfl) (by kernel_rfl) (Nat.le_of_ble_eq_true rfl) ?_
    refine ⟨[0, 0, 0, 0, 1, 2, 2, 2], [[], [0], [], [2], [2, 3], [2, 3, 4], [0, 1, 2, 3, 4, 5], [0, 1, 2, 3, 4, 5, 6]], [0, 1, 1, 1, 1, 1, 1, 1], [4, 5], [[], [5], [1], [7], [8], [9], [6, 10], [11]], Ob.intro (by kernel_rfl) ?_⟩
    repeat refine same ?_
    refine callP (float64frombits_ok b) rfl rfl ?_
    repeat refine same ?_
    refine callP (rKey_ok b hb) rfl rfl ?_
    refine Ob.intro (show (ByteArray.size ⟨#[1]⟩) + (ByteArray.size ⟨(keyL (placeB b)).toArray⟩) ≤ 9223372036854775807 from ?_) ?_
    · show 1 + 8 ≤ _
      decide
    repeat refine same ?_
    refine end0 rfl rfl rfl rfl
end Go.Proofs.Ytkbpddejafdmdaa.A
