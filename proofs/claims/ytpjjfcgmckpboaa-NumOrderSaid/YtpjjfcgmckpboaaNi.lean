/- The next number. No condition. -/
import Derived.Test.YtpjjfcgmckpboaaNh
namespace Go.Proofs.Ytpjjfcgmckpboaa.A
open Go
set_option linter.unusedVariables false
set_option maxRecDepth 100000
set_option pp.maxSteps 1500

theorem placeB_lt' {b : Nat} (hb : b < 18446744073709551616) (hn : nanB b = false) : placeB b ≤ 18437736874454810625 := by
  simp only [placeB, hn, Bool.false_eq_true, if_false]
  simp only [nanB, decide_eq_false_iff_not] at hn
  split <;> omega
theorem next_ok (b : Nat) (hb : b < 18446744073709551616) : ACalls Try.prog 20 [fl b] [] (Ret (if nanB b = true then .tup [fl 0, i64 7] else .tup [fl (atB (placeB b + 1)), i64 0])) := by
  refine acalls_of_awp hT mixed Try.func20 rfl (by kernel_rfl) (by kernel_rfl) (Nat.le_of_ble_eq_true rfl) ?_
  refine callP (isNaN_ok b) rfl rfl ?_
  refine fork (fun h => ?_) (fun h => ?_)
  · refine end0 rfl rfl rfl ?_
    rw [if_pos h]
    rfl
  · have hp := placeB_lt' hb h
    refine callP (place_ok b hb) rfl rfl ?_
    have e1 : wrp .u64 ((placeB b : Int) + 1) = ((placeB b + 1 : Nat) : Int) := by rw [wrpE, wu64]; omega
    have hat := at_ok (placeB b + 1) (by omega)
    rw [← e1] at hat
    refine callP hat rfl rfl ?_
    refine end0 rfl rfl rfl ?_
    rw [if_neg (by rw [h]; decide)]
    have : atE (placeB b + 1) = 0 := by simp only [atE]; rw [if_neg (by omega)]
    rw [← this]
    rfl
end Go.Proofs.Ytpjjfcgmckpboaa.A
