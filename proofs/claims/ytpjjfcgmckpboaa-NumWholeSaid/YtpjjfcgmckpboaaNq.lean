/- The law NumOrder, by the functions that it calls. No condition. -/
import Derived.Test.YtpjjfcgmckpboaaNp
namespace Go.Proofs.Ytpjjfcgmckpboaa.A
open Go
set_option linter.unusedVariables false
set_option maxRecDepth 100000
set_option pp.maxSteps 1500

theorem numOrder_ok (n p : Int) (h : 0 ≤ n ∧ n < 18446744073709551616) (hp : 0 ≤ p ∧ p < 18446744073709551616) : ACalls Try.prog 5 [u64 n, u64 p] [] (Ret (bo true)) := by
  obtain ⟨b, rfl⟩ : ∃ b : Nat, n = b := ⟨n.toNat, by omega⟩
  obtain ⟨q, rfl⟩ : ∃ q : Nat, p = q := ⟨p.toNat, by omega⟩
  have hb : b < 18446744073709551616 := by omega
  have hq : q < 18446744073709551616 := by omega
  have pb := placeB_lt hb
  have pq := placeB_lt hq
  have hkl := keyLt (p := placeB b) (q := placeB q) (by omega) (by omega)
  have hke := keyEq (p := placeB b) (q := placeB q) (by omega) (by omega)
  refine acalls_of_awp hT mixed Try.func5 rfl (by kernel_rfl) (by kernel_rfl) (Nat.le_of_ble_eq_true rfl) ?_
  refine callP awake_ok rfl rfl ?_
  refine callP (float64frombits_ok b) rfl rfl ?_
  refine callP (float64frombits_ok q) rfl rfl ?_
  have hsame : ((bitsB b : Int) == bitsB q) = decide (placeB b = placeB q) := by
    rw [Bool.eq_iff_iff, beq_iff_eq, decide_eq_true_eq, placeB_inj hb hq]
    omega
  refine callP (less_ok b q hb hq) rfl rfl ?_
  refine forkD (fun g1 => ?_) (fun g1 => ?_)
  · refine callP (less_ok q b hq hb) rfl rfl ?_
    refine forkD (fun g2 => by omega) (fun g2 => ?_)
    refine callP (key_ok b hb) rfl rfl ?_
    refine callP (key_ok q hq) rfl rfl ?_
    refine fork (fun g3 => ?_) (fun g3 => by rw [hkl, decide_eq_true g1] at g3; cases g3)
    refine callP (key_ok b hb) rfl rfl ?_
    refine callP (key_ok q hq) rfl rfl ?_
    refine fork (fun g4 => by rw [hkl, decide_eq_true g1] at g4; cases g4) (fun g4 => ?_)
    refine callP (order_ok b q hb hq) rfl rfl ?_
    have hc : cmpI (placeB b) (placeB q) = -1 := by simp only [cmpI]; rw [if_pos g1]
    refine fork (fun g5 => ?_) (fun g5 => by rw [hc] at g5; cases g5)
    refine callP (same_ok b q) rfl rfl ?_
    refine fork (fun g6 => ?_) (fun g6 => ?_)
    · exfalso
      rw [hsame] at g6
      have := of_decide_eq_true g6
      omega
    · refine end0 rfl rfl rfl rfl
  · refine callP (less_ok q b hq hb) rfl rfl ?_
    refine forkD (fun g2 => ?_) (fun g2 => ?_)
    · refine callP (key_ok b hb) rfl rfl ?_
      refine callP (key_ok q hq) rfl rfl ?_
      refine fork (fun g3 => by rw [hkl, decide_eq_false g1] at g3; cases g3) (fun g3 => ?_)
      refine callP (key_ok b hb) rfl rfl ?_
      refine callP (key_ok q hq) rfl rfl ?_
      refine fork (fun g4 => ?_) (fun g4 => by rw [hkl, hke, decide_eq_false g1, decide_eq_false (show ¬ placeB b = placeB q by omega)] at g4; cases g4)
      refine callP (order_ok b q hb hq) rfl rfl ?_
      have hc : cmpI (placeB b) (placeB q) = 1 := by simp only [cmpI]; rw [if_neg g1, if_pos g2]
      refine fork (fun g5 => ?_) (fun g5 => by rw [hc] at g5; cases g5)
      refine callP (same_ok b q) rfl rfl ?_
      refine fork (fun g6 => ?_) (fun g6 => ?_)
      · exfalso
        rw [hsame] at g6
        have := of_decide_eq_true g6
        omega
      · refine end0 rfl rfl rfl rfl
    · have he : placeB b = placeB q := by omega
      refine callP (key_ok b hb) rfl rfl ?_
      refine callP (key_ok q hq) rfl rfl ?_
      refine fork (fun g3 => by rw [hkl, decide_eq_false g1] at g3; cases g3) (fun g3 => ?_)
      refine callP (key_ok b hb) rfl rfl ?_
      refine callP (key_ok q hq) rfl rfl ?_
      refine fork (fun g4 => by rw [hkl, hke, decide_eq_false g1, decide_eq_true he] at g4; cases g4) (fun g4 => ?_)
      refine callP (order_ok b q hb hq) rfl rfl ?_
      have hc : cmpI (placeB b) (placeB q) = 0 := by simp only [cmpI]; rw [if_neg g1, if_neg g2]
      refine fork (fun g5 => ?_) (fun g5 => by rw [hc] at g5; cases g5)
      refine callP (same_ok b q) rfl rfl ?_
      refine fork (fun g6 => ?_) (fun g6 => ?_)
      · refine end0 rfl rfl rfl rfl
      · exfalso
        rw [hsame] at g6
        have := of_decide_eq_false g6
        omega
end Go.Proofs.Ytpjjfcgmckpboaa.A
