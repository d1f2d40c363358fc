/- The law NumNext, by the functions that it calls. No condition. -/
import Derived.Test.YtpjjfcgmckpboaaNm
namespace Go.Proofs.Ytpjjfcgmckpboaa.A
open Go
set_option linter.unusedVariables false
set_option maxRecDepth 100000
set_option pp.maxSteps 1500

theorem numNext_ok (n p : Int) (h : 0 ≤ n ∧ n < 18446744073709551616) (hp : 0 ≤ p ∧ p < 18446744073709551616) : ACalls Try.prog 4 [u64 n, u64 p] [] (Ret (bo true)) := by
  obtain ⟨b, rfl⟩ : ∃ b : Nat, n = b := ⟨n.toNat, by omega⟩
  obtain ⟨q, rfl⟩ : ∃ q : Nat, p = q := ⟨p.toNat, by omega⟩
  have hb : b < 18446744073709551616 := by omega
  have hq : q < 18446744073709551616 := by omega
  refine acalls_of_awp hT mixed Try.func4 rfl (by kernel_rfl) (by kernel_rfl) (Nat.le_of_ble_eq_true rfl) ?_
  refine callP awake_ok rfl rfl ?_
  refine callP (float64frombits_ok b) rfl rfl ?_
  have tail : ∀ (x : Prop), x → x := fun _ h => h
  have hnx := next_ok b hb
  have h00 : (ordr .f64 0 0 == some .eq) = true := by rw [ordr_eq]; decide
  have hA := at_ok q hq
  have hR := rAt_ok q hq
  cases hn : nanB b with
  | true =>
    rw [hn, if_pos rfl] at hnx
    refine callP hnx rfl rfl ?_
    refine callP (rNaN_ok b hb) rfl rfl ?_
    refine fork (fun _ => ?_) (fun g => by rw [hn] at g; cases g)
    refine fork (fun g => ?_) (fun g => ?_)
    · exfalso
      rw [ordr_eq] at g
      revert g
      decide
    refine callP hA rfl rfl ?_
    refine callP hR rfl rfl ?_
    refine fork (fun g => ?_) (fun g => ?_)
    · have g1 := of_decide_eq_true g
      have hE : atE q = 0 := by simp only [atE]; rw [if_neg (by omega)]
      refine fork (fun g2 => ?_) (fun g2 => by rw [hE] at g2; cases g2)
      refine callP (float64bits_ok _) rfl rfl ?_
      refine callP (float64bits_ok _) rfl rfl ?_
      refine fork (fun g3 => ?_) (fun g3 => by simp at g3)
      refine end0 rfl rfl rfl rfl
    · have g1 := of_decide_eq_false g
      have hE : atE q = 1 := by simp only [atE]; rw [if_pos (by omega)]
      have hB : atB q = 0 := by simp only [atB]; rw [if_pos (by omega)]
      refine fork (fun g2 => ?_) (fun g2 => by rw [hB, h00] at g2; cases g2)
      refine fork (fun g3 => ?_) (fun g3 => by rw [hE] at g3; cases g3)
      refine end0 rfl rfl rfl rfl
  | false =>
    rw [hn, if_neg (by decide)] at hnx
    have hpl := placeB_lt' hb hn
    have hp1 : placeB (atB (placeB b + 1)) = placeB b + 1 := placeB_atB (by omega)
    have hl1 := atB_lt (placeB b + 1) (by omega)
    refine callP hnx rfl rfl ?_
    refine callP (rNaN_ok b hb) rfl rfl ?_
    refine fork (fun g => by rw [hn] at g; cases g) (fun _ => ?_)
    refine callP (rPlace_ok _ hl1) rfl rfl ?_
    refine callP (rPlace_ok b hb) rfl rfl ?_
    refine fork (fun g => ?_) (fun g => ?_)
    · exfalso
      have e1 : wrp .u64 ((placeB b : Int) + 1) = ((placeB b + 1 : Nat) : Int) := by rw [wrpE, wu64]; omega
      rw [hp1, e1] at g
      simp at g
    refine callP (less_ok b _ hb hl1) rfl rfl ?_
    refine fork (fun g2 => ?_) (fun g2 => ?_)
    rotate_left
    · exfalso
      have := of_decide_eq_false g2
      rw [hp1] at this
      omega
    refine callP hA rfl rfl ?_
    refine callP hR rfl rfl ?_
    refine fork (fun g => ?_) (fun g => ?_)
    · have g1 := of_decide_eq_true g
      have hE : atE q = 0 := by simp only [atE]; rw [if_neg (by omega)]
      refine fork (fun g2 => ?_) (fun g2 => by rw [hE] at g2; cases g2)
      refine callP (float64bits_ok _) rfl rfl ?_
      refine callP (float64bits_ok _) rfl rfl ?_
      refine fork (fun g3 => ?_) (fun g3 => by simp at g3)
      refine end0 rfl rfl rfl rfl
    · have g1 := of_decide_eq_false g
      have hE : atE q = 1 := by simp only [atE]; rw [if_pos (by omega)]
      have hB : atB q = 0 := by simp only [atB]; rw [if_pos (by omega)]
      refine fork (fun g2 => ?_) (fun g2 => by rw [hB, h00] at g2; cases g2)
      refine fork (fun g3 => ?_) (fun g3 => by rw [hE] at g3; cases g3)
      refine end0 rfl rfl rfl rfl
end Go.Proofs.Ytpjjfcgmckpboaa.A
