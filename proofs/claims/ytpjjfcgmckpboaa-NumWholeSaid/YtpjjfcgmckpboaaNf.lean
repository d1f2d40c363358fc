/- The law NumBits, by the functions that it calls. No condition. -/
import Derived.Test.YtpjjfcgmckpboaaNe
namespace Go.Proofs.Ytpjjfcgmckpboaa.A
open Go
set_option linter.unusedVariables false
set_option maxRecDepth 100000
set_option pp.maxSteps 1500

theorem atB_place {b : Nat} (hb : b < 18446744073709551616) : atB (placeB b) = bitsB b := by
  unfold atB placeB bitsB
  cases hn : nanB b
  · simp only [nanB, decide_eq_false_iff_not] at hn
    simp only [Bool.false_eq_true, if_false]
    split
    · rw [if_neg (by omega), if_neg (by omega), if_neg (by omega)]
      omega
    · rw [if_neg (by omega), if_neg (by omega), if_pos (by omega)]
      omega
  · simp
theorem atE_place {b : Nat} (hb : b < 18446744073709551616) : atE (placeB b) = 0 := by
  have := placeB_lt hb
  simp only [atE]
  rw [if_neg (by omega)]
theorem bitsB_bitsB (b : Nat) : bitsB (bitsB b) = bitsB b := by
  unfold bitsB
  cases hn : nanB b
  · simp [hn]
  · simp [nanB]
theorem numBits_ok (n : Int) (h : 0 ≤ n ∧ n < 18446744073709551616) : ACalls Try.prog 3 [u64 n] [] (Ret (bo true)) := by
  obtain ⟨b, rfl⟩ : ∃ b : Nat, n = b := ⟨n.toNat, by omega⟩
  have hb : b < 18446744073709551616 := by omega
  have e0 : Int.toNat (b : Int) = b := rfl
  refine acalls_of_awp hT mixed Try.func3 rfl (by kernel_rfl) (by kernel_rfl) (Nat.le_of_ble_eq_true rfl) ?_
  refine callP awake_ok rfl rfl ?_
  refine callP (float64frombits_ok b) rfl rfl ?_
  refine callP (rBits_ok b hb) rfl rfl ?_
  refine callP (place_ok b hb) rfl rfl ?_
  refine callP (at_ok _ (Nat.lt_of_le_of_lt (placeB_lt hb) (by decide))) rfl rfl ?_
  refine callP (class_ok b hb) rfl rfl ?_
  refine callP (rClass_ok b hb) rfl rfl ?_
  refine fork (fun h1 => ?_) (fun h1 => by simp at h1)
  refine callP (bits_ok b) rfl rfl ?_
  refine fork (fun h1 => ?_) (fun h1 => by simp at h1)
  refine callP (place_ok b hb) rfl rfl ?_
  refine callP (rPlace_ok b hb) rfl rfl ?_
  refine fork (fun h1 => ?_) (fun h1 => by simp at h1)
  refine fork (fun h1 => ?_) (fun h1 => by rw [atE_place hb] at h1; cases h1)
  refine callP (bits_ok _) rfl rfl ?_
  refine fork (fun h1 => ?_) (fun h1 => by rw [atB_place hb, bitsB_bitsB] at h1; simp at h1)
  refine callP (from_ok b) rfl rfl ?_
  refine callP (float64bits_ok _) rfl rfl ?_
  refine fork (fun h1 => ?_) (fun h1 => by simp at h1)
  refine callP (same_ok b _) rfl rfl ?_
  refine fork (fun h1 => ?_) (fun h1 => by rw [atB_place hb, bitsB_bitsB] at h1; simp at h1)
  refine end0 rfl rfl rfl rfl
end Go.Proofs.Ytpjjfcgmckpboaa.A
