/- The law NumBits, by the functions that it calls. No condition. -/
import Derived.Test.YthebddjpnkimjaaNe
namespace Go.Proofs.Ythebddjpnkimjaa.A
open Go
set_option linter.unusedVariables false
set_option maxRecDepth 100000
set_option pp.maxSteps 1500

theorem atB_place {b : Nat} (hb : b < 18446744073709551616) : atB (placeB b) = bitsB b := by
  unfold atB placeB bitsB
  cases hn : nanB b
  · simp only [nanB, decide_eq_false_iff_not] at hn
    simp only [Bool.false_eq_true, if_false]
    split
    · rw [if_neg (by omega), if_neg (by omega), if_neg (by omega)]
      omega
    · rw [if_neg (by omega), if_neg (by omega), if_pos (by omega)]
      omega
  · simp
theorem atE_place {b : Nat} (hb : b < 18446744073709551616) : atE (placeB b) = 0 := by
  have := placeB_lt hb
  simp only [atE]
  rw [if_neg (by omega)]
theorem bitsB_bitsB (b : Nat) : bitsB (bitsB b) = bitsB b := by
  unfold bitsB
  cases hn : nanB b
  · simp [hn]
  · simp [nanB]
end Go.Proofs.Ythebddjpnkimjaa.A
