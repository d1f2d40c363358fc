/- sector: the chapter's example; one sector for one stamp. No condition. -/
import Derived.Test.YtipinhlfajmghaaDoorYf
namespace Go.Proofs.YtipinhlfajmghaaDoor.A
open Go
set_option linter.unusedVariables false
set_option maxRecDepth 100000
set_option pp.maxSteps 1500

def countP (n : Int) : Int := if n < 0 then 0 else if n ≤ 50 then 1 else (n - 1) / 50 + 1
theorem count_ok (n : Int) (h0 : -9223372036854775808 ≤ n) (h1 : n ≤ 9223372036854775807) : ACalls Tryd.prog 13 [i64 n] [] (Ret (i64 (countP n))) := by
  refine acalls_of_awp hT mixed Tryd.func13 rfl (by kernel_rfl) (by kernel_rfl) (Nat.le_of_ble_eq_true rfl) ?_
  refine forkD (fun h => ?_) (fun h => ?_)
  · refine end0 rfl rfl rfl (congrArg i64 ?_)
    rw [countP, if_pos h]
  · refine Ob.intro (by decide) ?_
    refine end0 rfl rfl rfl (congrArg i64 ?_)
    show (if wrp .i64 (wrp .i64 ((wrp .i64 (n - 1)).tdiv 50) + 1) > 1 then wrp .i64 (wrp .i64 ((wrp .i64 (n - 1)).tdiv 50) + 1) else 1) = _
    rw [countP, if_neg h]
    have e1 : wrp .i64 (n - 1) = n - 1 := by rw [wrpE, wi64]; omega
    rw [e1]
    by_cases h2 : n ≤ 50
    · rw [if_pos h2]
      have e2 : (n - 1).tdiv 50 = 0 := by
        rcases Int.lt_or_le (n - 1) 0 with h3 | h3
        · have : n - 1 = -1 := by omega
          rw [this]
          rfl
        · rw [Int.tdiv_eq_ediv_of_nonneg h3]
          omega
      rw [e2]
      have e3 : wrp .i64 (0 : Int) = 0 := by rw [wrpE, wi64]; omega
      rw [e3]
      have e4 : wrp .i64 ((0 : Int) + 1) = 1 := by rw [wrpE, wi64]; omega
      rw [e4]
      rfl
    · rw [if_neg h2, Int.tdiv_eq_ediv_of_nonneg (by omega)]
      have e3 : wrp .i64 ((n - 1) / 50) = (n - 1) / 50 := by rw [wrpE, wi64]; omega
      rw [e3]
      have e4 : wrp .i64 ((n - 1) / 50 + 1) = (n - 1) / 50 + 1 := by rw [wrpE, wi64]; omega
      rw [e4, if_pos (by omega)]
theorem packS_size (g ix l p n : Nat) (d : ByteArray) (hd : d.size ≤ 50) : (packS g ix l p n d).size = 64 := by
  show ((packL g ix l p n d).map UInt8.ofNat).toArray.size = 64
  unfold packL headL
  simp only [List.size_toArray, List.length_map, List.length_append, beL_len, byL_len, List.length_replicate, List.length_cons, List.length_nil]
  omega
theorem awakeY_ok : ACalls Tryd.prog 6 [] [] (Ret (bo true)) := by
  have hp := pack_ok 1 0 1 0 1 ⟨#[120]⟩ (by decide) (by decide)
  have hs := packS_size 1 0 1 0 1 ⟨#[120]⟩ (by decide)
  have c1 := count_ok 51 (by decide) (by decide)
  have c2 := count_ok 0 (by decide) (by decide)
  rw [show countP 51 = 2 from rfl] at c1
  rw [show countP 0 = 1 from rfl] at c2
  generalize packS 1 0 1 0 1 ⟨#[120]⟩ = z at *
  refine acalls_of_awp hT mixed Tryd.func6 rfl (by kernel_rfl) (by kernel_rfl) (Nat.le_of_ble_eq_true rfl) ?_
  refine callP hp rfl rfl ?_
  refine callP c1 rfl rfl ?_
  refine callP c2 rfl rfl ?_
  refine fork (fun q => ?_) (fun q => absurd q (by rw [hs]; decide))
  refine end0 rfl rfl rfl rfl
end Go.Proofs.YtipinhlfajmghaaDoor.A
