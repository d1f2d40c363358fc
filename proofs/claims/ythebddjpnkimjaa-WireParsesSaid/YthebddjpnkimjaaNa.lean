/- The functions of num that are told by values alone. No condition. -/
import Derived.Test.YthebddjpnkimjaaBa
import Derived.Laws.Bits64
namespace Go.Proofs.Ythebddjpnkimjaa.A
open Go
set_option linter.unusedVariables false
set_option maxRecDepth 100000

theorem float64frombits_ok (n : Int) : ACalls Try.prog 51 [u64 n] [] (Ret (fl n.toNat)) := by
  refine ext_calls (e := Extern.MathFloatBits.float64frombits) (show Try.prog.funcs[51]? = some Try.f51 from Try.func51) (by kernel_rfl) rfl (by kernel_rfl) (by kernel_rfl) ?_
  intro X vs hr hv
  obtain ⟨v, rfl, hw⟩ := VL_one hv
  rw [u64, VR_sc_int] at hw
  subst hw
  exact ⟨_, fl n.toNat, rfl, VR_sc_float.2 rfl, rfl, rfl⟩
theorem float64bits_ok (n : Nat) : ACalls Try.prog 57 [fl n] [] (Ret (u64 n)) := by
  refine ext_calls (e := Extern.MathFloatBits.float64bits) (show Try.prog.funcs[57]? = some Try.f57 from Try.func57) (by kernel_rfl) rfl (by kernel_rfl) (by kernel_rfl) ?_
  intro X vs hr hv
  obtain ⟨v, rfl, hw⟩ := VL_one hv
  rw [fl, VR_sc_float] at hw
  subst hw
  exact ⟨_, u64 n, rfl, VR_sc_int.2 rfl, rfl, rfl⟩
/-! ### Words of 64 bits -/
theorem and_sign (b : Nat) (h : b < 18446744073709551616) : IntKind.u64.wrap ((BitVec.ofInt 64 (b : Int) &&& BitVec.ofInt 64 9223372036854775808).toNat : Int) = if 9223372036854775808 ≤ b then 9223372036854775808 else 0 := by
  have e : (BitVec.ofInt 64 (b : Int) &&& BitVec.ofInt 64 9223372036854775808).toNat = if 9223372036854775808 ≤ b then 9223372036854775808 else 0 := by
    have e1 : (BitVec.ofInt 64 (b : Int)).toNat = b := by rw [BitVec.toNat_ofInt]; omega
    have e2 : (BitVec.ofInt 64 (9223372036854775808 : Int)).toNat = 2 ^ 63 := rfl
    rw [BitVec.toNat_and, e1, e2]
    have h63 : b.testBit 63 = decide (9223372036854775808 ≤ b) := by
      rw [Nat.testBit_eq_decide_div_mod_eq]
      congr 1
      apply propext
      omega
    apply Nat.eq_of_testBit_eq
    intro i
    rw [Nat.testBit_and, Nat.testBit_two_pow]
    by_cases hi : 63 = i
    · subst hi
      rw [h63]
      split
      · rename_i hb
        simp only [hb, decide_true, Bool.true_and]
        rfl
      · rename_i hb
        simp [hb]
    · simp only [hi, decide_false, Bool.and_false]
      split
      · rw [show 9223372036854775808 = 2 ^ 63 from rfl, Nat.testBit_two_pow]
        simp [hi]
      · simp
  rw [e]
  split <;> rfl
theorem andNot_sign (b : Nat) (h : b < 18446744073709551616) : IntKind.u64.wrap ((BitVec.ofInt 64 (b : Int) &&& ~~~ BitVec.ofInt 64 9223372036854775808).toNat : Int) = ((b % 9223372036854775808 : Nat) : Int) := by
  have e : (BitVec.ofInt 64 (b : Int) &&& ~~~ BitVec.ofInt 64 9223372036854775808).toNat = b % 9223372036854775808 := by
    have e1 : (BitVec.ofInt 64 (b : Int)).toNat = b := by rw [BitVec.toNat_ofInt]; omega
    have e2 : (~~~ BitVec.ofInt 64 (9223372036854775808 : Int)).toNat = 2 ^ 63 - 1 := rfl
    rw [BitVec.toNat_and, e1, e2, Nat.and_two_pow_sub_one_eq_mod]
  rw [e, IntKind.wrap_u64]
  omega
end Go.Proofs.Ythebddjpnkimjaa.A
