/- The functions of agg: tallies. No condition. -/
import Derived.Test.YtdjpcmlnhkiokaaGa
namespace Go.Proofs.Ytdjpcmlnhkiokaa.A
open Go
set_option linter.unusedVariables false
set_option maxRecDepth 100000
set_option pp.maxSteps 1500

def nanW : Nat := 9221120237041090561
def bitsO : Option Nat → Nat
  | none => nanW
  | some b => bitsB b
theorem isNaN_nan : ACalls Try.prog 29 [.nan .f64] [] (Ret (bo true)) := by
  refine acalls_of_awp hT mixed Try.func29 rfl (by kernel_rfl) (by kernel_rfl) (Nat.le_of_ble_eq_true rfl) ?_
  refine end0 rfl rfl rfl rfl
theorem bits_nan : ACalls Try.prog 24 [.nan .f64] [] (Ret (u64 nanW)) := by
  refine acalls_of_awp hT mixed Try.func24 rfl (by kernel_rfl) (by kernel_rfl) (Nat.le_of_ble_eq_true rfl) ?_
  refine callP isNaN_nan rfl rfl ?_
  refine end0 rfl rfl rfl rfl
theorem bitsO_ok (s : Option Nat) : ACalls Try.prog 24 [flo s] [] (Ret (u64 (bitsO s))) := by
  cases s with
  | none => exact bits_nan
  | some b => exact bits_ok b
/-- A word that is a NaN's. -/
def NanR (v : AV) : Prop := ∃ b : Nat, nanB b = true ∧ b < 18446744073709551616 ∧ v = u64 b
theorem nan_read {b : Nat} (h : ∃ s t, FloatKind.f64.format.read b = .nan s t) : nanB b = true := by
  obtain ⟨s, t, h⟩ := h
  have h : Ieee.double.read b = .nan s t := h
  cases hn : nanB b
  · exfalso
    simp only [nanB, decide_eq_false_iff_not] at hn
    rcases Nat.lt_or_ge (b % 9223372036854775808) 9218868437227405312 with h1 | h1
    · rw [read_fin h1] at h; cases h
    · rw [read_inf (by omega)] at h; cases h
  · rfl
noncomputable def meanS (s : Option Nat) (c : Nat) : Option Nat := s.bind fun y => fari .quo .f64 y (FloatKind.f64.nearest (c : Int))
def tal (c : Nat) (s lo hi m : Nat) : AV := .agg [i64 c, u64 s, u64 lo, u64 hi, u64 m]
end Go.Proofs.Ytdjpcmlnhkiokaa.A
