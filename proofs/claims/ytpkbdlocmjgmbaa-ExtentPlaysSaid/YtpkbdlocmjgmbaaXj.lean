/- extent: On, Extents, Sectors. No condition. -/
import Derived.Test.YtpkbdlocmjgmbaaXi
namespace Go.Proofs.Ytpkbdlocmjgmbaa.A
open Go
set_option linter.unusedVariables false
set_option linter.unusedSimpArgs false
set_option maxRecDepth 100000
set_option pp.maxSteps 600
theorem on_ok (off : Bool) (sec : Int) (n : Nat) : ACalls Try.prog 19 [.vp [bo off, i64 sec, .view n [], .view n []]] [] (Ret (bo (!off))) := by
  cases off <;>
  · refine acalls_of_awp hT mixed Try.func19 rfl (by kernel_rfl) (by kernel_rfl) (Nat.le_of_ble_eq_true rfl) ?_
    exact end0 rfl rfl rfl rfl
theorem exts_ok (off : Bool) (sec : Int) (n : Nat) : ACalls Try.prog 22 [.vp [bo off, i64 sec, .view n [], .view n []]] [] (Ret (i64 (n : Nat))) := by
  refine acalls_of_awp hT mixed Try.func22 rfl (by kernel_rfl) (by kernel_rfl) (Nat.le_of_ble_eq_true rfl) ?_
  exact end0 rfl rfl rfl rfl
theorem secs_ok (off : Bool) (sec : Int) (n : Nat) : ACalls Try.prog 23 [.vp [bo off, i64 sec, .view n [], .view n []]] [] (Ret (i64 sec)) := by
  refine acalls_of_awp hT mixed Try.func23 rfl (by kernel_rfl) (by kernel_rfl) (Nat.le_of_ble_eq_true rfl) ?_
  exact end0 rfl rfl rfl rfl
end Go.Proofs.Ytpkbdlocmjgmbaa.A
