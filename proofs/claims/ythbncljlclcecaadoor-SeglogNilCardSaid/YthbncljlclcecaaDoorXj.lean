/- extent: On, Extents, Sectors. No condition. -/
import Derived.Test.YthbncljlclcecaaDoorXi
namespace Go.Proofs.YthbncljlclcecaaDoor.A
open Go
set_option linter.unusedVariables false
set_option linter.unusedSimpArgs false
set_option maxRecDepth 100000
set_option pp.maxSteps 600
theorem on_ok (off : Bool) (sec : Int) (n : Nat) : ACalls Tryd.prog 31 [.vp [bo off, i64 sec, .view n [], .view n []]] [] (Ret (bo (!off))) := by
  cases off <;>
  · refine acalls_of_awp hT mixed Tryd.func31 rfl (by kernel_rfl) (by kernel_rfl) (Nat.le_of_ble_eq_true rfl) ?_
    exact end0 rfl rfl rfl rfl
theorem exts_ok (off : Bool) (sec : Int) (n : Nat) : ACalls Tryd.prog 32 [.vp [bo off, i64 sec, .view n [], .view n []]] [] (Ret (i64 (n : Nat))) := by
  refine acalls_of_awp hT mixed Tryd.func32 rfl (by kernel_rfl) (by kernel_rfl) (Nat.le_of_ble_eq_true rfl) ?_
  exact end0 rfl rfl rfl rfl
theorem secs_ok (off : Bool) (sec : Int) (n : Nat) : ACalls Tryd.prog 49 [.vp [bo off, i64 sec, .view n [], .view n []]] [] (Ret (i64 sec)) := by
  refine acalls_of_awp hT mixed Tryd.func49 rfl (by kernel_rfl) (by kernel_rfl) (Nat.le_of_ble_eq_true rfl) ?_
  exact end0 rfl rfl rfl rfl
end Go.Proofs.YthbncljlclcecaaDoor.A
