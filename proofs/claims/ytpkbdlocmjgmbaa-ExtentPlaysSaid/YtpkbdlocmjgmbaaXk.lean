/- extent: Start (printed by genexs.py). No condition. -/
import Derived.Test.YtpkbdlocmjgmbaaXj
namespace Go.Proofs.Ytpkbdlocmjgmbaa.A
open Go
set_option linter.unusedVariables false
set_option linter.unusedSimpArgs false
set_option maxRecDepth 100000
set_option pp.maxSteps 600

theorem start_1 (off : Bool) (sec : Nat) (D : List (List ByteArray)) (M : List Mp) (hD : D.length = 1) (hM : M.length = 1) :
    ACalls Try.prog 10 [.ptr 0 0] (Wd.mk off sec D M).H (RetH (i64 (if off = true then 0 else 8)) (Wd.mk false sec D M).H) := by
  match D, hD, M, hM with
  | [d0], _, [m0], _ =>
  cases off <;>
  · refine acalls_of_awp hT mixed Try.func10 rfl (by kernel_rfl) (by kernel_rfl) (Nat.le_of_ble_eq_true rfl) ?_
    exact endH rfl rfl rfl ⟨.inl rfl, .inl rfl, .inl rfl, .inl rfl, .inl rfl, True.intro⟩ (Nat.le_refl 5) (Wd.below _) rfl
theorem start_2 (off : Bool) (sec : Nat) (D : List (List ByteArray)) (M : List Mp) (hD : D.length = 2) (hM : M.length = 2) :
    ACalls Try.prog 10 [.ptr 0 0] (Wd.mk off sec D M).H (RetH (i64 (if off = true then 0 else 8)) (Wd.mk false sec D M).H) := by
  match D, hD, M, hM with
  | [d0, d1], _, [m0, m1], _ =>
  cases off <;>
  · refine acalls_of_awp hT mixed Try.func10 rfl (by kernel_rfl) (by kernel_rfl) (Nat.le_of_ble_eq_true rfl) ?_
    exact endH rfl rfl rfl ⟨.inl rfl, .inl rfl, .inl rfl, .inl rfl, .inl rfl, .inl rfl, .inl rfl, True.intro⟩ (Nat.le_refl 7) (Wd.below _) rfl
theorem start_3 (off : Bool) (sec : Nat) (D : List (List ByteArray)) (M : List Mp) (hD : D.length = 3) (hM : M.length = 3) :
    ACalls Try.prog 10 [.ptr 0 0] (Wd.mk off sec D M).H (RetH (i64 (if off = true then 0 else 8)) (Wd.mk false sec D M).H) := by
  match D, hD, M, hM with
  | [d0, d1, d2], _, [m0, m1, m2], _ =>
  cases off <;>
  · refine acalls_of_awp hT mixed Try.func10 rfl (by kernel_rfl) (by kernel_rfl) (Nat.le_of_ble_eq_true rfl) ?_
    exact endH rfl rfl rfl ⟨.inl rfl, .inl rfl, .inl rfl, .inl rfl, .inl rfl, .inl rfl, .inl rfl, .inl rfl, .inl rfl, True.intro⟩ (Nat.le_refl 9) (Wd.below _) rfl
theorem start_4 (off : Bool) (sec : Nat) (D : List (List ByteArray)) (M : List Mp) (hD : D.length = 4) (hM : M.length = 4) :
    ACalls Try.prog 10 [.ptr 0 0] (Wd.mk off sec D M).H (RetH (i64 (if off = true then 0 else 8)) (Wd.mk false sec D M).H) := by
  match D, hD, M, hM with
  | [d0, d1, d2, d3], _, [m0, m1, m2, m3], _ =>
  cases off <;>
  · refine acalls_of_awp hT mixed Try.func10 rfl (by kernel_rfl) (by kernel_rfl) (Nat.le_of_ble_eq_true rfl) ?_
    exact endH rfl rfl rfl ⟨.inl rfl, .inl rfl, .inl rfl, .inl rfl, .inl rfl, .inl rfl, .inl rfl, .inl rfl, .inl rfl, .inl rfl, .inl rfl, True.intro⟩ (Nat.le_refl 11) (Wd.below _) rfl
theorem start_5 (off : Bool) (sec : Nat) (D : List (List ByteArray)) (M : List Mp) (hD : D.length = 5) (hM : M.length = 5) :
    ACalls Try.prog 10 [.ptr 0 0] (Wd.mk off sec D M).H (RetH (i64 (if off = true then 0 else 8)) (Wd.mk false sec D M).H) := by
  match D, hD, M, hM with
  | [d0, d1, d2, d3, d4], _, [m0, m1, m2, m3, m4], _ =>
  cases off <;>
  · refine acalls_of_awp hT mixed Try.func10 rfl (by kernel_rfl) (by kernel_rfl) (Nat.le_of_ble_eq_true rfl) ?_
    exact endH rfl rfl rfl ⟨.inl rfl, .inl rfl, .inl rfl, .inl rfl, .inl rfl, .inl rfl, .inl rfl, .inl rfl, .inl rfl, .inl rfl, .inl rfl, .inl rfl, .inl rfl, True.intro⟩ (Nat.le_refl 13) (Wd.below _) rfl
theorem start_6 (off : Bool) (sec : Nat) (D : List (List ByteArray)) (M : List Mp) (hD : D.length = 6) (hM : M.length = 6) :
    ACalls Try.prog 10 [.ptr 0 0] (Wd.mk off sec D M).H (RetH (i64 (if off = true then 0 else 8)) (Wd.mk false sec D M).H) := by
  match D, hD, M, hM with
  | [d0, d1, d2, d3, d4, d5], _, [m0, m1, m2, m3, m4, m5], _ =>
  cases off <;>
  · refine acalls_of_awp hT mixed Try.func10 rfl (by kernel_rfl) (by kernel_rfl) (Nat.le_of_ble_eq_true rfl) ?_
    exact endH rfl rfl rfl ⟨.inl rfl, .inl rfl, .inl rfl, .inl rfl, .inl rfl, .inl rfl, .inl rfl, .inl rfl, .inl rfl, .inl rfl, .inl rfl, .inl rfl, .inl rfl, .inl rfl, .inl rfl, True.intro⟩ (Nat.le_refl 15) (Wd.below _) rfl
theorem start_7 (off : Bool) (sec : Nat) (D : List (List ByteArray)) (M : List Mp) (hD : D.length = 7) (hM : M.length = 7) :
    ACalls Try.prog 10 [.ptr 0 0] (Wd.mk off sec D M).H (RetH (i64 (if off = true then 0 else 8)) (Wd.mk false sec D M).H) := by
  match D, hD, M, hM with
  | [d0, d1, d2, d3, d4, d5, d6], _, [m0, m1, m2, m3, m4, m5, m6], _ =>
  cases off <;>
  · refine acalls_of_awp hT mixed Try.func10 rfl (by kernel_rfl) (by kernel_rfl) (Nat.le_of_ble_eq_true rfl) ?_
    exact endH rfl rfl rfl ⟨.inl rfl, .inl rfl, .inl rfl, .inl rfl, .inl rfl, .inl rfl, .inl rfl, .inl rfl, .inl rfl, .inl rfl, .inl rfl, .inl rfl, .inl rfl, .inl rfl, .inl rfl, .inl rfl, .inl rfl, True.intro⟩ (Nat.le_refl 17) (Wd.below _) rfl
theorem start_8 (off : Bool) (sec : Nat) (D : List (List ByteArray)) (M : List Mp) (hD : D.length = 8) (hM : M.length = 8) :
    ACalls Try.prog 10 [.ptr 0 0] (Wd.mk off sec D M).H (RetH (i64 (if off = true then 0 else 8)) (Wd.mk false sec D M).H) := by
  match D, hD, M, hM with
  | [d0, d1, d2, d3, d4, d5, d6, d7], _, [m0, m1, m2, m3, m4, m5, m6, m7], _ =>
  cases off <;>
  · refine acalls_of_awp hT mixed Try.func10 rfl (by kernel_rfl) (by kernel_rfl) (Nat.le_of_ble_eq_true rfl) ?_
    exact endH rfl rfl rfl ⟨.inl rfl, .inl rfl, .inl rfl, .inl rfl, .inl rfl, .inl rfl, .inl rfl, .inl rfl, .inl rfl, .inl rfl, .inl rfl, .inl rfl, .inl rfl, .inl rfl, .inl rfl, .inl rfl, .inl rfl, .inl rfl, .inl rfl, True.intro⟩ (Nat.le_refl 19) (Wd.below _) rfl
end Go.Proofs.Ytpkbdlocmjgmbaa.A
