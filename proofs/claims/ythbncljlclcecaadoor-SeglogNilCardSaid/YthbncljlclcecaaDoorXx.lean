/- extent: awake. No condition. -/
import Derived.Test.YthbncljlclcecaaDoorXs
namespace Go.Proofs.YthbncljlclcecaaDoor.A
open Go
set_option linter.unusedVariables false
set_option linter.unusedSimpArgs false
set_option maxRecDepth 100000
set_option pp.maxSteps 600
section
variable {w : Wd} {n sec : Nat} {e k : Int} {s : ByteArray}
theorem write_0 (h0 : w.err e k = 0) (hs : s.size ≤ 64) : (w.write e k s).1 = 0 := by unfold Wd.write; rw [if_pos h0, if_pos hs]
theorem flush_0 (h0 : w.err e 0 = 0) : (w.flush e).1 = 0 := by unfold Wd.flush; rw [if_pos h0]
theorem crash_0 (ps : List (Int × Int)) (h0 : w.off = false) : (w.crash ps).1 = 0 := by unfold Wd.crash; rw [if_neg (by rw [h0]; decide)]
theorem write_off : (w.write e k s).2.off = w.off := by
  unfold Wd.write
  split
  · split <;> rfl
  · rfl
theorem crash_off (ps : List (Int × Int)) : (w.crash ps).2.off = true := by
  unfold Wd.crash
  split
  · rename_i h; exact h
  · rfl
end
theorem nilArg2 {P : Program} {g : FuncId} {a : AV} {r : List AV} {H : Heap} {R : AEnd → Heap → Prop} (h : ACalls P g (a :: .view 0 [] :: r) H R) : ACalls P g (a :: nilS :: r) H R := h.weaken fun X vs hv => by
  match vs, hv with
  | u :: w :: q, hv =>
    simp only [VL] at hv ⊢
    exact ⟨hv.1, VR_nilView hv.2.1, hv.2.2⟩
  | [u], hv => simp [VL] at hv
  | [], hv => simp [VL] at hv
end Go.Proofs.YthbncljlclcecaaDoor.A

namespace Go.Proofs.YthbncljlclcecaaDoor.A
open Go
set_option linter.unusedVariables false
set_option linter.unusedSimpArgs false
set_option maxRecDepth 100000
set_option pp.maxSteps 600
/-- An act. -/
structure Xa where
  k : Int
  e : Int
  a : Int
  s : ByteArray
  ps : List (Int × Int)
def Xa.ok (x : Xa) : Prop := x.ps.length ≤ 9223372036854775807 ∧ x.s.size ≤ 9223372036854775807
end Go.Proofs.YthbncljlclcecaaDoor.A

namespace Go.Proofs.YthbncljlclcecaaDoor.A
open Go
set_option linter.unusedVariables false
set_option linter.unusedSimpArgs false
set_option maxRecDepth 100000
set_option pp.maxSteps 600
end Go.Proofs.YthbncljlclcecaaDoor.A

namespace Go.Proofs.YthbncljlclcecaaDoor.A
open Go
set_option linter.unusedVariables false
set_option linter.unusedSimpArgs false
set_option maxRecDepth 100000
set_option pp.maxSteps 600
end Go.Proofs.YthbncljlclcecaaDoor.A

namespace Go.Proofs.YthbncljlclcecaaDoor.A
open Go
set_option linter.unusedVariables false
set_option linter.unusedSimpArgs false
set_option maxRecDepth 100000
set_option pp.maxSteps 600
end Go.Proofs.YthbncljlclcecaaDoor.A
