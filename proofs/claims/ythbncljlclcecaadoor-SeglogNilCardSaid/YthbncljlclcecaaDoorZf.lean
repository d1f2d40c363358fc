/- extent: the reference's world, told by its row of sectors: At, Write, Read, Lay, Start, New, Ints. No condition. -/
import Derived.Test.YthbncljlclcecaaDoorXx
namespace Go.Proofs.YthbncljlclcecaaDoor.A
open Go
set_option linter.unusedVariables false
set_option linter.unusedSimpArgs false
set_option maxRecDepth 100000
set_option pp.maxSteps 600
/-! ### Rows of structs: one field is read, some are written -/
/-! ### The reference's world -/
/-- A sector: dry, now, is it wet. -/
abbrev Sx := ByteArray × ByteArray × Bool
section
variable {off : Bool} {n sec N : Nat} {S : List Sx} {e k : Int} {s : ByteArray} {x : Sx}
end
end Go.Proofs.YthbncljlclcecaaDoor.A

namespace Go.Proofs.YthbncljlclcecaaDoor.A
open Go
set_option linter.unusedVariables false
set_option linter.unusedSimpArgs false
set_option maxRecDepth 100000
set_option pp.maxSteps 600
section
variable {off : Bool} {n sec N : Nat} {S : List Sx} {e k : Int} {s : ByteArray} {x : Sx}
/-! ### Flush -/
end
end Go.Proofs.YthbncljlclcecaaDoor.A

namespace Go.Proofs.YthbncljlclcecaaDoor.A
open Go
set_option linter.unusedVariables false
set_option linter.unusedSimpArgs false
set_option maxRecDepth 100000
set_option pp.maxSteps 600
section
variable {off : Bool} {n sec N : Nat} {S : List Sx} {e k : Int} {s : ByteArray} {x : Sx}
end
end Go.Proofs.YthbncljlclcecaaDoor.A

namespace Go.Proofs.YthbncljlclcecaaDoor.A
open Go
set_option linter.unusedVariables false
set_option linter.unusedSimpArgs false
set_option maxRecDepth 100000
set_option pp.maxSteps 600
section
variable {off : Bool} {n sec N : Nat} {S : List Sx} {e k : Int} {s : ByteArray} {x : Sx}
end
end Go.Proofs.YthbncljlclcecaaDoor.A

namespace Go.Proofs.YthbncljlclcecaaDoor.A
open Go
set_option linter.unusedVariables false
set_option linter.unusedSimpArgs false
set_option maxRecDepth 100000
set_option pp.maxSteps 600
section
variable {w : Wd} {n sec : Nat} {e k : Int} {s : ByteArray}
end
end Go.Proofs.YthbncljlclcecaaDoor.A

namespace Go.Proofs.YthbncljlclcecaaDoor.A
open Go
set_option linter.unusedVariables false
set_option linter.unusedSimpArgs false
set_option maxRecDepth 100000
set_option pp.maxSteps 600
section
variable {w : Wd} {n sec : Nat} {e k : Int} {s : ByteArray}
end
/-! ### Both worlds -/
theorem Wd.belowN (w : Wd) (N : Nat) (hN : 3 + w.D.length + w.M.length ≤ N) : belowH N w.H = true := by
  unfold Wd.H
  have h1 := belowH_map N (fun d : List ByteArray => AObj.row (d.map str)) (fun d => by rw [belowO]; exact belowL_str _ d) w.D
  have h2 := belowH_map N (fun m : Mp => AObj.mp m.E) (fun m => belowO_mp _ m) w.M
  rw [belowH, belowH, belowH, belowH_app _ _ _ h1 h2]
  rw [belowO, belowO, belowO, belowL_slcs _ _ _ _ (by omega), belowL_mprs _ _ _ (by omega)]
  unfold Wd.row
  simp only [belowL, A.below, Bool.and_true, Bool.and_eq_true]
  exact ⟨rfl, rfl, blt_of (by omega), blt_of (by omega)⟩
theorem Wd.H_len (w : Wd) : w.H.length = 3 + w.D.length + w.M.length := by
  unfold Wd.H
  simp only [List.length_cons, List.length_append, List.length_map]
  omega
end Go.Proofs.YthbncljlclcecaaDoor.A
