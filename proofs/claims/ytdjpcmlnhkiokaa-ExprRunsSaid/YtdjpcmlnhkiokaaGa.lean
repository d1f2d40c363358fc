/- The functions of agg: adding. No condition. -/
import Derived.Test.YtdjpcmlnhkiokaaNs
import Derived.Test.YtdjpcmlnhkiokaaOu
namespace Go.Proofs.Ytdjpcmlnhkiokaa.A
open Go
set_option linter.unusedVariables false
set_option maxRecDepth 100000
set_option pp.maxSteps 1500

/-- A number, or none. -/
def flo : Option Nat → AV
  | none => .nan .f64
  | some b => fl b
def adr (c : Nat) (s : Option Nat) (lo hi : Nat) : List AV := [i64 c, flo s, fl lo, fl hi]
noncomputable def addS (s : Option Nat) (x : Nat) : Option Nat := s.bind fun y => fari .add .f64 y x
def lowS (c lo x : Nat) : Nat := if c = 0 ∨ placeB x < placeB lo then x else lo
def highS (c hi x : Nat) : Nat := if c = 0 ∨ placeB hi < placeB x then x else hi
theorem cmpI_neg (x y : Nat) : cmpI x y < 0 ↔ x < y := by
  unfold cmpI
  split
  · omega
  · split <;> omega
theorem cmpI_pos (x y : Nat) : cmpI x y > 0 ↔ y < x := by
  unfold cmpI
  split
  · omega
  · split <;> omega
theorem adrE {c : Nat} {i : Int} {s : Option Nat} {l l' h h' : Nat} (h1 : ((c : Nat) : Int) = i) (h2 : l = l') (h3 : h = h') : AObj.row (adr c s l h) = AObj.row [i64 i, flo s, fl l', fl h'] := by
  subst h1 h2 h3
  rfl
end Go.Proofs.Ytdjpcmlnhkiokaa.A
