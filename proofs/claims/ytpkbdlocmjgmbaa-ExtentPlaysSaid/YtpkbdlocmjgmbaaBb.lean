/- Words for values, lists of numbers. No condition. -/
import Derived.Test.YtpkbdlocmjgmbaaAmT
import Derived.Test.YtpkbdlocmjgmbaaAmE
import Derived.Test.YtpkbdlocmjgmbaaOs
import Derived.Test.YtpkbdlocmjgmbaaOu
import Derived.Test.YtpkbdlocmjgmbaaOw
import Derived.Test.YtpkbdlocmjgmbaaAm19
import Derived.Laws.Bits64
namespace Go.Proofs.Ytpkbdlocmjgmbaa.A
open Go
set_option linter.unusedVariables false
set_option maxRecDepth 100000
set_option pp.maxSteps 1500

def fl (b : Nat) : AV := .sc (.float .f64 b)
def u64 (n : Int) : AV := .sc (.int .u64 n)
def i64 (n : Int) : AV := .sc (.int .i64 n)
def bo (b : Bool) : AV := .sc (.bool b)

def str (s : ByteArray) : AV := .sc (.string s)
def u64n (n : Nat) : AV := u64 n
def us (l : List Nat) : AV := .view l.length (l.map u64n)
theorem nth_mapI {α : Type} {g : α → AV} {L : List α} {w : Int} {x : α} (h : L[w.toNat]? = some x) : nth (List.drop (w.toNat * 1) (L.map g)) 0 = some (g x) := by
  rw [nth_eq, List.getElem?_drop, Nat.mul_one, Nat.add_zero, List.getElem?_map, h]
  rfl
def nilS : AV := .sc (.slice none 0 0)
end Go.Proofs.Ytpkbdlocmjgmbaa.A

namespace Go.Proofs.Ytpkbdlocmjgmbaa.A
open Go
set_option linter.unusedVariables false
set_option maxRecDepth 100000
set_option pp.maxSteps 1500

/-- A slice that may be nil is told as one without anything. -/
theorem nilArg {P : Program} {g : FuncId} {r : List AV} {H : Heap} {R : AEnd → Heap → Prop} (h : ACalls P g (us [] :: r) H R) : ACalls P g (nilS :: r) H R := h.weaken fun X vs hv => by
  match vs, hv with
  | w :: q, hv =>
    simp only [VL] at hv ⊢
    exact ⟨VR_nilView hv.1, hv.2⟩
  | [], hv => simp [VL] at hv
end Go.Proofs.Ytpkbdlocmjgmbaa.A
