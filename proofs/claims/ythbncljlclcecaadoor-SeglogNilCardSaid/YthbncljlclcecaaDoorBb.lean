/- Words for values, lists of numbers. No condition. -/
import Derived.Test.YthbncljlclcecaaDoorAmT
import Derived.Test.YthbncljlclcecaaDoorAmE
import Derived.Test.YthbncljlclcecaaDoorOs
import Derived.Test.YthbncljlclcecaaDoorOu
import Derived.Test.YthbncljlclcecaaDoorOw
import Derived.Test.YthbncljlclcecaaDoorAm19
import Derived.Laws.Bits64
namespace Go.Proofs.YthbncljlclcecaaDoor.A
open Go
set_option linter.unusedVariables false
set_option maxRecDepth 100000
set_option pp.maxSteps 1500

def fl (b : Nat) : AV := .sc (.float .f64 b)
def u64 (n : Int) : AV := .sc (.int .u64 n)
def i64 (n : Int) : AV := .sc (.int .i64 n)
def bo (b : Bool) : AV := .sc (.bool b)

def str (s : ByteArray) : AV := .sc (.string s)
def u64n (n : Nat) : AV := u64 n
def us (l : List Nat) : AV := .view l.length (l.map u64n)
theorem endE {T : Tab} {rs : List ResultVar} {R : AV → Prop} {s : St} {vs : List AV} {v : AV} (hd : s.ds = []) (hv : resV T s rs = some vs) (hf : frz s.H 0 8 (mkR vs) = some v) (hR : R v) : endK T rs 0 (fun E G => ∃ v, R v ∧ E = .ret v ∧ G = []) .ret s :=
  ⟨hd, [], v, ⟨⟨vs, hv, hf⟩, True.intro, Nat.zero_le _, rfl⟩, v, hR, rfl, rfl⟩
theorem nth_mapI {α : Type} {g : α → AV} {L : List α} {w : Int} {x : α} (h : L[w.toNat]? = some x) : nth (List.drop (w.toNat * 1) (L.map g)) 0 = some (g x) := by
  rw [nth_eq, List.getElem?_drop, Nat.mul_one, Nat.add_zero, List.getElem?_map, h]
  rfl
def nilS : AV := .sc (.slice none 0 0)
end Go.Proofs.YthbncljlclcecaaDoor.A

namespace Go.Proofs.YthbncljlclcecaaDoor.A
open Go
set_option linter.unusedVariables false
set_option maxRecDepth 100000
set_option pp.maxSteps 1500

def emp : ByteArray := ⟨#[]⟩
end Go.Proofs.YthbncljlclcecaaDoor.A
