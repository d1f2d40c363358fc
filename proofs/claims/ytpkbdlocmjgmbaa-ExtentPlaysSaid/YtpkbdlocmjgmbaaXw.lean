/- extent: the law ExtentLasts. No condition. -/
import Derived.Test.YtpkbdlocmjgmbaaXv
namespace Go.Proofs.Ytpkbdlocmjgmbaa.A
open Go
set_option linter.unusedVariables false
set_option linter.unusedSimpArgs false
set_option maxRecDepth 100000
set_option pp.maxSteps 600
theorem cellX {α : Type} {f : α → List AV} {n : Nat} (hf : ∀ x, (f x).length = n) {L : List α} {j : Nat} {x : α} (h : L[j]? = some x) (c : Nat) {a : AV} (hc : (f x)[c]? = some a) : nth (List.drop c (List.drop ((j : Int).toNat * n) (flat f L))) 0 = some a := by
  have hlt := (List.getElem?_eq_some_iff.1 hc).1
  rw [nth_eq, Int.toNat_natCast, flat_drop hf L j x h, List.getElem?_drop]
  show (f x ++ _)[c]? = _
  rw [List.getElem?_append_left hlt]
  exact hc
theorem cellX0 {α : Type} {f : α → List AV} {n : Nat} (hf : ∀ x, (f x).length = n) {L : List α} {j : Nat} {x : α} (h : L[j]? = some x) {a : AV} (hc : (f x)[0]? = some a) : nth (List.drop ((j : Int).toNat * n) (flat f L)) 0 = some a := cellX hf h 0 hc
end Go.Proofs.Ytpkbdlocmjgmbaa.A
