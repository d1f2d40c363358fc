/- Rows of rows: cells told by a list, each element by so many. No condition. -/
import Derived.Test.YtmfifbclldnpkaaOu
namespace Go.Proofs.Ytmfifbclldnpkaa.A
open Go
set_option linter.unusedVariables false

section
variable {α : Type} {f : α → List AV} {n : Nat}
end
theorem take_snocA {α : Type} {l : List α} {i : Nat} {x : α} (h : l[i]? = some x) : l.take (i + 1) = l.take i ++ [x] := by
  obtain ⟨hi, rfl⟩ := List.getElem?_eq_some_iff.1 h
  exact List.take_succ_eq_append_getElem hi
end Go.Proofs.Ytmfifbclldnpkaa.A
