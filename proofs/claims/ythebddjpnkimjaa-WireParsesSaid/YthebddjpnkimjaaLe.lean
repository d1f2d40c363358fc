/- lists behind one another; each once. No condition. -/
import Derived.Test.YthebddjpnkimjaaLd
namespace Go.Proofs.Ythebddjpnkimjaa.A
open Go
set_option linter.unusedVariables false
set_option maxRecDepth 100000
set_option pp.maxSteps 1500

theorem zerosU (n : Nat) : zerosA ti41.zero n = (List.replicate n 0).map u64n := by
  unfold zerosA
  induction n with
  | zero => rfl
  | succ n ih => rw [List.replicate_succ, List.replicate_succ, List.flatten_cons, ih]; rfl
def vws (LL : List (List Nat)) : AV := .view LL.length (LL.map us)
structure CatSt (LL : List (List Nat)) where
  k : Nat
  R : List Nat
  m : Nat
  hk : k ≤ LL.length
  hm : m ≤ R.length
  hR : R.take m = (LL.take k).flatten
theorem flat_le (LL : List (List Nat)) (k : Nat) : (LL.take k).flatten.length ≤ LL.flatten.length := by
  have : LL.flatten = (LL.take k).flatten ++ (LL.drop k).flatten := by rw [← List.flatten_append, List.take_append_drop]
  rw [this, List.length_append]
  omega
end Go.Proofs.Ythebddjpnkimjaa.A
