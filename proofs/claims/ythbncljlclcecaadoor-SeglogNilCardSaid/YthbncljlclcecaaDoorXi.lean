/- extent: Lay (printed by genexl.py). No condition. -/
import Derived.Test.YthbncljlclcecaaDoorXh
namespace Go.Proofs.YthbncljlclcecaaDoor.A
open Go
set_option linter.unusedVariables false
set_option linter.unusedSimpArgs false
set_option maxRecDepth 100000
set_option pp.maxSteps 600
theorem wr_str {K : Heap → Prop} {H : Heap} {p off k : Nat} {l : List AV} {R : List ByteArray} {x : ByteArray} (h : nth H p = some (.row (R.map str))) (hx : l = [str x]) (hk : off = k) (hl : k < R.length) (q : K (H.set p (.row ((R.set k x).map str)))) : optK (wr H p off l) K := by
  subst hx hk
  refine optK_intro (wr_eq h (by rw [List.length_map]; exact hl)) ?_
  have e : setAll (R.map str) off [str x] = (R.set off x).map str := by
    rw [List.map_set]
    rfl
  rw [e]
  exact q
end Go.Proofs.YthbncljlclcecaaDoor.A
