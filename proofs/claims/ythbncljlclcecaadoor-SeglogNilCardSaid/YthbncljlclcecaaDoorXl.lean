/- extent: Wet (printed by genexw.py). No condition. -/
import Derived.Test.YthbncljlclcecaaDoorXk
namespace Go.Proofs.YthbncljlclcecaaDoor.A
open Go
set_option linter.unusedVariables false
set_option linter.unusedSimpArgs false
set_option maxRecDepth 100000
set_option pp.maxSteps 600
theorem renM_ent (r : Nat → Nat) : ∀ L : List En, renM r (L.map ent) = L.map ent
  | [] => rfl
  | e :: L => by rw [List.map_cons, ent, renM, renM_ent r L]; rfl
theorem renO_mp (r : Nat → Nat) (m : Mp) : renO r (.mp m.E) = .mp m.E := by
  unfold Mp.E mpE
  rw [renO, renM, renM_ent]
  rfl
theorem oM {H : Heap} {j : Nat} {r : Nat → Nat} {m : Mp} {p : Prop} (h : nth H j = some (.mp m.E)) : nth H j = some (renO r (.mp m.E)) ∨ p := .inl (by rw [renO_mp]; exact h)

end Go.Proofs.YthbncljlclcecaaDoor.A
