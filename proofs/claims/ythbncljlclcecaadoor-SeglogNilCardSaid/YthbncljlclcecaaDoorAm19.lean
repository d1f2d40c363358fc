/- From a contract to the model's own word, for a law's row. No condition. -/
import Derived.Test.YthbncljlclcecaaDoorAm18
import Derived.Below
namespace Go.Proofs.YthbncljlclcecaaDoor.A
open Go Go.RowKit
set_option linter.unusedVariables false
set_option linter.unusedSimpArgs false

theorem below_of_ext {X Y : Ctx} {H H' : Heap} (h : Ext X H Y H') (hn : ∀ b, ¬ Owned X H b) : Below X.w.heap.size X.w Y.w :=
  ⟨h.os, h.tape, h.output, h.size, fun k hk => h.keep k hk (hn k)⟩
theorem calls_law {P : Program} {g : FuncId} {fn : Func} {c : Code} (hf : P.funcs[g]? = some fn) (hb : fn.body = some c) (hnm : (fn.name == "runtime.NumGoroutine") = false) {args : List AV} (h : ACalls P g args [] (Ret (.sc (.bool true))))
    {w : World} {vs : Array Value} (F : Nat → Prop) (hF : ∀ b, F b → b < w.heap.size) (hv : VL ⟨fun _ => none, F, w⟩ args vs.toList) : Calls P g vs w fun e w' => e = .returned (.bool true) ∧ Below w.heap.size w w' := by
  have hr : HR ⟨fun _ => none, F, w⟩ [] := ⟨fun i b hb => (by cases hb), fun i cs b hi _ => (by simp at hi), fun i es b hi _ => (by simp at hi), fun i j bi bj _ _ _ hbi _ => (by cases hbi), fun i b _ hb => (by cases hb), hF⟩
  rcases h ⟨fun _ => none, F, w⟩ vs hr hv with ⟨_, h2⟩ | ⟨v, w1, h1, _⟩
  · refine h2.mono ?_
    rintro e w' ⟨E, H', Y, ⟨rfl, rfl⟩, rfl, he, _, hext, _, _⟩
    refine ⟨?_, below_of_ext hext fun b ⟨i, a, _, ha, _⟩ => by cases ha⟩
    cases e with
    | returned u => exact congrArg Ending.returned (VR_bool.1 (show VR Y (.sc (.bool true)) u from he))
    | panicked _ => exact he.elim
    | outgrown => exact he.elim
  · exfalso
    simp only [callFunc, Sem.run_bind, run_program, Result.andThen_ok, hf, hnm, Bool.false_eq_true, if_false] at h1
    simp [hb] at h1
end Go.Proofs.YthbncljlclcecaaDoor.A
