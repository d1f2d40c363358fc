/- The row of the law ExtentPicks, out of its contract. No condition. -/
import Derived.Test.YtpkbdlocmjgmbaaRows
import Derived.Test.YtpkbdlocmjgmbaaXx
import Derived.Test.YtpkbdlocmjgmbaaAm19
import Derived.Test.YtpkbdlocmjgmbaaOs
import Derived.WalkKit
import Derived.ProofKit
import Derived.OpenShut
import Derived.ShutString
import Derived.ChangeOld
import Derived.Below
import Derived.SizedLaws
import Derived.Carry
namespace Go.Proofs.Ytpkbdlocmjgmbaa.extentPicks
open Go.ChangeShapes Go.WideShapes Go.ChangeAt Go.RowKit
set_option linter.unusedVariables false
theorem own : ownKnob Try.prog.godebug = none := by kernel_rfl
theorem laidOut : laidOutB Try.prog = true := by kernel_rfl
set_option maxRecDepth 100000 in
theorem lifted (os : Os) (started : os.Started) (H : Type) (enc : TypeId × Value → H) :
    ReturnsInHanded {} Try.checked os 4 .any (Rows.extentPicksSpec.pre6 enc Try.prog Try.f4 Rows.extentPicksRow.domain false) (Rows.extentPicksSpec.post enc Try.prog Try.f4 false true false false) := by
  refine returnsInHanded_of_change_sized (C := Try.checked) own started (by kernel_rfl) Try.func4
    (ChangeSpec.witness6 (enc := enc) (C := Try.checked) false ⟨#[], #[.slice none 0 0, .slice none 0 0], []⟩ 8 (by kernel_rfl) (by kernel_rfl) (by kernel_rfl) (by kernel_rfl)) ?_
  intro W base args ds gs before hval0 hW hcnd hsz0 _
  have hval : ∀ (j : Nat) t v, Try.f4.params[j]? = some t → args[j]? = some v → Value.okWide Try.prog W .any base t v := hval0
  have hW' := hW
  obtain ⟨p, q, hA0, hV, rfl, hfz, hnd⟩ := hW
  have hA : DataW.TrodAll enc Try.prog W 0 (fun _ => true) true Try.f4.params.toList args.toList ds p := hA0
  rw [Try.params4] at hA hval
  obtain ⟨v0, vs0, d0, ds0, p0, q0, hargs, rfl, rfl, h0, r0⟩ := trodAll_cons hA
  obtain ⟨v1, vs1, d1, ds1, p1, q1, rfl, rfl, rfl, h1, r1⟩ := trodAll_cons r0
  obtain ⟨rfl, rfl, rfl⟩ := trodAll_nil r1
  obtain rfl : args = #[v0, v1] := by cases args; simp_all
  obtain ⟨rfl, rfl⟩ := trodVars_none hV
  have u0 : ∀ x ∈ p0, x.block < W.heap.size := fun x hx => by
    obtain ⟨fu, hf⟩ := h0
    exact DataW.trod_lt fu _ _ _ hf x hx
  obtain ⟨l0, w0, x0⟩ := A.open_arg (sh := (.slice (.strct (.cons (.int .i64) (.cons (.int .i64) (.cons (.int .i64) (.cons .str (.cons (.slice (.strct (.cons (.int .i64) (.cons (.int .i64) .none)))) .none)))))))) (by kernel_rfl) (hval 0 22 v0 rfl rfl) h0
  have u1 : ∀ x ∈ p1, x.block < W.heap.size := fun x hx => by
    obtain ⟨fu, hf⟩ := h1
    exact DataW.trod_lt fu _ _ _ hf x hx
  obtain ⟨l1, w1, x1⟩ := A.open_arg (sh := (.slice (.strct (.cons (.int .i64) (.cons (.int .i64) .none))))) (by kernel_rfl) (hval 1 23 v1 rfl rfl) h1
  clear hA0 hval0 hsz0
  refine (A.calls_law Try.func4 rfl (by kernel_rfl) (A.extentPicks_law l0 w0 l1 w1) (fun b => b < W.heap.size) (fun _ h => h) (show A.VL (A.inX W) _ _ from by simp only [A.VL]; exact ⟨x0, ⟨x1, True.intro⟩⟩)).mono fun e W' ⟨he, bel⟩ => ?_
  subst he
  exact ⟨_, rfl, _, _, _, [], _, [], hW', trodAll_mk1 (shut_bool Try.underlying4 _), (trodAll_cons_mk (Below.trod laidOut (by kernel_rfl) (of_decide_eq_true (by kernel_rfl)) h0 bel u0) (trodAll_cons_mk (Below.trod laidOut (by kernel_rfl) (of_decide_eq_true (by kernel_rfl)) h1 bel u1) trodAll_mk0)), rfl, bel.frame _, fun h => by cases h⟩
theorem over : Rows.extentPicksRow.holds Try.pinned (OpenSpec.ofChange Rows.extentPicksSpec) :=
  OpenClaim.holds_of_wide 4 Try.f4 rfl rfl rfl rfl rfl rfl rfl ⟨rfl, rfl, rfl, rfl, rfl⟩ rfl rfl rfl rfl rfl (by kernel_rfl) Try.func4 (by kernel_rfl)
    (of_decide_eq_true (by kernel_rfl)) (by unfold Func.isWrapper; first | (rw [if_pos (by decide +kernel)]; kernel_rfl) | (rw [if_neg (by decide +kernel)]; exact ⟨rfl, rfl⟩))
    (fun os started H enc _ => lifted os started H enc)
theorem proved : Rows.ExtentPicksSaid := over
end Go.Proofs.Ytpkbdlocmjgmbaa.extentPicks
namespace Go.Proofs.Ytpkbdlocmjgmbaa
/-- The row, under a short name, for the claim. -/
theorem extentPicks_holds : Rows.ExtentPicksSaid := extentPicks.proved
end Go.Proofs.Ytpkbdlocmjgmbaa
