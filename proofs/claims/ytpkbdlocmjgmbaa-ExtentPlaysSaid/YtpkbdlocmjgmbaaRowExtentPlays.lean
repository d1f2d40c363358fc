/- The row of the law ExtentPlays, out of its contract. No condition. -/
import Derived.Test.YtpkbdlocmjgmbaaRows
import Derived.Test.YtpkbdlocmjgmbaaZi
import Derived.Test.YtpkbdlocmjgmbaaAm19
import Derived.Test.YtpkbdlocmjgmbaaOs
import Derived.WalkKit
import Derived.ProofKit
import Derived.OpenShut
import Derived.ShutString
import Derived.ChangeOld
import Derived.Below
import Derived.SizedLaws
import Derived.Carry
namespace Go.Proofs.Ytpkbdlocmjgmbaa.extentPlays
open Go.ChangeShapes Go.WideShapes Go.ChangeAt Go.RowKit
set_option linter.unusedVariables false
theorem own : ownKnob Try.prog.godebug = none := by kernel_rfl
theorem laidOut : laidOutB Try.prog = true := by kernel_rfl
set_option maxRecDepth 100000 in
theorem lifted (os : Os) (started : os.Started) (H : Type) (enc : TypeId × Value → H) :
    ReturnsInHanded {} Try.checked os 5 .any (Rows.extentPlaysSpec.pre6 enc Try.prog Try.f5 Rows.extentPlaysRow.domain false) (Rows.extentPlaysSpec.post enc Try.prog Try.f5 false true false false) := by
  refine returnsInHanded_of_change_sized (C := Try.checked) own started (by kernel_rfl) Try.func5
    (ChangeSpec.witness6 (enc := enc) (C := Try.checked) false ⟨#[], #[.int .i64 0, .int .i64 0, .slice none 0 0], []⟩ 8 (by kernel_rfl) (by kernel_rfl) (by kernel_rfl) (by kernel_rfl)) ?_
  intro W base args ds gs before hval0 hW hcnd hsz0 _
  have hval : ∀ (j : Nat) t v, Try.f5.params[j]? = some t → args[j]? = some v → Value.okWide Try.prog W .any base t v := hval0
  have hW' := hW
  obtain ⟨p, q, hA0, hV, rfl, hfz, hnd⟩ := hW
  have hA : DataW.TrodAll enc Try.prog W 0 (fun _ => true) true Try.f5.params.toList args.toList ds p := hA0
  rw [Try.params5] at hA hval
  obtain ⟨v0, vs0, d0, ds0, p0, q0, hargs, rfl, rfl, h0, r0⟩ := trodAll_cons hA
  obtain ⟨v1, vs1, d1, ds1, p1, q1, rfl, rfl, rfl, h1, r1⟩ := trodAll_cons r0
  obtain ⟨v2, vs2, d2, ds2, p2, q2, rfl, rfl, rfl, h2, r2⟩ := trodAll_cons r1
  obtain ⟨rfl, rfl, rfl⟩ := trodAll_nil r2
  obtain rfl : args = #[v0, v1, v2] := by cases args; simp_all
  obtain ⟨rfl, rfl⟩ := trodVars_none hV
  have u0 : ∀ x ∈ p0, x.block < W.heap.size := fun x hx => by
    obtain ⟨fu, hf⟩ := h0
    exact DataW.trod_lt fu _ _ _ hf x hx
  obtain ⟨l0, w0, x0⟩ := A.open_arg (sh := (.int .i64)) (by kernel_rfl) (hval 0 3 v0 rfl rfl) h0
  have u1 : ∀ x ∈ p1, x.block < W.heap.size := fun x hx => by
    obtain ⟨fu, hf⟩ := h1
    exact DataW.trod_lt fu _ _ _ hf x hx
  obtain ⟨l1, w1, x1⟩ := A.open_arg (sh := (.int .i64)) (by kernel_rfl) (hval 1 3 v1 rfl rfl) h1
  have u2 : ∀ x ∈ p2, x.block < W.heap.size := fun x hx => by
    obtain ⟨fu, hf⟩ := h2
    exact DataW.trod_lt fu _ _ _ hf x hx
  obtain ⟨l2, w2, x2⟩ := A.open_arg (sh := (.slice (.strct (.cons (.int .i64) (.cons (.int .i64) (.cons (.int .i64) (.cons .str (.cons (.slice (.strct (.cons (.int .i64) (.cons (.int .i64) .none)))) .none)))))))) (by kernel_rfl) (hval 2 22 v2 rfl rfl) h2
  clear hA0 hval0 hsz0
  refine (A.calls_law Try.func5 rfl (by kernel_rfl) (A.extentPlays_law l0 w0 l1 w1 l2 w2) (fun b => b < W.heap.size) (fun _ h => h) (show A.VL (A.inX W) _ _ from by simp only [A.VL]; exact ⟨x0, ⟨x1, ⟨x2, True.intro⟩⟩⟩)).mono fun e W' ⟨he, bel⟩ => ?_
  subst he
  exact ⟨_, rfl, _, _, _, [], _, [], hW', trodAll_mk1 (shut_bool Try.underlying4 _), (trodAll_cons_mk (Below.trod laidOut (by kernel_rfl) (of_decide_eq_true (by kernel_rfl)) h0 bel u0) (trodAll_cons_mk (Below.trod laidOut (by kernel_rfl) (of_decide_eq_true (by kernel_rfl)) h1 bel u1) (trodAll_cons_mk (Below.trod laidOut (by kernel_rfl) (of_decide_eq_true (by kernel_rfl)) h2 bel u2) trodAll_mk0))), rfl, bel.frame _, fun h => by cases h⟩
theorem over : Rows.extentPlaysRow.holds Try.pinned (OpenSpec.ofChange Rows.extentPlaysSpec) :=
  OpenClaim.holds_of_wide 5 Try.f5 rfl rfl rfl rfl rfl rfl rfl ⟨rfl, rfl, rfl, rfl, rfl⟩ rfl rfl rfl rfl rfl (by kernel_rfl) Try.func5 (by kernel_rfl)
    (of_decide_eq_true (by kernel_rfl)) (by unfold Func.isWrapper; first | (rw [if_pos (by decide +kernel)]; kernel_rfl) | (rw [if_neg (by decide +kernel)]; exact ⟨rfl, rfl⟩))
    (fun os started H enc _ => lifted os started H enc)
theorem proved : Rows.ExtentPlaysSaid := over
end Go.Proofs.Ytpkbdlocmjgmbaa.extentPlays
namespace Go.Proofs.Ytpkbdlocmjgmbaa
/-- The row, under a short name, for the claim. -/
theorem extentPlays_holds : Rows.ExtentPlaysSaid := extentPlays.proved
end Go.Proofs.Ytpkbdlocmjgmbaa
