/- The row of the law SeglogNil, out of its contract. No condition. -/
import Derived.Test.YthbncljlclcecaaDoorRows
import Derived.Test.YthbncljlclcecaaDoorMi
import Derived.Test.YthbncljlclcecaaDoorAm19
import Derived.Test.YthbncljlclcecaaDoorOs
import Derived.WalkKit
import Derived.ProofKit
import Derived.OpenShut
import Derived.ShutString
import Derived.ChangeOld
import Derived.Below
import Derived.SizedLaws
import Derived.Carry
import Derived.Test.YthbncljlclcecaaDoorTie
import Derived.Test.YthbncljlclcecaaDoorCards
import Derived.LaidMore
import Derived.Lay
import Derived.SevenTiedAt
import Derived.Stop.Joined
namespace Go.Proofs.YthbncljlclcecaaDoor.seglogNil
open Go.ChangeShapes Go.WideShapes Go.ChangeAt Go.RowKit
set_option linter.unusedVariables false
theorem own : ownKnob Tryd.prog.godebug = none := by kernel_rfl
theorem laidOut : laidOutB Tryd.prog = true := by kernel_rfl
set_option maxRecDepth 100000 in
theorem lifted (os : Os) (started : os.Started) (H : Type) (enc : TypeId × Value → H) :
    ReturnsInHanded {} Tryd.checked os 4 .any (fun w args => (Rows.seglogNilSpec.pre enc Tryd.prog Tryd.f4 Rows.seglogNilRow.domain false w args ∧ laidMetH Tryd.prog Rows.seglogNilRow.laid w) ∧ sizedMet enc Tryd.prog Tryd.f4 (OpenSpec.ofChange Rows.seglogNilSpec) false w args) (Rows.seglogNilSpec.post enc Tryd.prog Tryd.f4 false true false false) := by
  refine returnsInHanded_of_change_and (C := Tryd.checked) (X := fun w _ => laidMetH Tryd.prog Rows.seglogNilRow.laid w) (fun _ _ _ hh h => h.of_heap hh) own started (by kernel_rfl) Tryd.func4
    (ChangeSpec.witness_shaped (enc := enc) (C := Tryd.checked) (os := os) (X := fun w _ => laidMetH Tryd.prog Rows.seglogNilRow.laid w) false (World.laidAll Tryd.prog os Rows.seglogNilRow.laid) #[.int .i64 0, .string ByteArray.empty] 8 (World.laidAll_os _ _ _)
      (World.shaped_of_ZipB (by kernel_rfl) (by kernel_rfl)) (by kernel_rfl) (by kernel_rfl) (by kernel_rfl)
      (by rw [MakeChecks.laidMetH_plain _ _ _ (by kernel_rfl)]; exact laidMet_laidAll _ (by kernel_rfl) (by kernel_rfl))) ?_
  intro W base args ds gs before hval0 hW hcnd hsz0 hL0 _
  have hval : ∀ (j : Nat) t v, Tryd.f4.params[j]? = some t → args[j]? = some v → Value.okWide Tryd.prog W .any base t v := hval0
  have hW' := hW
  obtain ⟨p, q, hA0, hV, rfl, hfz, hnd⟩ := hW
  have hA : DataW.TrodAll enc Tryd.prog W 0 (fun _ => true) true Tryd.f4.params.toList args.toList ds p := hA0
  rw [Tryd.params4] at hA hval
  obtain ⟨v0, vs0, d0, ds0, p0, q0, hargs, rfl, rfl, h0, r0⟩ := trodAll_cons hA
  obtain ⟨v1, vs1, d1, ds1, p1, q1, rfl, rfl, rfl, h1, r1⟩ := trodAll_cons r0
  obtain ⟨rfl, rfl, rfl⟩ := trodAll_nil r1
  obtain rfl : args = #[v0, v1] := by cases args; simp_all
  obtain ⟨rfl, rfl⟩ := trodVars_none hV
  have u0 : ∀ x ∈ p0, x.block < W.heap.size := fun x hx => by
    obtain ⟨fu, hf⟩ := h0
    exact DataW.trod_lt fu _ _ _ hf x hx
  obtain ⟨l0, w0, x0⟩ := A.open_arg (sh := (.int .i64)) (by kernel_rfl) (hval 0 3 v0 rfl rfl) h0
  have u1 : ∀ x ∈ p1, x.block < W.heap.size := fun x hx => by
    obtain ⟨fu, hf⟩ := h1
    exact DataW.trod_lt fu _ _ _ hf x hx
  obtain ⟨l1, w1, x1⟩ := A.open_arg (sh := .str) (by kernel_rfl) (hval 1 9 v1 rfl rfl) h1
  clear hA0 hval0 hsz0
  refine (A.calls_law Tryd.func4 rfl (by kernel_rfl) (A.seglogNil_law l0 w0 l1 w1) (fun b => b < W.heap.size) (fun _ h => h) (show A.VL (A.inX W) _ _ from by simp only [A.VL]; exact ⟨x0, ⟨x1, True.intro⟩⟩)).mono fun e W' ⟨he, bel⟩ => ?_
  subst he
  exact ⟨_, rfl, _, _, _, [], _, [], hW', trodAll_mk1 (shut_bool Tryd.underlying4 _), (trodAll_cons_mk (Below.trod laidOut (by kernel_rfl) (of_decide_eq_true (by kernel_rfl)) h0 bel u0) (trodAll_cons_mk (Below.trod laidOut (by kernel_rfl) (of_decide_eq_true (by kernel_rfl)) h1 bel u1) trodAll_mk0)), rfl, bel.frame _, fun h => by cases h⟩
theorem over : Rows.seglogNilRow.holds Tryd.pinned (OpenSpec.ofChange Rows.seglogNilSpec) :=
  OpenClaim.holds_of_wide 4 Tryd.f4 rfl rfl rfl rfl rfl rfl rfl ⟨rfl, rfl, rfl, rfl, rfl⟩ rfl rfl rfl rfl rfl (by kernel_rfl) Tryd.func4 (by kernel_rfl)
    (of_decide_eq_true (by kernel_rfl)) (by unfold Func.isWrapper; first | (rw [if_pos (by decide +kernel)]; kernel_rfl) | (rw [if_neg (by decide +kernel)]; exact ⟨rfl, rfl⟩))
    (fun os started H enc _ => lifted os started H enc)
theorem proved : Rows.SeglogNilCardSaid :=
  Claim7.holds_tied_plain_at .later [] [.data, .pinned] true (true, "758c9e8af3632702c01035eb83216b53bdbd3d0c585d61c4bacf10282ead88dc") false over (fun _ h => by cases h) (by kernel_rfl) (fun _ h => by cases h) seglogNil_row_tie rfl ⟨rfl, rfl⟩ (by kernel_rfl) rfl
    (fun f fn hf hfn => by
      obtain rfl : f = 4 := Option.some.inj ((show Tryd.prog.funcNamed "cloisonne/cloisonnelaw07.SeglogNil" = some 4 by kernel_rfl).symm.trans hf) |>.symm
      obtain rfl : fn = Tryd.f4 := (Option.some.inj (Tryd.func4.symm.trans hfn)).symm
      exact ⟨by kernel_rfl, fun j t ht => by
        rw [Tryd.params4] at ht
        have hm : t ∈ [3, 9] := by simpa using Array.mem_of_getElem? ht
        have hall : ([3, 9].all fun u => !Tryd.prog.wantsStandIn u) = true := by kernel_rfl
        exact (show Tryd.prog.wantsStandIn t = false by simpa using List.all_eq_true.1 hall t hm)⟩)
    (by kernel_rfl)
end Go.Proofs.YthbncljlclcecaaDoor.seglogNil
namespace Go.Proofs.YthbncljlclcecaaDoor
/-- The row, under a short name, for the claim. -/
theorem seglogNil_holds : Rows.SeglogNilCardSaid := seglogNil.proved
end Go.Proofs.YthbncljlclcecaaDoor
