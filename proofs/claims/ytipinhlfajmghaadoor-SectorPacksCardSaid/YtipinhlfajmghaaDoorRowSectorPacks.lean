/- The row of the law SectorPacks, out of its contract. No condition. -/
import Derived.Test.YtipinhlfajmghaaDoorRows
import Derived.Test.YtipinhlfajmghaaDoorYo
import Derived.Test.YtipinhlfajmghaaDoorAm19
import Derived.Test.YtipinhlfajmghaaDoorOs
import Derived.WalkKit
import Derived.ProofKit
import Derived.OpenShut
import Derived.ShutString
import Derived.ChangeOld
import Derived.Below
import Derived.SizedLaws
import Derived.Carry
import Derived.Test.YtipinhlfajmghaaDoorTie
import Derived.Test.YtipinhlfajmghaaDoorCards
import Derived.LaidMore
import Derived.Lay
import Derived.SevenTiedAt
import Derived.Stop.Joined
namespace Go.Proofs.YtipinhlfajmghaaDoor.sectorPacks
open Go.ChangeShapes Go.WideShapes Go.ChangeAt Go.RowKit
set_option linter.unusedVariables false
theorem own : ownKnob Tryd.prog.godebug = none := by kernel_rfl
theorem laidOut : laidOutB Tryd.prog = true := by kernel_rfl
set_option maxRecDepth 100000 in
theorem lifted (os : Os) (started : os.Started) (H : Type) (enc : TypeId × Value → H) :
    ReturnsInHanded {} Tryd.checked os 3 .any (fun w args => (Rows.sectorPacksSpec.pre enc Tryd.prog Tryd.f3 Rows.sectorPacksRow.domain false w args ∧ laidMetH Tryd.prog Rows.sectorPacksRow.laid w) ∧ sizedMet enc Tryd.prog Tryd.f3 (OpenSpec.ofChange Rows.sectorPacksSpec) false w args) (Rows.sectorPacksSpec.post enc Tryd.prog Tryd.f3 false true false false) := by
  refine returnsInHanded_of_change_and (C := Tryd.checked) (X := fun w _ => laidMetH Tryd.prog Rows.sectorPacksRow.laid w) (fun _ _ _ hh h => h.of_heap hh) own started (by kernel_rfl) Tryd.func3
    (ChangeSpec.witness_shaped (enc := enc) (C := Tryd.checked) (os := os) (X := fun w _ => laidMetH Tryd.prog Rows.sectorPacksRow.laid w) false (World.laidAll Tryd.prog os Rows.sectorPacksRow.laid) #[.agg #[.int .i64 0, .int .i64 0, .int .i64 0, .int .i64 0, .int .i64 0], .string ByteArray.empty] 8 (World.laidAll_os _ _ _)
      (World.shaped_of_ZipB (by kernel_rfl) (by kernel_rfl)) (by kernel_rfl) (by kernel_rfl) (by kernel_rfl)
      (by rw [MakeChecks.laidMetH_plain _ _ _ (by kernel_rfl)]; exact laidMet_laidAll _ (by kernel_rfl) (by kernel_rfl))) ?_
  intro W base args ds gs before hval0 hW hcnd hsz0 hL0 _
  have hval : ∀ (j : Nat) t v, Tryd.f3.params[j]? = some t → args[j]? = some v → Value.okWide Tryd.prog W .any base t v := hval0
  have hW' := hW
  obtain ⟨p, q, hA0, hV, rfl, hfz, hnd⟩ := hW
  have hA : DataW.TrodAll enc Tryd.prog W 0 (fun _ => true) true Tryd.f3.params.toList args.toList ds p := hA0
  rw [Tryd.params3] at hA hval
  obtain ⟨v0, vs0, d0, ds0, p0, q0, hargs, rfl, rfl, h0, r0⟩ := trodAll_cons hA
  obtain ⟨v1, vs1, d1, ds1, p1, q1, rfl, rfl, rfl, h1, r1⟩ := trodAll_cons r0
  obtain ⟨rfl, rfl, rfl⟩ := trodAll_nil r1
  obtain rfl : args = #[v0, v1] := by cases args; simp_all
  obtain ⟨rfl, rfl⟩ := trodVars_none hV
  have u0 : ∀ x ∈ p0, x.block < W.heap.size := fun x hx => by
    obtain ⟨fu, hf⟩ := h0
    exact DataW.trod_lt fu _ _ _ hf x hx
  obtain ⟨l0, w0, x0⟩ := A.open_arg (sh := (.strct (.cons (.int .i64) (.cons (.int .i64) (.cons (.int .i64) (.cons (.int .i64) (.cons (.int .i64) .none))))))) (by kernel_rfl) (hval 0 23 v0 rfl rfl) h0
  have u1 : ∀ x ∈ p1, x.block < W.heap.size := fun x hx => by
    obtain ⟨fu, hf⟩ := h1
    exact DataW.trod_lt fu _ _ _ hf x hx
  obtain ⟨l1, w1, x1⟩ := A.open_arg (sh := .str) (by kernel_rfl) (hval 1 9 v1 rfl rfl) h1
  clear hA0 hval0 hsz0
  refine (A.calls_law Tryd.func3 rfl (by kernel_rfl) (A.sectorPacks_law l0 w0 l1 w1) (fun b => b < W.heap.size) (fun _ h => h) (show A.VL (A.inX W) _ _ from by simp only [A.VL]; exact ⟨x0, ⟨x1, True.intro⟩⟩)).mono fun e W' ⟨he, bel⟩ => ?_
  subst he
  exact ⟨_, rfl, _, _, _, [], _, [], hW', trodAll_mk1 (shut_bool Tryd.underlying4 _), (trodAll_cons_mk (Below.trod laidOut (by kernel_rfl) (of_decide_eq_true (by kernel_rfl)) h0 bel u0) (trodAll_cons_mk (Below.trod laidOut (by kernel_rfl) (of_decide_eq_true (by kernel_rfl)) h1 bel u1) trodAll_mk0)), rfl, bel.frame _, fun h => by cases h⟩
theorem over : Rows.sectorPacksRow.holds Tryd.pinned (OpenSpec.ofChange Rows.sectorPacksSpec) :=
  OpenClaim.holds_of_wide 3 Tryd.f3 rfl rfl rfl rfl rfl rfl rfl ⟨rfl, rfl, rfl, rfl, rfl⟩ rfl rfl rfl rfl rfl (by kernel_rfl) Tryd.func3 (by kernel_rfl)
    (of_decide_eq_true (by kernel_rfl)) (by unfold Func.isWrapper; first | (rw [if_pos (by decide +kernel)]; kernel_rfl) | (rw [if_neg (by decide +kernel)]; exact ⟨rfl, rfl⟩))
    (fun os started H enc _ => lifted os started H enc)
theorem proved : Rows.SectorPacksCardSaid :=
  Claim7.holds_tied_plain_at .later [] [.data, .pinned] true (true, "326a7ed305a4a5574f42e81272755b430b46a125a413edd285a429975d0da177") false over (fun _ h => by cases h) (by kernel_rfl) (fun _ h => by cases h) sectorPacks_row_tie rfl ⟨rfl, rfl⟩ (by kernel_rfl) rfl
    (fun f fn hf hfn => by
      obtain rfl : f = 3 := Option.some.inj ((show Tryd.prog.funcNamed "cloisonne/cloisonnelaw06.SectorPacks" = some 3 by kernel_rfl).symm.trans hf) |>.symm
      obtain rfl : fn = Tryd.f3 := (Option.some.inj (Tryd.func3.symm.trans hfn)).symm
      exact ⟨by kernel_rfl, fun j t ht => by
        rw [Tryd.params3] at ht
        have hm : t ∈ [23, 9] := by simpa using Array.mem_of_getElem? ht
        have hall : ([23, 9].all fun u => !Tryd.prog.wantsStandIn u) = true := by kernel_rfl
        exact (show Tryd.prog.wantsStandIn t = false by simpa using List.all_eq_true.1 hall t hm)⟩)
    (by kernel_rfl)
end Go.Proofs.YtipinhlfajmghaaDoor.sectorPacks
namespace Go.Proofs.YtipinhlfajmghaaDoor
/-- The row, under a short name, for the claim. -/
theorem sectorPacks_holds : Rows.SectorPacksCardSaid := sectorPacks.proved
end Go.Proofs.YtipinhlfajmghaaDoor
