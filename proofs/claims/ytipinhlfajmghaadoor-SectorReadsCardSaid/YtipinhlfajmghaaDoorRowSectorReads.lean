/- The row of the law SectorReads, out of its contract. No condition. -/
import Derived.Test.YtipinhlfajmghaaDoorRows
import Derived.Test.YtipinhlfajmghaaDoorYl
import Derived.Test.YtipinhlfajmghaaDoorAm19
import Derived.Test.YtipinhlfajmghaaDoorOs
import Derived.WalkKit
import Derived.ProofKit
import Derived.OpenShut
import Derived.ShutString
import Derived.ChangeOld
import Derived.Below
import Derived.SizedLaws
import Derived.Carry
import Derived.Test.YtipinhlfajmghaaDoorTie
import Derived.Test.YtipinhlfajmghaaDoorCards
import Derived.LaidMore
import Derived.Lay
import Derived.SevenTiedAt
import Derived.Stop.Joined
namespace Go.Proofs.YtipinhlfajmghaaDoor.sectorReads
open Go.ChangeShapes Go.WideShapes Go.ChangeAt Go.RowKit
set_option linter.unusedVariables false
theorem own : ownKnob Tryd.prog.godebug = none := by kernel_rfl
theorem laidOut : laidOutB Tryd.prog = true := by kernel_rfl
set_option maxRecDepth 100000 in
theorem lifted (os : Os) (started : os.Started) (H : Type) (enc : TypeId × Value → H) :
    ReturnsInHanded {} Tryd.checked os 4 .any (fun w args => (Rows.sectorReadsSpec.pre enc Tryd.prog Tryd.f4 Rows.sectorReadsRow.domain false w args ∧ laidMetH Tryd.prog Rows.sectorReadsRow.laid w) ∧ sizedMet enc Tryd.prog Tryd.f4 (OpenSpec.ofChange Rows.sectorReadsSpec) false w args) (Rows.sectorReadsSpec.post enc Tryd.prog Tryd.f4 false true false false) := by
  refine returnsInHanded_of_change_and (C := Tryd.checked) (X := fun w _ => laidMetH Tryd.prog Rows.sectorReadsRow.laid w) (fun _ _ _ hh h => h.of_heap hh) own started (by kernel_rfl) Tryd.func4
    (ChangeSpec.witness_shaped (enc := enc) (C := Tryd.checked) (os := os) (X := fun w _ => laidMetH Tryd.prog Rows.sectorReadsRow.laid w) false (World.laidAll Tryd.prog os Rows.sectorReadsRow.laid) #[.string ByteArray.empty] 8 (World.laidAll_os _ _ _)
      (World.shaped_of_ZipB (by kernel_rfl) (by kernel_rfl)) (by kernel_rfl) (by kernel_rfl) (by kernel_rfl)
      (by rw [MakeChecks.laidMetH_plain _ _ _ (by kernel_rfl)]; exact laidMet_laidAll _ (by kernel_rfl) (by kernel_rfl))) ?_
  intro W base args ds gs before hval0 hW hcnd hsz0 hL0 _
  have hval : ∀ (j : Nat) t v, Tryd.f4.params[j]? = some t → args[j]? = some v → Value.okWide Tryd.prog W .any base t v := hval0
  have hW' := hW
  obtain ⟨p, q, hA0, hV, rfl, hfz, hnd⟩ := hW
  have hA : DataW.TrodAll enc Tryd.prog W 0 (fun _ => true) true Tryd.f4.params.toList args.toList ds p := hA0
  rw [Tryd.params4] at hA hval
  obtain ⟨v0, vs0, d0, ds0, p0, q0, hargs, rfl, rfl, h0, r0⟩ := trodAll_cons hA
  obtain ⟨rfl, rfl, rfl⟩ := trodAll_nil r0
  obtain rfl : args = #[v0] := by cases args; simp_all
  obtain ⟨rfl, rfl⟩ := trodVars_none hV
  have u0 : ∀ x ∈ p0, x.block < W.heap.size := fun x hx => by
    obtain ⟨fu, hf⟩ := h0
    exact DataW.trod_lt fu _ _ _ hf x hx
  obtain ⟨l0, w0, x0⟩ := A.open_arg (sh := .str) (by kernel_rfl) (hval 0 9 v0 rfl rfl) h0
  clear hA0 hval0 hsz0
  refine (A.calls_law Tryd.func4 rfl (by kernel_rfl) (A.sectorReads_law l0 w0) (fun b => b < W.heap.size) (fun _ h => h) (show A.VL (A.inX W) _ _ from by simp only [A.VL]; exact ⟨x0, True.intro⟩)).mono fun e W' ⟨he, bel⟩ => ?_
  subst he
  exact ⟨_, rfl, _, _, _, [], _, [], hW', trodAll_mk1 (shut_bool Tryd.underlying4 _), (trodAll_cons_mk (Below.trod laidOut (by kernel_rfl) (of_decide_eq_true (by kernel_rfl)) h0 bel u0) trodAll_mk0), rfl, bel.frame _, fun h => by cases h⟩
theorem over : Rows.sectorReadsRow.holds Tryd.pinned (OpenSpec.ofChange Rows.sectorReadsSpec) :=
  OpenClaim.holds_of_wide 4 Tryd.f4 rfl rfl rfl rfl rfl rfl rfl ⟨rfl, rfl, rfl, rfl, rfl⟩ rfl rfl rfl rfl rfl (by kernel_rfl) Tryd.func4 (by kernel_rfl)
    (of_decide_eq_true (by kernel_rfl)) (by unfold Func.isWrapper; first | (rw [if_pos (by decide +kernel)]; kernel_rfl) | (rw [if_neg (by decide +kernel)]; exact ⟨rfl, rfl⟩))
    (fun os started H enc _ => lifted os started H enc)
theorem proved : Rows.SectorReadsCardSaid :=
  Claim7.holds_tied_plain_at .later [] [.data, .pinned] true (true, "326a7ed305a4a5574f42e81272755b430b46a125a413edd285a429975d0da177") false over (fun _ h => by cases h) (by kernel_rfl) (fun _ h => by cases h) sectorReads_row_tie rfl ⟨rfl, rfl⟩ (by kernel_rfl) rfl
    (fun f fn hf hfn => by
      obtain rfl : f = 4 := Option.some.inj ((show Tryd.prog.funcNamed "cloisonne/cloisonnelaw06.SectorReads" = some 4 by kernel_rfl).symm.trans hf) |>.symm
      obtain rfl : fn = Tryd.f4 := (Option.some.inj (Tryd.func4.symm.trans hfn)).symm
      exact ⟨by kernel_rfl, fun j t ht => by
        rw [Tryd.params4] at ht
        have hm : t ∈ [9] := by simpa using Array.mem_of_getElem? ht
        have hall : ([9].all fun u => !Tryd.prog.wantsStandIn u) = true := by kernel_rfl
        exact (show Tryd.prog.wantsStandIn t = false by simpa using List.all_eq_true.1 hall t hm)⟩)
    (by kernel_rfl)
end Go.Proofs.YtipinhlfajmghaaDoor.sectorReads
namespace Go.Proofs.YtipinhlfajmghaaDoor
/-- The row, under a short name, for the claim. -/
theorem sectorReads_holds : Rows.SectorReadsCardSaid := sectorReads.proved
end Go.Proofs.YtipinhlfajmghaaDoor
