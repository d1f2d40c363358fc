/- The functions of caps: what is clear to somebody; nobody's table. No condition. -/
import Derived.Test.YtofinmlloefocaaCc
namespace Go.Proofs.Ytofinmlloefocaa.A
open Go
set_option linter.unusedVariables false
set_option maxRecDepth 100000
set_option pp.maxSteps 1500

def clearT (g : Rg) (who : Int) (a l : List Nat) : Bool := oneT g who && !l.any (bad (maskOf g who false) a)
theorem clear_ok (tags : Nat) (g : Rg) (who : Int) (a l : List Nat) (hg : RgOk g) (ha : a.length < 9223372036854775807) (hl : l.length < 9223372036854775807) (hx : ∀ x ∈ l, x < 18446744073709551616) :
    ACalls Try.prog 10 [.ptr 1 0, i64 who, us a, us l] (tabH tags g) (RetH (bo (clearT g who a l)) (tabH tags g)) := by
  have h1 := one_ok tags g who
  have h2 := containsF_ok (maskOf g who false) a l (maskOf_lt hg who false) ha hl hx
  unfold clearT
  refine acalls_of_awp hT mixed Try.func10 rfl (by kernel_rfl) (by kernel_rfl) (Nat.le_of_ble_eq_true rfl) ?_
  refine callH h1 [0, 1] rfl ⟨.inl (by rw [renO_rg]; rfl), .inl rfl, True.intro⟩ rfl rfl (H' := tabH tags g ++ [.row [us a]]) (by simp only [tabH, renH, renO_rg]; rfl) ?_
  refine fork (fun h => ?_) (fun h => ?_)
  · have ho := of_decide_eq_true h
    refine Ob.intro ho ?_
    refine optK_intro (mask_rd (tags := tags) h false) ?_
    refine callH h2 [3, 2] rfl ⟨.inl rfl, .inl rfl, True.intro⟩ rfl rfl (H' := tabH tags g ++ [.row [us a], .row [u64 (maskOf g who false)]]) rfl ?_
    refine fork (fun h3 => ?_) (fun h3 => ?_)
    · refine endH rfl rfl rfl ⟨.inl rfl, .inl rfl, True.intro⟩ (Nat.le_refl 2) (belowH_tab tags g) (congrArg bo ?_)
      rw [h, h3]
      rfl
    · refine endH rfl rfl rfl ⟨.inl rfl, .inl rfl, True.intro⟩ (Nat.le_refl 2) (belowH_tab tags g) (congrArg bo ?_)
      rw [h, h3]
      rfl
  · refine endH rfl rfl rfl ⟨.inl rfl, .inl rfl, True.intro⟩ (Nat.le_refl 2) (belowH_tab tags g) (congrArg bo ?_)
    rw [h]
    rfl
theorem clearNil_ok (who : Int) (a l : List Nat) : ACalls Try.prog 10 [.sc (.pointer none), i64 who, us a, us l] [] (Ret (bo false)) := by
  refine acalls_of_awp hT mixed Try.func10 rfl (by kernel_rfl) (by kernel_rfl) (Nat.le_of_ble_eq_true rfl) ?_
  refine callP (oneNil_ok who) rfl rfl ?_
  refine end0 rfl rfl rfl rfl
theorem mayDropNil_ok (who : Int) (x : Nat) : ACalls Try.prog 18 [.sc (.pointer none), i64 who, u64 x] [] (Ret (bo false)) := by
  refine acalls_of_awp hT mixed Try.func18 rfl (by kernel_rfl) (by kernel_rfl) (Nat.le_of_ble_eq_true rfl) ?_
  refine callP (oneNil_ok who) rfl rfl ?_
  refine end0 rfl rfl rfl rfl
theorem peopleNil_ok : ACalls Try.prog 19 [.sc (.pointer none)] [] (Ret (i64 0)) := by
  refine acalls_of_awp hT mixed Try.func19 rfl (by kernel_rfl) (by kernel_rfl) (Nat.le_of_ble_eq_true rfl) ?_
  refine end0 rfl rfl rfl rfl
theorem tagsNil_ok : ACalls Try.prog 13 [.sc (.pointer none)] [] (Ret (i64 0)) := by
  refine acalls_of_awp hT mixed Try.func13 rfl (by kernel_rfl) (by kernel_rfl) (Nat.le_of_ble_eq_true rfl) ?_
  refine end0 rfl rfl rfl rfl
def nilS : AV := .sc (.slice none 0 0)
theorem plusNil_ok (who : Int) : ACalls Try.prog 20 [.sc (.pointer none), i64 who] [] (Ret nilS) := by
  refine acalls_of_awp hT mixed Try.func20 rfl (by kernel_rfl) (by kernel_rfl) (Nat.le_of_ble_eq_true rfl) ?_
  refine callP (oneNil_ok who) rfl rfl ?_
  refine end0 rfl rfl rfl rfl
theorem minusNil_ok (who : Int) : ACalls Try.prog 21 [.sc (.pointer none), i64 who] [] (Ret nilS) := by
  refine acalls_of_awp hT mixed Try.func21 rfl (by kernel_rfl) (by kernel_rfl) (Nat.le_of_ble_eq_true rfl) ?_
  refine callP (oneNil_ok who) rfl rfl ?_
  refine end0 rfl rfl rfl rfl
theorem masksNil_ok : ACalls Try.prog 12 [.sc (.pointer none)] [] (Ret (.tup [nilS, nilS])) := by
  refine acalls_of_awp hT mixed Try.func12 rfl (by kernel_rfl) (by kernel_rfl) (Nat.le_of_ble_eq_true rfl) ?_
  refine end0 rfl rfl rfl rfl
/-- A deed. -/
def deed (k w t : Int) (x : Nat) (m : Bool) : AV := .agg [i64 k, i64 w, i64 t, u64 x, bo m]
theorem checkNil_ok (k w t : Int) (x : Nat) (m : Bool) : ACalls Try.prog 14 [.sc (.pointer none), deed k w t x m] [] (Ret (i64 2)) := by
  cases m <;>
  · refine acalls_of_awp hT mixed Try.func14 rfl (by kernel_rfl) (by kernel_rfl) (Nat.le_of_ble_eq_true rfl) ?_
    refine end0 rfl rfl rfl rfl
theorem doNil_ok (k w t : Int) (x : Nat) (m : Bool) : ACalls Try.prog 11 [.sc (.pointer none), deed k w t x m] [] (Ret (.tup [u64 0, i64 2])) := by
  cases m <;>
  · refine acalls_of_awp hT mixed Try.func11 rfl (by kernel_rfl) (by kernel_rfl) (Nat.le_of_ble_eq_true rfl) ?_
    refine callP (checkNil_ok k w t x _) rfl rfl ?_
    refine end0 rfl rfl rfl rfl
end Go.Proofs.Ytofinmlloefocaa.A
