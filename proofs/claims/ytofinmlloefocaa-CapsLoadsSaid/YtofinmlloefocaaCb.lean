/- The functions of caps: a table, who is one of it, what is clear. No condition. -/
import Derived.Test.YtofinmlloefocaaCa
namespace Go.Proofs.Ytofinmlloefocaa.A
open Go
set_option linter.unusedVariables false
set_option maxRecDepth 100000
set_option pp.maxSteps 1500

/-- Rights: what each may see, and drop. -/
abbrev Rg := List (Nat × Nat)
def rgC (l : Rg) : List AV := (l.map fun r => [u64 r.1, u64 r.2]).flatten
def tabO (tags : Nat) (l : Rg) : AObj := .row [i64 tags, .slc 0 0 l.length 2]
def tabH (tags : Nat) (l : Rg) : Heap := [.row (rgC l), tabO tags l]
theorem rgC_len (l : Rg) : (rgC l).length = l.length * 2 := by
  induction l with
  | nil => rfl
  | cons x l ih =>
    show ([u64 x.1, u64 x.2] ++ rgC l).length = (l.length + 1) * 2
    rw [List.length_append, ih]
    show 2 + _ = _
    omega
theorem rgC_get : ∀ (l : Rg) (k : Nat) (r : Nat × Nat), l[k]? = some r → (rgC l)[k * 2]? = some (u64 r.1) ∧ (rgC l)[k * 2 + 1]? = some (u64 r.2)
  | [], k, r, h => by simp at h
  | x :: l, 0, r, h => by
    simp at h
    subst h
    exact ⟨rfl, rfl⟩
  | x :: l, k + 1, r, h => by
    have := rgC_get l k r (by simpa using h)
    show ([u64 x.1, u64 x.2] ++ rgC l)[(k + 1) * 2]? = _ ∧ ([u64 x.1, u64 x.2] ++ rgC l)[(k + 1) * 2 + 1]? = _
    rw [List.getElem?_append_right (by show 2 ≤ _; omega), List.getElem?_append_right (by show 2 ≤ _; omega)]
    have e1 : (k + 1) * 2 - [u64 x.1, u64 x.2].length = k * 2 := by show (k + 1) * 2 - 2 = _; omega
    have e2 : (k + 1) * 2 + 1 - [u64 x.1, u64 x.2].length = k * 2 + 1 := by show (k + 1) * 2 + 1 - 2 = _; omega
    rw [e1, e2]
    exact this
theorem renO_rg (f : Nat → Nat) (l : Rg) : renO f (.row (rgC l)) = .row (rgC l) := by
  have : ∀ l : Rg, renL f (rgC l) = rgC l := by
    intro l
    induction l with
    | nil => rfl
    | cons x l ih =>
      show renL f (u64 x.1 :: u64 x.2 :: rgC l) = _
      simp only [renL, ih]
      rfl
  simp only [renO, this]
/-- Is there such a one? -/
def oneT (l : Rg) (who : Int) : Bool := decide (0 ≤ who ∧ who < l.length)
theorem oneNil_ok (who : Int) : ACalls Try.prog 25 [.sc (.pointer none), i64 who] [] (Ret (bo false)) := by
  refine acalls_of_awp hT mixed Try.func25 rfl (by kernel_rfl) (by kernel_rfl) (Nat.le_of_ble_eq_true rfl) ?_
  refine end0 rfl rfl rfl rfl
theorem belowH_tab (tags : Nat) (l : Rg) : belowH (tabH tags l).length (tabH tags l) = true := by
  have : ∀ l : Rg, belowL 2 (rgC l) = true := by
    intro l
    induction l with
    | nil => rfl
    | cons x l ih =>
      show belowL 2 (u64 x.1 :: u64 x.2 :: rgC l) = true
      simp only [belowL, ih]
      rfl
  show (belowL 2 (rgC l) && _) = true
  rw [this]
  rfl
theorem one_ok (tags : Nat) (l : Rg) (who : Int) : ACalls Try.prog 25 [.ptr 1 0, i64 who] (tabH tags l) (RetH (bo (oneT l who)) (tabH tags l)) := by
  refine acalls_of_awp hT mixed Try.func25 rfl (by kernel_rfl) (by kernel_rfl) (Nat.le_of_ble_eq_true rfl) ?_
  refine forkD (fun h => ?_) (fun h => ?_)
  · refine forkD (fun h2 => ?_) (fun h2 => ?_)
    · refine endH rfl rfl rfl ⟨.inl rfl, .inl rfl, True.intro⟩ (Nat.le_refl 2) (belowH_tab tags l) (congrArg bo (decide_eq_true ⟨by omega, h2⟩).symm)
    · refine endH rfl rfl rfl ⟨.inl rfl, .inl rfl, True.intro⟩ (Nat.le_refl 2) (belowH_tab tags l) (congrArg bo (decide_eq_false (fun hh => h2 hh.2)).symm)
  · refine endH rfl rfl rfl ⟨.inl rfl, .inl rfl, True.intro⟩ (Nat.le_refl 2) (belowH_tab tags l) (congrArg bo (decide_eq_false (fun hh => by omega)).symm)
end Go.Proofs.Ytofinmlloefocaa.A
