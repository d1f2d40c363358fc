/- The functions of caps: bits, lists, functions handed in. No condition. -/
import Derived.Test.YtkbpddejafdmdaaGreatBb
import Derived.Laws.Bits64
namespace Go.Proofs.YtkbpddejafdmdaaGreat.A
open Go
set_option linter.unusedVariables false
set_option maxRecDepth 100000
set_option pp.maxSteps 1500

/-! ### Bits -/
/-- A tag's bit. -/
def bitS (x : Nat) : Nat := if x < 1 ∨ 16 < x then 0 else 2 ^ (x - 1)
def hasS (s x : Nat) : Bool := !decide (s &&& bitS x = 0)
end Go.Proofs.YtkbpddejafdmdaaGreat.A

namespace Go.Proofs.YtkbpddejafdmdaaGreat.A
open Go
set_option linter.unusedVariables false
set_option maxRecDepth 100000
set_option pp.maxSteps 1500

/-- Rights: what each may see, and drop. -/
abbrev Rg := List (Nat × Nat)
def rgC (l : Rg) : List AV := (l.map fun r => [u64 r.1, u64 r.2]).flatten
def tabO (tags : Nat) (l : Rg) : AObj := .row [i64 tags, .slc 0 0 l.length 2]
def tabH (tags : Nat) (l : Rg) : Heap := [.row (rgC l), tabO tags l]
theorem rgC_len (l : Rg) : (rgC l).length = l.length * 2 := by
  induction l with
  | nil => rfl
  | cons x l ih =>
    show ([u64 x.1, u64 x.2] ++ rgC l).length = (l.length + 1) * 2
    rw [List.length_append, ih]
    show 2 + _ = _
    omega
theorem rgC_get : ∀ (l : Rg) (k : Nat) (r : Nat × Nat), l[k]? = some r → (rgC l)[k * 2]? = some (u64 r.1) ∧ (rgC l)[k * 2 + 1]? = some (u64 r.2)
  | [], k, r, h => by simp at h
  | x :: l, 0, r, h => by
    simp at h
    subst h
    exact ⟨rfl, rfl⟩
  | x :: l, k + 1, r, h => by
    have := rgC_get l k r (by simpa using h)
    show ([u64 x.1, u64 x.2] ++ rgC l)[(k + 1) * 2]? = _ ∧ ([u64 x.1, u64 x.2] ++ rgC l)[(k + 1) * 2 + 1]? = _
    rw [List.getElem?_append_right (by show 2 ≤ _; omega), List.getElem?_append_right (by show 2 ≤ _; omega)]
    have e1 : (k + 1) * 2 - [u64 x.1, u64 x.2].length = k * 2 := by show (k + 1) * 2 - 2 = _; omega
    have e2 : (k + 1) * 2 + 1 - [u64 x.1, u64 x.2].length = k * 2 + 1 := by show (k + 1) * 2 + 1 - 2 = _; omega
    rw [e1, e2]
    exact this
theorem renO_rg (f : Nat → Nat) (l : Rg) : renO f (.row (rgC l)) = .row (rgC l) := by
  have : ∀ l : Rg, renL f (rgC l) = rgC l := by
    intro l
    induction l with
    | nil => rfl
    | cons x l ih =>
      show renL f (u64 x.1 :: u64 x.2 :: rgC l) = _
      simp only [renL, ih]
      rfl
  simp only [renO, this]
theorem belowH_tab (tags : Nat) (l : Rg) : belowH (tabH tags l).length (tabH tags l) = true := by
  have : ∀ l : Rg, belowL 2 (rgC l) = true := by
    intro l
    induction l with
    | nil => rfl
    | cons x l ih =>
      show belowL 2 (u64 x.1 :: u64 x.2 :: rgC l) = true
      simp only [belowL, ih]
      rfl
  show (belowL 2 (rgC l) && _) = true
  rw [this]
  rfl
end Go.Proofs.YtkbpddejafdmdaaGreat.A

namespace Go.Proofs.YtkbpddejafdmdaaGreat.A
open Go
set_option linter.unusedVariables false
set_option maxRecDepth 100000
set_option pp.maxSteps 1500

theorem newBad_ok (n : Int) (h : n < 1 ∨ 8 < n) : ACalls Tryz.prog 60 [i64 n] [] (Ret (.tup [.sc (.pointer none), i64 1])) := by
  refine acalls_of_awp hT mixed Tryz.func60 rfl (by kernel_rfl) (by kernel_rfl) (Nat.le_of_ble_eq_true rfl) ?_
  refine forkD (fun h1 => ?_) (fun h1 => ?_)
  · refine end0 rfl rfl rfl rfl
  · refine forkD (fun h2 => ?_) (fun h2 => by omega)
    refine end0 rfl rfl rfl rfl
def nobody (n : Nat) : Rg := List.replicate n (0, 0)
theorem nobody_len (n : Nat) : (nobody n).length = n := List.length_replicate
theorem zeros_rg (z : Value) (hz : z.cells.toList.map ofC = [u64 0, u64 0]) (n : Nat) : zerosA z n = rgC (nobody n) := by
  unfold zerosA rgC nobody
  rw [hz, List.map_replicate]
  rfl
theorem new_ok (n : Nat) (h1 : 1 ≤ n) (h8 : n ≤ 8) : ACalls Tryz.prog 60 [i64 n] [] (RetH (.tup [.ptr 1 0, i64 0]) (tabH 0 (nobody n))) := by
  refine acalls_of_awp hT mixed Tryz.func60 rfl (by kernel_rfl) (by kernel_rfl) (Nat.le_of_ble_eq_true rfl) ?_
  refine forkD (fun h => by omega) (fun h => ?_)
  refine forkD (fun h => by omega) (fun h => ?_)
  refine Ob.intro (show (0 : Int) ≤ (n : Nat) ∧ ((n : Nat) : Int) ≤ (n : Nat) ∧ ((n : Nat) : Int) ≤ 140737488355328 ∧ ((16 : Nat) : Int) * (n : Nat) ≤ 140737488355328 by omega) ?_
  refine endH rfl rfl rfl ⟨.inl ?_, .inl ?_, True.intro⟩ (Nat.zero_le 2) (belowH_tab 0 (nobody n)) rfl
  · exact congrArg AObj.row (zeros_rg _ rfl n).symm
  · show tabO 0 (nobody n) = AObj.row [i64 0, .slc 0 0 n 2]
    unfold tabO
    rw [nobody_len]
    rfl
def RgOk (l : Rg) : Prop := l.length ≤ 8 ∧ ∀ r ∈ l, r.1 < 18446744073709551616 ∧ r.2 < 18446744073709551616
/-! ### What is clear -/
def bad (p : Nat) (at_ : List Nat) (x : Nat) : Bool := !hasS p x && !decide (x ∈ at_)
end Go.Proofs.YtkbpddejafdmdaaGreat.A

namespace Go.Proofs.YtkbpddejafdmdaaGreat.A
open Go
set_option linter.unusedVariables false
set_option maxRecDepth 100000
set_option pp.maxSteps 1500

end Go.Proofs.YtkbpddejafdmdaaGreat.A

namespace Go.Proofs.YtkbpddejafdmdaaGreat.A
open Go
set_option linter.unusedVariables false
set_option maxRecDepth 100000
set_option pp.maxSteps 1500

end Go.Proofs.YtkbpddejafdmdaaGreat.A

namespace Go.Proofs.YtkbpddejafdmdaaGreat.A
open Go
set_option linter.unusedVariables false
set_option maxRecDepth 100000
set_option pp.maxSteps 1500

theorem rgC_set : ∀ (g : Rg) (k : Nat) (r : Nat × Nat) (a : Nat), g[k]? = some r → (rgC g).set (k * 2) (u64 a) = rgC (g.set k (a, r.2)) ∧ (rgC g).set (k * 2 + 1) (u64 a) = rgC (g.set k (r.1, a))
  | [], k, r, a, h => by simp at h
  | z :: g, 0, r, a, h => by
    simp at h
    subst h
    exact ⟨rfl, rfl⟩
  | z :: g, k + 1, r, a, h => by
    have := rgC_set g k r a (by simpa using h)
    constructor
    · show (u64 z.1 :: u64 z.2 :: rgC g).set ((k + 1) * 2) (u64 a) = u64 z.1 :: u64 z.2 :: rgC (g.set k (a, r.2))
      rw [← this.1, show (k + 1) * 2 = k * 2 + 1 + 1 by omega]
      rfl
    · show (u64 z.1 :: u64 z.2 :: rgC g).set ((k + 1) * 2 + 1) (u64 a) = u64 z.1 :: u64 z.2 :: rgC (g.set k (r.1, a))
      rw [← this.2, show (k + 1) * 2 + 1 = k * 2 + 1 + 1 + 1 by omega]
      rfl
end Go.Proofs.YtkbpddejafdmdaaGreat.A
