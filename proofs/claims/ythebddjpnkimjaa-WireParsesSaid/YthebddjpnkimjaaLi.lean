/- label: Join, who is in whom, what both have. No condition. -/
import Derived.Test.YthebddjpnkimjaaLh
namespace Go.Proofs.Ythebddjpnkimjaa.A
open Go
set_option linter.unusedVariables false
set_option maxRecDepth 100000
set_option pp.maxSteps 1500

def joinP (a b : List Nat) : List Nat × Int := if rightB a = true ∧ rightB b = true then ofP (a ++ b) else ([], 1)
theorem rightB_len {l : List Nat} (h : rightB l = true) : l.length ≤ 6 := by
  unfold rightB at h
  rw [Bool.and_eq_true] at h
  exact of_decide_eq_true h.1
def inB (a b : List Nat) : Bool := a.all fun x => decide (x ∈ b)
theorem inB_drop {a b : List Nat} {k x : Nat} (hx : a[k]? = some x) : inB (a.drop k) b = (decide (x ∈ b) && inB (a.drop (k + 1)) b) := by
  obtain ⟨h1, rfl⟩ := List.getElem?_eq_some_iff.1 hx
  rw [List.drop_eq_getElem_cons h1]
  unfold inB
  rw [List.all_cons]
def notIn (b : List Nat) (x : Nat) : Bool := !(decide (x ∈ b))
/-- Where p is met first. -/
def idxP (p : Nat → Bool) (l : List Nat) : Int := if l.any p then (l.findIdx p : Nat) else -1
structure IxSt (p : Nat → Bool) (l : List Nat) where
  k : Nat
  hk : k ≤ l.length
  hno : ∀ j, j < k → p (atN l j) = false
theorem idxP_at {p : Nat → Bool} {l : List Nat} {k : Nat} (hk : k < l.length) (hno : ∀ j, j < k → p (atN l j) = false) (h : p (atN l k) = true) : idxP p l = (k : Nat) := by
  have h1 : l.any p = true := List.any_eq_true.2 ⟨atN l k, (mem_atN l _).2 ⟨k, hk, rfl⟩, h⟩
  unfold idxP
  rw [if_pos h1]
  have hat : ∀ j (hj : j < l.length), l[j] = atN l j := fun j hj => by
    have := atN_some hj
    rw [List.getElem?_eq_getElem hj] at this
    exact Option.some.inj this
  have : l.findIdx p = k := by
    rw [List.findIdx_eq hk]
    refine ⟨by rw [hat k hk]; exact h, fun j hj => by rw [hat j (by omega)]; exact hno j hj⟩
  rw [this]
theorem idxP_none {p : Nat → Bool} {l : List Nat} (hno : ∀ j, j < l.length → p (atN l j) = false) : idxP p l = -1 := by
  have h1 : l.any p = false := by
    rw [Bool.eq_false_iff]
    intro h
    obtain ⟨x, hx, hp⟩ := List.any_eq_true.1 h
    obtain ⟨j, hj, rfl⟩ := (mem_atN l x).1 hx
    rw [hno j hj] at hp
    cases hp
  unfold idxP
  rw [h1]
  rfl
theorem inB_idx (a b : List Nat) : inB a b = decide (idxP (notIn b) a < 0) := by
  unfold idxP
  cases h : a.any (notIn b) with
  | true =>
    obtain ⟨x, hx, hp⟩ := List.any_eq_true.1 h
    have h1 : inB a b = false := by
      rw [Bool.eq_false_iff]
      intro hh
      have := List.all_eq_true.1 hh x hx
      unfold notIn at hp
      rw [this] at hp
      cases hp
    rw [h1, if_pos rfl]
    exact (decide_eq_false (by omega)).symm
  | false =>
    have h1 : inB a b = true := by
      refine List.all_eq_true.2 fun x hx => ?_
      have : notIn b x = false := by
        cases hq : notIn b x with
        | false => rfl
        | true =>
          have := List.any_eq_true.2 ⟨x, hx, hq⟩
          rw [h] at this
          cases this
      unfold notIn at this
      simpa using this
    rw [h1]
    rfl
end Go.Proofs.Ythebddjpnkimjaa.A
