/- label: Meet, Less. No condition. -/
import Derived.Test.YthebddjpnkimjaaLi
namespace Go.Proofs.Ythebddjpnkimjaa.A
open Go
set_option linter.unusedVariables false
set_option maxRecDepth 100000
set_option pp.maxSteps 1500

def delB (b : List Nat) (c : Bool) (x : Nat) : Bool := decide (x ∈ b) != c
theorem belowH_us3 (b : List Nat) (c : Bool) (R : List Nat) : belowH 3 [.row [us b], .row [bo c], .row (R.map u64n)] = true := by
  simp only [belowH, belowO, belowL_us]
  rfl
def keepL (b : List Nat) (c : Bool) (l : List Nat) : List Nat := l.filter fun x => !(delB b c x)
theorem keep_snoc (b : List Nat) (c : Bool) (l : List Nat) (x : Nat) : keepL b c (l ++ [x]) = keepL b c l ++ (if delB b c x then [] else [x]) := by
  unfold keepL
  rw [List.filter_append]
  cases h : delB b c x <;> simp [h]
theorem keep_all {b : List Nat} {c : Bool} {l : List Nat} {k : Nat} (h : ∀ j, j < k → delB b c (atN l j) = false) (hk : k ≤ l.length) : keepL b c (l.take k) = l.take k := by
  unfold keepL
  rw [List.filter_eq_self]
  intro x hx
  obtain ⟨j, hj, rfl⟩ := (mem_atN _ x).1 hx
  rw [List.length_take] at hj
  have : atN (l.take k) j = atN l j := by
    unfold atN
    rw [List.getD_eq_getElem?_getD, List.getElem?_take_of_lt (by omega), ← List.getD_eq_getElem?_getD]
  rw [this, h j (by omega)]
  rfl
structure DelSt (b : List Nat) (c : Bool) (l : List Nat) where
  i : Nat
  j : Nat
  R : List Nat
  hij : i < j
  hj : j ≤ l.length
  len : R.length = l.length
  old : ∀ p, j ≤ p → atN R p = atN l p
  hR : R.take i = keepL b c (l.take j)
theorem idxP_cases (p : Nat → Bool) (l : List Nat) : (idxP p l = -1 ∧ ∀ j, j < l.length → p (atN l j) = false) ∨ ∃ k, k < l.length ∧ idxP p l = (k : Nat) ∧ p (atN l k) = true ∧ ∀ j, j < k → p (atN l j) = false := by
  by_cases h : ∃ k, k < l.length ∧ p (atN l k) = true
  · have key : ∀ n, (∃ k, k < n ∧ k < l.length ∧ p (atN l k) = true) → ∃ k, k < l.length ∧ p (atN l k) = true ∧ ∀ j, j < k → p (atN l j) = false := by
      intro n
      induction n with
      | zero => rintro ⟨k, hk, _⟩; omega
      | succ n ih =>
        rintro ⟨k, hk, h1, h2⟩
        by_cases hq : ∃ k, k < n ∧ k < l.length ∧ p (atN l k) = true
        · exact ih hq
        · have hkn : k = n := by
            refine Classical.byContradiction fun hne => hq ⟨k, by omega, h1, h2⟩
          subst hkn
          refine ⟨k, h1, h2, fun j hj => ?_⟩
          cases hp : p (atN l j) with
          | false => rfl
          | true => exact absurd ⟨j, hj, by omega, hp⟩ hq
    obtain ⟨k, h1, h2⟩ := h
    obtain ⟨k, h3, h4, h5⟩ := key (k + 1) ⟨k, by omega, h1, h2⟩
    exact .inr ⟨k, h3, idxP_at h3 h5 h4, h4, h5⟩
  · have hno : ∀ j, j < l.length → p (atN l j) = false := fun j hj => by
      cases hp : p (atN l j) with
      | false => rfl
      | true => exact absurd ⟨j, hj, hp⟩ h
    exact .inl ⟨idxP_none hno, hno⟩
def keptP (a b : List Nat) (c : Bool) : List Nat := if rightB a = true ∧ rightB b = true then keepL b c a else []
end Go.Proofs.Ythebddjpnkimjaa.A
