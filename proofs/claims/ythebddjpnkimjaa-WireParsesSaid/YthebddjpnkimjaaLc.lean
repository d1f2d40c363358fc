/- sorting numbers: rows that are written, insertion. No condition. -/
import Derived.Test.YthebddjpnkimjaaLb
namespace Go.Proofs.Ythebddjpnkimjaa.A
open Go
set_option linter.unusedVariables false
set_option maxRecDepth 100000
set_option pp.maxSteps 1500

theorem rd_us {H : Heap} {p off k x : Nat} {R : List Nat} (h : nth H p = some (.row (R.map u64n))) (hk : off = k) (hx : R[k]? = some x) : rd1 H p off = some (u64n x) := by
  subst hk
  unfold rd1
  rw [h]
  show nth (R.map u64n) off = _
  rw [nth_eq, List.getElem?_map, hx]
  rfl
theorem wr_us {K : Heap → Prop} {H : Heap} {p off k : Nat} {l : List AV} {R : List Nat} {x : Nat} (h : nth H p = some (.row (R.map u64n))) (hx : l = [u64n x]) (hk : off = k) (hl : k < R.length) (q : K (H.set p (.row ((R.set k x).map u64n)))) : optK (wr H p off l) K := by
  subst hx hk
  refine optK_intro (wr_eq h (by rw [List.length_map]; exact hl)) ?_
  have e : setAll (R.map u64n) off [u64n x] = (R.set off x).map u64n := by
    rw [List.map_set]
    rfl
  rw [e]
  exact q
/-- The number at a place. -/
def atN (R : List Nat) (k : Nat) : Nat := R.getD k 0
theorem atN_some {R : List Nat} {k : Nat} (h : k < R.length) : R[k]? = some (atN R k) := by
  unfold atN
  rw [List.getD_eq_getElem?_getD, List.getElem?_eq_getElem h]
  rfl
/-- Two places changed for one another. -/
def swp (R : List Nat) (i j : Nat) : List Nat := (R.set i (atN R j)).set j (atN R i)
theorem swp_len (R : List Nat) (i j : Nat) : (swp R i j).length = R.length := by unfold swp; rw [List.length_set, List.length_set]
theorem swp_at {R : List Nat} {i j : Nat} (hi : i < R.length) (hj : j < R.length) (k : Nat) : atN (swp R i j) k = if k = j then atN R i else if k = i then atN R j else atN R k := by
  unfold swp
  show List.getD _ k 0 = _
  rw [List.getD_eq_getElem?_getD, List.getElem?_set]
  by_cases h1 : k = j
  · subst h1
    rw [if_pos rfl, if_pos rfl, if_pos (by rw [List.length_set]; exact hj)]
    rfl
  · rw [if_neg (Ne.symm h1), if_neg h1, List.getElem?_set]
    by_cases h2 : k = i
    · subst h2
      rw [if_pos rfl, if_pos rfl, if_pos hi]
      rfl
    · rw [if_neg (Ne.symm h2), if_neg h2]
      rw [← List.getD_eq_getElem?_getD]
      rfl
theorem swp_perm {R : List Nat} {i j : Nat} (hi : i < R.length) (hj : j < R.length) : (swp R i j).Perm R := by
  have h1 : atN R i = R[i] := by unfold atN; rw [List.getD_eq_getElem?_getD, List.getElem?_eq_getElem hi]; rfl
  have h2 : atN R j = R[j] := by unfold atN; rw [List.getD_eq_getElem?_getD, List.getElem?_eq_getElem hj]; rfl
  unfold swp
  rw [h1, h2]
  exact List.set_set_perm hi hj
/-- As many of each, and as it was outside of a, b. -/
structure SO (a b : Nat) (R R' : List Nat) : Prop where
  len : R'.length = R.length
  perm : R'.Perm R
  out : ∀ k, k < a ∨ b ≤ k → atN R' k = atN R k
theorem SO.refl (a b : Nat) (R : List Nat) : SO a b R R := ⟨rfl, .refl _, fun _ _ => rfl⟩
theorem SO.trans {a b : Nat} {R S T : List Nat} (h : SO a b R S) (k : SO a b S T) : SO a b R T := ⟨k.len.trans h.len, k.perm.trans h.perm, fun i hi => (k.out i hi).trans (h.out i hi)⟩
theorem SO.wide {a b c d : Nat} {R S : List Nat} (h : SO a b R S) (h1 : c ≤ a) (h2 : b ≤ d) : SO c d R S := ⟨h.len, h.perm, fun k hk => h.out k (by omega)⟩
theorem SO.swp {a b i j : Nat} {R : List Nat} (hi : i < R.length) (hj : j < R.length) (h1 : a ≤ i ∧ i < b) (h2 : a ≤ j ∧ j < b) : SO a b R (swp R i j) :=
  ⟨swp_len R i j, swp_perm hi hj, fun k hk => by rw [swp_at hi hj, if_neg (by omega), if_neg (by omega)]⟩
/-- It doesn't fall in a, b. -/
def SI (a b : Nat) (R : List Nat) : Prop := ∀ i j, a ≤ i → i < j → j < b → atN R i ≤ atN R j
structure InsO (R0 : List Nat) (a b : Nat) where
  i : Nat
  R : List Nat
  h1 : a + 1 ≤ i
  h2 : i ≤ b ∨ i = a + 1
  so : SO a b R0 R
  si : SI a i R
structure InsI (R0 : List Nat) (a b i : Nat) where
  j : Nat
  R : List Nat
  h1 : a ≤ j
  h2 : j ≤ i
  so : SO a b R0 R
  si : ∀ p q, a ≤ p → p < q → q ≤ i → q ≠ j → atN R p ≤ atN R q
theorem belowH_us (R : List Nat) : belowH 1 [.row (R.map u64n)] = true := by
  have h : ∀ l : List Nat, belowL 1 (l.map u64n) = true := fun l => by
    induction l with
    | nil => rfl
    | cons x l ih => show (bif below 1 (u64n x) then belowL 1 (l.map u64n) else false) = true; rw [ih]; rfl
  simp only [belowH, belowO, h]
  rfl
end Go.Proofs.Ythebddjpnkimjaa.A
