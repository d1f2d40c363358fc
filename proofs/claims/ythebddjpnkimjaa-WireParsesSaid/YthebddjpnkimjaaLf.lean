/- each once: Compact. No condition. -/
import Derived.Test.YthebddjpnkimjaaLe
namespace Go.Proofs.Ythebddjpnkimjaa.A
open Go
set_option linter.unusedVariables false
set_option maxRecDepth 100000
set_option pp.maxSteps 1500

/-- The first n, each once where it stands beside itself. -/
def ddN (R : List Nat) : Nat → List Nat
  | 0 => []
  | n + 1 => if n = 0 ∨ atN R n ≠ atN R (n - 1) then ddN R n ++ [atN R n] else ddN R n
theorem ddN_new {R : List Nat} {n : Nat} (h : n = 0 ∨ atN R n ≠ atN R (n - 1)) : ddN R (n + 1) = ddN R n ++ [atN R n] := by
  show (if _ then _ else _) = _
  rw [if_pos h]
theorem ddN_old {R : List Nat} {n : Nat} (h0 : 0 < n) (h : atN R n = atN R (n - 1)) : ddN R (n + 1) = ddN R n := by
  show (if _ then _ else _) = _
  rw [if_neg (fun hh => hh.elim (by omega) (fun k => k h))]
theorem take_at {R : List Nat} {k : Nat} (h : k < R.length) : R.take (k + 1) = R.take k ++ [atN R k] := take_snocA (atN_some h)
theorem setAll_us (R Z : List Nat) (off : Nat) (h : off + Z.length ≤ R.length) : setAll (R.map u64n) off (Z.map u64n) = (R.take off ++ Z ++ R.drop (off + Z.length)).map u64n := by
  apply List.ext_getElem?
  intro k
  rw [setAll_get _ _ _ _ (by rw [List.length_map, List.length_map]; exact h), List.getElem?_map, List.getElem?_map, List.getElem?_map, List.length_map]
  have ht : (R.take off).length = off := by rw [List.length_take]; omega
  by_cases h1 : k < off
  · rw [if_neg (by omega), List.append_assoc, List.getElem?_append_left (by omega), List.getElem?_take_of_lt h1]
  · by_cases h2 : k < off + Z.length
    · rw [if_pos (by omega), List.append_assoc, List.getElem?_append_right (by omega), ht, List.getElem?_append_left (by omega)]
    · rw [if_neg (by omega), List.getElem?_append_right (by rw [List.length_append, ht]; omega), List.length_append, ht, List.getElem?_drop, show off + Z.length + (k - (off + Z.length)) = k by omega]
theorem wr_zeros {K : Heap → Prop} {H : Heap} {p off k n m : Nat} {R : List Nat} (h : nth H p = some (.row (R.map u64n))) (hk : off = k) (hm : n = m) (hl : k + m ≤ R.length) (q : K (H.set p (.row ((R.take k ++ List.replicate m 0 ++ R.drop (k + m)).map u64n)))) : optK (wr H p off (zerosA ti41.zero n)) K := by
  subst hk hm
  rw [zerosU]
  refine optK_intro (wr_eq h (by rw [List.length_map, List.length_map, List.length_replicate]; exact hl)) ?_
  rw [setAll_us _ _ _ (by rw [List.length_replicate]; exact hl), List.length_replicate]
  exact q
structure CpSt (R0 : List Nat) (k : Nat) where
  t : Nat
  i : Nat
  R : List Nat
  ht : 1 ≤ t
  ht2 : t ≤ R0.length - k
  hi : i ≤ k + t - 1
  len : R.length = R0.length
  old : ∀ p, k + t - 1 ≤ p → atN R p = atN R0 p
  hR : R.take i = ddN R0 (k + t)
end Go.Proofs.Ythebddjpnkimjaa.A
