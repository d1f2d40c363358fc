/- label: Of, Join. No condition. -/
import Derived.Test.YthebddjpnkimjaaLg
namespace Go.Proofs.Ythebddjpnkimjaa.A
open Go
set_option linter.unusedVariables false
set_option maxRecDepth 100000
set_option pp.maxSteps 1500

theorem len_foldl_put : ∀ (tags l : List Nat), (tags.foldl putL l).length ≤ l.length + tags.length
  | [], l => by simp
  | t :: tags, l => by
    have h1 := len_foldl_put tags (putL l t)
    have h2 := len_putL t l
    rw [List.foldl_cons, List.length_cons]
    omega
theorem len_ofL (tags : List Nat) : (ofL tags).length ≤ tags.length := by
  have := len_foldl_put tags []
  unfold ofL
  simpa using this
inductive OfSt where
  | start
  | mid (k : Nat)
def OfSt.L (tags : List Nat) : OfSt → List (Nat × AV)
  | .start => [(0, us tags), (3, .slc 0 0 0 1), (4, i64 0)]
  | .mid k => [(0, us tags), (3, us (ofL (tags.take k))), (4, i64 (k : Nat))]
def OfSt.H : OfSt → Heap
  | .start => [.row []]
  | .mid _ => []
def OfSt.m (tags : List Nat) : OfSt → Nat
  | .start => tags.length
  | .mid k => tags.length - k
theorem frz_usT {H : Heap} {i n m k : Nat} {R : List Nat} (h : nth H i = some (.row (R.map u64n))) (hn : n ≤ R.length) (hm : Nat.blt i m = false) : frz H m (k + 2) (.slc i 0 n 1) = some (us (R.take n)) := by
  have h1 : rdN H i 0 (n * 1) = some ((R.take n).map u64n) := by
    rw [rdN_eq h (by rw [List.length_map]; omega), List.drop_zero, Nat.mul_one, List.map_take]
  have h2 : mapO (frz0 H m (k + 1)) ((R.take n).map u64n) = some ((R.take n).map u64n) := mapO_map (f := frz0 H m (k + 1)) (g := u64n) (h := u64n) (fun _ => rfl) (R.take n)
  have h3 : (R.take n).length = n := by rw [List.length_take]; omega
  have h4 : us (R.take n) = .view n ((R.take n).map u64n) := by unfold us; rw [h3]
  rw [h4]
  simp only [frz, frz0, hm, cond_false, h1, h2]
def ofP (tags : List Nat) : List Nat × Int := if 0 ∈ tags then ([], 1) else if 6 < (ofL tags).length then ([], 5) else (ofL tags, 0)
end Go.Proofs.Ythebddjpnkimjaa.A
