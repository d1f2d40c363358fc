/- The functions of agg: tallies of lists; the law AggNil. No condition. -/
import Derived.Test.YtdjpcmlnhkiokaaGb
import Derived.Test.YtdjpcmlnhkiokaaOs
import Derived.Test.YtdjpcmlnhkiokaaAm19
namespace Go.Proofs.Ytdjpcmlnhkiokaa.A
open Go
set_option linter.unusedVariables false
set_option maxRecDepth 100000
set_option pp.maxSteps 1500

abbrev Acc := Nat × Option Nat × Nat × Nat
noncomputable def stepA (a : Acc) (x : Nat) : Acc := (a.1 + 1, addS a.2.1 x, lowS a.1 a.2.2.1 x, highS a.1 a.2.2.2 x)
noncomputable def accA (l : List Nat) : Acc := l.foldl stepA (0, some 0, 0, 0)
noncomputable def talA (a : Acc) : AV := if a.1 = 0 then tal 0 0 0 0 0 else tal a.1 (bitsO a.2.1) (bitsB a.2.2.1) (bitsB a.2.2.2) (bitsO (meanS a.2.1 a.1))
theorem accA_snoc (l : List Nat) (x : Nat) : accA (l ++ [x]) = stepA (accA l) x := by simp [accA]
theorem lowS_lt {c lo x : Nat} (h1 : lo < 18446744073709551616) (h2 : x < 18446744073709551616) : lowS c lo x < 18446744073709551616 := by unfold lowS; split <;> assumption
theorem highS_lt {c lo x : Nat} (h1 : lo < 18446744073709551616) (h2 : x < 18446744073709551616) : highS c lo x < 18446744073709551616 := by unfold highS; split <;> assumption
def adrA (a : Acc) : AObj := .row (adr a.1 a.2.1 a.2.2.1 a.2.2.2)
def AccOk (a : Acc) : Prop := a.1 < 1000000 ∧ a.2.2.1 < 18446744073709551616 ∧ a.2.2.2 < 18446744073709551616
theorem renO_adr (r : Nat → Nat) (a : Acc) : renO r (adrA a) = adrA a := by
  unfold adrA adr
  cases a.2.1 <;> rfl
/-- How far, and what so far. -/
def AccSt (l : List Nat) : Type := { x : Nat × Acc // x.1 ≤ l.length ∧ x.2 = accA (l.take x.1) ∧ AccOk x.2 ∧ x.2.1 = x.1 }
theorem take_snoc' {l : List Nat} {i x : Nat} (h : l[i]? = some x) : l.take (i + 1) = l.take i ++ [x] := by
  obtain ⟨hi, rfl⟩ := List.getElem?_eq_some_iff.1 h
  exact List.take_succ_eq_append_getElem hi
theorem stepOk {l : List Nat} {k : Nat} {a : Acc} {x : Nat} (hn : l.length ≤ 1000) (hx : l[k]? = some x) (hb : x < 18446744073709551616) (h : k ≤ l.length ∧ a = accA (l.take k) ∧ AccOk a ∧ a.1 = k) :
    k + 1 ≤ l.length ∧ stepA a x = accA (l.take (k + 1)) ∧ AccOk (stepA a x) ∧ (stepA a x).1 = k + 1 := by
  obtain ⟨h1, h2, h3, h4⟩ := h
  have hi := (List.getElem?_eq_some_iff.1 hx).1
  refine ⟨hi, by rw [take_snoc' hx, accA_snoc, h2], ⟨?_, lowS_lt h3.2.1 hb, highS_lt h3.2.2 hb⟩, by simp [stepA, h4]⟩
  show a.1 + 1 < 1000000
  omega
def zTal : AObj := .row [i64 0, u64 0, u64 0, u64 0, u64 0]
end Go.Proofs.Ytdjpcmlnhkiokaa.A
