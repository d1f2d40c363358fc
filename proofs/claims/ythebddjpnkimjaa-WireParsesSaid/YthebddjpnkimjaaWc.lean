/- wire: items, what is put. No condition. -/
import Derived.Test.YthebddjpnkimjaaWb
import Derived.Test.YthebddjpnkimjaaLl
namespace Go.Proofs.Ythebddjpnkimjaa.A
open Go
set_option linter.unusedVariables false
set_option maxRecDepth 100000
set_option pp.maxSteps 1500

inductive It where
  | mk (n : Nat) (s : ByteArray) (l : List Nat) (kids : List It)
mutual
def itC : It → List AV
  | .mk n s l k => [u64n n, str s, us l, .view k.length (itsC k)]
def itsC : List It → List AV
  | [] => []
  | x :: r => itC x ++ itsC r
end
theorem itsC_flat : ∀ L : List It, itsC L = flat itC L
  | [] => rfl
  | x :: r => by rw [itsC, itsC_flat r]; rfl
theorem itC_len : ∀ x : It, (itC x).length = 4
  | .mk .. => rfl
def itA (x : It) : AV := .agg (itC x)
def itsV (L : List It) : AV := .view L.length (flat itC L)
def emB (n : Nat) (s : ByteArray) (l : List Nat) (a b c : Bool) : Bool := (a || ((n : Int) == 0)) && (b || strEq s ⟨#[]⟩) && (c || ((l.length : Int) == 0))
theorem empty_ok (n : Nat) (s : ByteArray) (l : List Nat) (k : List It) (a b c : Bool) : ACalls Try.prog 36 [itA (.mk n s l k), bo a, bo b, bo c] [] (Ret (bo (emB n s l a b c))) := by
  have key : ∀ q : Bool, emB n s l a b c = q → emB n s l a b c = q := fun _ h => h
  cases a <;> cases b <;> cases c <;>
  · refine acalls_of_awp hT mixed Try.func36 rfl (by kernel_rfl) (by kernel_rfl) (Nat.le_of_ble_eq_true rfl) ?_
    repeat' (first
      | refine end0 rfl rfl rfl (congrArg bo ?_)
      | refine fork (fun g => ?_) (fun g => ?_))
    all_goals (unfold emB; simp [*])
end Go.Proofs.Ythebddjpnkimjaa.A
