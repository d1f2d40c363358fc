/- record: RecordCommits. No condition. -/
import Derived.Test.YtkbpddejafdmdaaGreatRm
import Derived.Test.YtkbpddejafdmdaaGreatVd
import Derived.Test.YtkbpddejafdmdaaGreatAm19
import Derived.Test.YtkbpddejafdmdaaGreatOs
namespace Go.Proofs.YtkbpddejafdmdaaGreat.A
open Go
set_option linter.unusedVariables false
set_option linter.unusedSimpArgs false
set_option maxRecDepth 100000
set_option pp.maxSteps 400

def ucA (o : Option (Nat × List Wt)) : AV := match o with
  | some (q, L) => .tup [i64 (q : Nat), wtV L, i64 0]
  | none => .tup [i64 0, nilS, i64 4]
theorem uncommitU_ok (s : ByteArray) (hs : s.size ≤ 1000000) : ACalls Tryz.prog 5 [str s] [] (Ret (ucA (uncP s))) := by
  have hc := uncommit_ok s hs
  cases hu : uncP s with
  | none =>
    rw [hu] at hc
    refine acalls_of_awp hT mixed Tryz.func5 rfl (by kernel_rfl) (by kernel_rfl) (Nat.le_of_ble_eq_true rfl) ?_
    refine callS hc [] True.intro rfl ?_
    rintro E G ⟨rfl, q, rfl | ⟨L, rfl⟩⟩ _
    · refine ⟨_, _, rfl, rfl, ?_⟩
      exact ⟨rfl, [], (ucA none), ⟨⟨_, rfl, rfl⟩, True.intro, Nat.zero_le _, rfl⟩, rfl, rfl⟩
    · refine ⟨_, _, rfl, rfl, ?_⟩
      exact ⟨rfl, [], (ucA none), ⟨⟨_, rfl, rfl⟩, True.intro, Nat.zero_le _, rfl⟩, rfl, rfl⟩
  | some qL =>
    obtain ⟨q, L⟩ := qL
    rw [hu] at hc
    refine acalls_of_awp hT mixed Tryz.func5 rfl (by kernel_rfl) (by kernel_rfl) (Nat.le_of_ble_eq_true rfl) ?_
    refine callS hc [] True.intro rfl ?_
    rintro E G ⟨rfl, rfl⟩ _
    refine ⟨_, _, rfl, rfl, ?_⟩
    exact ⟨rfl, [], (ucA (some (q, L))), ⟨⟨_, rfl, rfl⟩, True.intro, Nat.zero_le _, rfl⟩, rfl, rfl⟩
end Go.Proofs.YtkbpddejafdmdaaGreat.A
