/- record: Undeed; RecordDeeds. No condition. -/
import Derived.Test.YtkbpddejafdmdaaGreatRg
import Derived.Test.YtkbpddejafdmdaaGreatRf
import Derived.Test.YtkbpddejafdmdaaGreatAm19
import Derived.Test.YtkbpddejafdmdaaGreatOs
namespace Go.Proofs.YtkbpddejafdmdaaGreat.A
open Go
set_option linter.unusedVariables false
set_option linter.unusedSimpArgs false
set_option maxRecDepth 100000
set_option pp.maxSteps 400

def udA (o : Option Dd2) : AV := match o with
  | some d => .tup [d.v.a, i64 0]
  | none => .tup [(DdV.mk 0 0 0 0 false).a, i64 4]
theorem undeedU_ok (s : ByteArray) (hs : s.size ≤ 1000000) : ACalls Tryz.prog 7 [str s] [] (Ret (udA (undP s))) := by
  have hc := undeed_ok s hs
  cases hu : undP s with
  | none =>
    rw [hu] at hc
    refine acalls_of_awp hT mixed Tryz.func7 rfl (by kernel_rfl) (by kernel_rfl) (Nat.le_of_ble_eq_true rfl) ?_
    refine callS hc [] True.intro rfl ?_
    rintro E G ⟨rfl, d, rfl⟩ _
    obtain ⟨k, w, t, g, m⟩ := d
    refine ⟨_, _, rfl, rfl, ?_⟩
    cases m <;>
    exact ⟨rfl, [], (udA none), ⟨⟨_, rfl, rfl⟩, True.intro, Nat.zero_le _, rfl⟩, rfl, rfl⟩
  | some d =>
    rw [hu] at hc
    obtain ⟨dk, dw, dt, dg, dm⟩ := d
    cases dk <;> cases dm <;>
    · refine acalls_of_awp hT mixed Tryz.func7 rfl (by kernel_rfl) (by kernel_rfl) (Nat.le_of_ble_eq_true rfl) ?_
      refine callS hc [] True.intro rfl ?_
      rintro E G ⟨rfl, rfl⟩ _
      refine ⟨_, _, rfl, rfl, ?_⟩
      exact ⟨rfl, [], (udA (some _)), ⟨⟨_, rfl, rfl⟩, True.intro, Nat.zero_le _, rfl⟩, rfl, rfl⟩
end Go.Proofs.YtkbpddejafdmdaaGreat.A
