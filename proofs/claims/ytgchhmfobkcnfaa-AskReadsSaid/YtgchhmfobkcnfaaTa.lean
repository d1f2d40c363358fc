/- ask: Tell. No condition. -/
import Derived.Test.YtgchhmfobkcnfaaSy
namespace Go.Proofs.Ytgchhmfobkcnfaa.A
open Go
set_option linter.unusedVariables false
set_option linter.unusedSimpArgs false
set_option maxRecDepth 100000
set_option pp.maxSteps 400

theorem tell_code (p : Rp) (c : Nat) (hpc : p.c = (c : Nat)) (hl : p.L.length < 4611686018427387904) (hc0 : c ≠ 0) (hc : c ≤ 20) (hr : FitsB p = true) : ACalls Try.prog 16 [.agg p.C] [] (Ret (.tup [str (BA [c]), i64 0])) := by
  have h1 := sfits_ok p hl
  rw [hr] at h1
  obtain ⟨c', n, h, vn, vt, vb, L, tc, ts, tl, tm, te⟩ := p
  dsimp only at hpc
  subst hpc
  clear hr
  have n1 := sNum_ok c (by omega)
  have ht := stellB c (by omega)
  cases h <;> cases vn <;>
  · refine acalls_of_awpU [] hT mixed Try.func16 rfl (by kernel_rfl) (by kernel_rfl) (Nat.le_of_ble_eq_true rfl) ?_
    refine callP h1 rfl rfl ?_
    refine callP smust_yes rfl rfl ?_
    refine callP n1 rfl rfl ?_
    refine callCut (bs := [str ⟨#[98]⟩, .view 1 [u64n c, str ⟨#[]⟩, nilS, nilS]]) 2 rfl ?_
    refine callS ht [] True.intro rfl ?_
    rintro E G ⟨rfl, rfl⟩ _
    refine ⟨_, _, rfl, rfl, ?_⟩
    refine fork (fun _ => ?_) (fun g => absurd (show (c : Int) = 0 from bne_eq_false_iff_eq.1 g) (by omega))
    refine acallsD_of_rec hT mixed Try.func18 rfl (by kernel_rfl) (by kernel_rfl) rfl rfl rfl (fun u b h => by cases h) (Nat.le_of_ble_eq_true rfl) ?_
    exact ⟨rfl, [.dead, .row [i64 0], .dead], _, ⟨⟨_, rfl, rfl⟩, ⟨.inr rfl, .inl rfl, .inr rfl, True.intro⟩, Nat.le_of_ble_eq_true rfl, rfl⟩, True.intro, [], .tup [str (BA [c]), i64 0], ⟨⟨_, rfl, rfl⟩, True.intro, Nat.zero_le _, rfl⟩, rfl, rfl⟩
end Go.Proofs.Ytgchhmfobkcnfaa.A
