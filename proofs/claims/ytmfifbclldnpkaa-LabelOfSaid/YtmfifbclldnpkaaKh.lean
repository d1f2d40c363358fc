/- label: the law LabelOf. No condition. -/
import Derived.Test.YtmfifbclldnpkaaKg
import Derived.Test.YtmfifbclldnpkaaLm
namespace Go.Proofs.Ytmfifbclldnpkaa.A
open Go
set_option linter.unusedVariables false
set_option linter.unusedSimpArgs false
set_option maxRecDepth 100000
set_option pp.maxSteps 600

theorem lo_zero (tags : List Nat) (t : Nat) (l m : List Nat) (e : Int) (rb hb : Bool) (cf : ACalls Try.prog 9 [us tags, nilS] [] (Ret (bo false))) (co : ACalls Try.prog 10 [us tags] [] (Ret (.tup [us l, i64 e]))) (cm : ACalls Try.prog 11 [us tags] [] (Ret (us m))) (c0 : ACalls Try.prog 15 [us tags, u64 0] [] (Ret (bo true))) (c1 : ACalls Try.prog 12 [us tags] [] (Ret (bo rb))) (c2 : ACalls Try.prog 13 [us tags] [] (Ret (bo rb))) (c3 : ACalls Try.prog 14 [us tags, u64 t] [] (Ret (bo hb))) (c4 : ACalls Try.prog 15 [us tags, u64 t] [] (Ret (bo hb))) (hl : l = []) (he : e = 1) : ACalls Try.prog 3 [us tags, u64 t] [] (Ret (bo true)) := by
  subst hl he
  refine acalls_of_awp hT mixed Try.func3 rfl (by kernel_rfl) (by kernel_rfl) (Nat.le_of_ble_eq_true rfl) ?_
  refine callP awakeL_ok rfl rfl ?_
  refine callP cf rfl rfl ?_
  refine callP co rfl rfl ?_
  refine callP cm rfl rfl ?_
  cases rb <;> cases hb <;>
  · refine callP c1 rfl rfl ?_
    refine callP c2 rfl rfl ?_
    refine callP c3 rfl rfl ?_
    refine callP c4 rfl rfl ?_
    refine callP c0 rfl rfl ?_
    refine end0 rfl rfl rfl rfl
theorem lo_far (tags : List Nat) (t : Nat) (l m : List Nat) (e : Int) (rb hb : Bool) (cf : ACalls Try.prog 9 [us tags, nilS] [] (Ret (bo false))) (co : ACalls Try.prog 10 [us tags] [] (Ret (.tup [us l, i64 e]))) (cm : ACalls Try.prog 11 [us tags] [] (Ret (us m))) (c0 : ACalls Try.prog 15 [us tags, u64 0] [] (Ret (bo false))) (c1 : ACalls Try.prog 12 [us tags] [] (Ret (bo rb))) (c2 : ACalls Try.prog 13 [us tags] [] (Ret (bo rb))) (c3 : ACalls Try.prog 14 [us tags, u64 t] [] (Ret (bo hb))) (c4 : ACalls Try.prog 15 [us tags, u64 t] [] (Ret (bo hb))) (hm : 6 < m.length) (hl : l = []) (he : e = 5) : ACalls Try.prog 3 [us tags, u64 t] [] (Ret (bo true)) := by
  subst hl he
  refine acalls_of_awp hT mixed Try.func3 rfl (by kernel_rfl) (by kernel_rfl) (Nat.le_of_ble_eq_true rfl) ?_
  refine callP awakeL_ok rfl rfl ?_
  refine callP cf rfl rfl ?_
  refine callP co rfl rfl ?_
  refine callP cm rfl rfl ?_
  cases rb <;> cases hb <;>
  · refine callP c1 rfl rfl ?_
    refine callP c2 rfl rfl ?_
    refine callP c3 rfl rfl ?_
    refine callP c4 rfl rfl ?_
    refine callP c0 rfl rfl ?_
    refine forkD (fun _ => ?_) (fun g => absurd (show (6 : Int) < (m.length : Int) by omega) g)
    refine end0 rfl rfl rfl rfl
theorem lo_good (tags : List Nat) (t : Nat) (l m : List Nat) (e : Int) (rb hb : Bool) (cf : ACalls Try.prog 9 [us tags, nilS] [] (Ret (bo false))) (co : ACalls Try.prog 10 [us tags] [] (Ret (.tup [us l, i64 e]))) (cm : ACalls Try.prog 11 [us tags] [] (Ret (us m))) (c0 : ACalls Try.prog 15 [us tags, u64 0] [] (Ret (bo false))) (c1 : ACalls Try.prog 12 [us tags] [] (Ret (bo rb))) (c2 : ACalls Try.prog 13 [us tags] [] (Ret (bo rb))) (c3 : ACalls Try.prog 14 [us tags, u64 t] [] (Ret (bo hb))) (c4 : ACalls Try.prog 15 [us tags, u64 t] [] (Ret (bo hb))) (hm : ¬ 6 < m.length) (hl : l = m) (he : e = 0) (cs : ACalls Try.prog 16 [us m, us m] [] (Ret (bo true))) : ACalls Try.prog 3 [us tags, u64 t] [] (Ret (bo true)) := by
  subst hl he
  refine acalls_of_awp hT mixed Try.func3 rfl (by kernel_rfl) (by kernel_rfl) (Nat.le_of_ble_eq_true rfl) ?_
  refine callP awakeL_ok rfl rfl ?_
  refine callP cf rfl rfl ?_
  refine callP co rfl rfl ?_
  refine callP cm rfl rfl ?_
  cases rb <;> cases hb <;>
  · refine callP c1 rfl rfl ?_
    refine callP c2 rfl rfl ?_
    refine callP c3 rfl rfl ?_
    refine callP c4 rfl rfl ?_
    refine callP c0 rfl rfl ?_
    refine forkD (fun g => absurd (show (6 : Int) < (l.length : Int) from g) (by omega)) (fun _ => ?_)
    refine callP cs rfl rfl ?_
    refine end0 rfl rfl rfl rfl
theorem labelOf_law (l0 : List AV) (w0 : Wf (.slice (.int .u64)) l0) (l1 : List AV) (w1 : Wf (.int .u64) l1) : ACalls Try.prog 3 [argA (.slice (.int .u64)) l0, argA (.int .u64) l1] [] (Ret (.sc (.bool true))) := by
  obtain ⟨tags, rfl, h64, hl⟩ := wf_nats w0
  obtain ⟨t, rfl, ht⟩ := wf_nat w1
  show ACalls Try.prog 3 [us tags, u64 t] [] (Ret (bo true))
  have cf := farL_nil tags
  by_cases hf : 60 < tags.length
  · rw [decide_eq_true hf] at cf
    refine acalls_of_awp hT mixed Try.func3 rfl (by kernel_rfl) (by kernel_rfl) (Nat.le_of_ble_eq_true rfl) ?_
    refine callP awakeL_ok rfl rfl ?_
    refine callP cf rfl rfl ?_
    refine end0 rfl rfl rfl rfl
  · rw [decide_eq_false hf] at cf
    have co := of_gen tags (by omega) (sort60_ok tags (by omega))
    have cm := rof_ok tags (by omega)
    have c0 := has2_ok tags 0 (by omega)
    have c1 := right_ok tags (by omega)
    have c2 := rright_ok tags (by omega)
    have c3 := hasL_ok tags t (by omega)
    have c4 := has2_ok tags t (by omega)
    by_cases hz : 0 ∈ tags
    · rw [decide_eq_true hz] at c0
      have hp : ofP tags = ([], 1) := by unfold ofP; rw [if_pos hz]
      rw [hp] at co
      exact lo_zero tags t _ _ _ _ _ cf co cm c0 c1 c2 c3 c4 rfl rfl
    · rw [decide_eq_false hz] at c0
      by_cases h6 : 6 < (ofL tags).length
      · have hp : ofP tags = ([], 5) := by unfold ofP; rw [if_neg hz, if_pos h6]
        rw [hp] at co
        exact lo_far tags t _ _ _ _ _ cf co cm c0 c1 c2 c3 c4 h6 rfl rfl
      · have hp : ofP tags = (ofL tags, 0) := by unfold ofP; rw [if_neg hz, if_neg h6]
        rw [hp] at co
        have cs := sameL_ok (ofL tags) (ofL tags) (by omega) (by omega)
        rw [decide_eq_true rfl] at cs
        exact lo_good tags t _ _ _ _ _ cf co cm c0 c1 c2 c3 c4 h6 rfl rfl cs
end Go.Proofs.Ytmfifbclldnpkaa.A
