/- law03: WireSame. No condition. -/
import Derived.Test.YthebddjpnkimjaaWq
import Derived.Test.YthebddjpnkimjaaOv
namespace Go.Proofs.Ythebddjpnkimjaa.A
open Go
set_option linter.unusedVariables false
set_option linter.unusedSimpArgs false
set_option maxRecDepth 100000
set_option pp.maxSteps 300

theorem print_injB {sh : List Nat} {l m : List It} {b c : List Nat} (hl : ∀ x ∈ l, WI x) (hm : ∀ x ∈ m, WI x) (h : printS sh l = some b) (h' : printS sh m = some c) (hbc : BA b = BA c) : l = m := by
  have h1 := beg_inv hl h emp
  rw [hbc, beg_inv hm h' emp] at h1
  injection h1 with e1 _
  exact e1.symm
theorem same_long (s : ByteArray) (a b : List It) (hs : 60 < s.size) : ACalls Try.prog 3 [str s, itsV a, itsV b] [] (Ret (bo true)) := by
  refine acalls_of_awp hT mixed Try.func3 rfl (by kernel_rfl) (by kernel_rfl) (Nat.le_of_ble_eq_true rfl) ?_
  refine callP awakeW_ok rfl rfl ?_
  refine forkD (fun g => ?_) (fun g => absurd (show (60 : Int) < (s.size : Int) by omega) g)
  refine end0 rfl rfl rfl rfl
theorem same_far1 (s : ByteArray) (a b : List It) (hs : s.size ≤ 60) (hf : ACalls Try.prog 8 [itsV a, i64 0] [] (Ret (bo true))) : ACalls Try.prog 3 [str s, itsV a, itsV b] [] (Ret (bo true)) := by
  refine acalls_of_awp hT mixed Try.func3 rfl (by kernel_rfl) (by kernel_rfl) (Nat.le_of_ble_eq_true rfl) ?_
  refine callP awakeW_ok rfl rfl ?_
  refine forkD (fun g => absurd (show (60 : Int) < (s.size : Int) from g) (by omega)) (fun g => ?_)
  refine callP hf rfl rfl ?_
  refine end0 rfl rfl rfl rfl
theorem same_far2 (s : ByteArray) (a b : List It) (hs : s.size ≤ 60) (hf : ACalls Try.prog 8 [itsV a, i64 0] [] (Ret (bo false))) (hg : ACalls Try.prog 8 [itsV b, i64 0] [] (Ret (bo true))) : ACalls Try.prog 3 [str s, itsV a, itsV b] [] (Ret (bo true)) := by
  refine acalls_of_awp hT mixed Try.func3 rfl (by kernel_rfl) (by kernel_rfl) (Nat.le_of_ble_eq_true rfl) ?_
  refine callP awakeW_ok rfl rfl ?_
  refine forkD (fun g => absurd (show (60 : Int) < (s.size : Int) from g) (by omega)) (fun g => ?_)
  refine callP hf rfl rfl ?_
  refine callP hg rfl rfl ?_
  refine end0 rfl rfl rfl rfl
theorem same_near (s : ByteArray) (a b : List It) (hs : s.size ≤ 60) (hf : ACalls Try.prog 8 [itsV a, i64 0] [] (Ret (bo false))) (hg : ACalls Try.prog 8 [itsV b, i64 0] [] (Ret (bo false)))
    (q : Bool) (X Y : ByteArray) (e f : Int) (hr : ACalls Try.prog 9 [itsV a, itsV b] [] (Ret (bo q))) (h1 : ACalls Try.prog 11 [itsV a, itsV b] [] (Ret (bo q))) (h2 : ACalls Try.prog 11 [itsV b, itsV a] [] (Ret (bo q)))
    (hp : ACalls Try.prog 10 [str s, itsV a] [] (Ret (.tup [str X, i64 e]))) (hq : ACalls Try.prog 10 [str s, itsV b] [] (Ret (.tup [str Y, i64 f]))) (hok : e = 0 → f = 0 → strEq X Y = q) : ACalls Try.prog 3 [str s, itsV a, itsV b] [] (Ret (bo true)) := by
  refine acalls_of_awp hT mixed Try.func3 rfl (by kernel_rfl) (by kernel_rfl) (Nat.le_of_ble_eq_true rfl) ?_
  refine callP awakeW_ok rfl rfl ?_
  refine forkD (fun g => absurd (show (60 : Int) < (s.size : Int) from g) (by omega)) (fun g => ?_)
  refine callP hf rfl rfl ?_
  refine callP hg rfl rfl ?_
  cases q <;>
  · refine callP hr rfl rfl ?_
    refine callP hp rfl rfl ?_
    refine callP hq rfl rfl ?_
    refine callP h1 rfl rfl ?_
    refine callP h2 rfl rfl ?_
    refine fork (fun g => ?_) (fun g => ?_)
    · refine end0 rfl rfl rfl rfl
    have g1 : e = 0 := bne_eq_false_iff_eq.1 g
    refine fork (fun g => ?_) (fun g => ?_)
    · refine end0 rfl rfl rfl rfl
    have g2 : f = 0 := bne_eq_false_iff_eq.1 g
    have g3 := hok g1 g2
    refine fork (fun g => ?_) (fun g => ?_)
    all_goals first
      | refine end0 rfl rfl rfl rfl
      | exact absurd ((show strEq X Y = _ from g).symm.trans g3) (by decide)
theorem wireSame_law (l0 : List AV) (w0 : Wf .str l0) (l1 : List It) (w1 : RL l1) (l2 : List It) (w2 : RL l2) : ACalls Try.prog 3 [argA .str l0, itsV l1, itsV l2] [] (Ret (.sc (.bool true))) := by
  obtain ⟨s, rfl, hs⟩ := w0
  show ACalls Try.prog 3 [str s, itsV l1, itsV l2] [] (Ret (bo true))
  by_cases h : 60 < s.size
  · exact same_long s l1 l2 h
  have h' : s.size ≤ 60 := by omega
  have f1 := far_ok 4 0 l1 (by decide) rfl
  have f2 := far_ok 4 0 l2 (by decide) rfl
  cases q1 : farI 4 l1 with
  | true => rw [q1] at f1; exact same_far1 s l1 l2 h' f1
  | false =>
  cases q2 : farI 4 l2 with
  | true => rw [q1] at f1; rw [q2] at f2; exact same_far2 s l1 l2 h' f1 f2
  | false =>
  rw [q1] at f1
  rw [q2] at f2
  have v1 := wi_of_far 4 l1 w1 q1
  have v2 := wi_of_far 4 l2 w2 q2
  have hr := rsame_ok _ l1 l2 (Nat.le_refl _) v1 v2
  have h1 := same_all _ l1 l2 (Nat.le_refl _) v1 v2
  have h2 := same_all _ l2 l1 (Nat.le_refl _) v2 v1
  have e2 : decide (l2 = l1) = decide (l1 = l2) := by
    by_cases hh : l1 = l2
    · subst hh; rfl
    · rw [decide_eq_false hh, decide_eq_false (fun e => hh e.symm)]
  rw [e2] at h2
  have hp := print_ok s l1 h' v1.1 v1.2
  have hq := print_ok s l2 h' v2.1 v2.2
  cases hx : printS (byL s) l1 with
  | none =>
    rw [hx] at hp
    cases hy : printS (byL s) l2 with
    | none => rw [hy] at hq; exact same_near s l1 l2 h' f1 f2 _ _ _ _ _ hr h1 h2 hp hq (fun e => by cases e)
    | some y => rw [hy] at hq; exact same_near s l1 l2 h' f1 f2 _ _ _ _ _ hr h1 h2 hp hq (fun e => by cases e)
  | some x =>
    rw [hx] at hp
    cases hy : printS (byL s) l2 with
    | none => rw [hy] at hq; exact same_near s l1 l2 h' f1 f2 _ _ _ _ _ hr h1 h2 hp hq (fun _ e => by cases e)
    | some y =>
      rw [hy] at hq
      refine same_near s l1 l2 h' f1 f2 _ _ _ _ _ hr h1 h2 hp hq (fun _ _ => ?_)
      by_cases hh : l1 = l2
      · rw [decide_eq_true hh]
        subst hh
        rw [hx] at hy
        cases hy
        exact strEq_iff.2 rfl
      · rw [decide_eq_false hh]
        exact strEq_false.2 fun e => hh (print_injB v1.2 v2.2 hx hy e)
end Go.Proofs.Ythebddjpnkimjaa.A
