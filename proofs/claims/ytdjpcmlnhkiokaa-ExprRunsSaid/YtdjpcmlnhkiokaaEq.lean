/- expr: the law ExprRuns. No condition. -/
import Derived.Test.YtdjpcmlnhkiokaaEp
namespace Go.Proofs.Ytdjpcmlnhkiokaa.A
open Go
set_option linter.unusedVariables false
set_option maxRecDepth 100000
set_option pp.maxSteps 1500

theorem exprRuns_big (p : List (Int × Nat)) (a : Nat) (h : 100 < p.length) : ACalls Try.prog 5 [.view p.length (flat cd p), u64 a] [] (Ret (bo true)) := by
  refine acalls_of_awp hT mixed Try.func5 rfl (by kernel_rfl) (by kernel_rfl) (Nat.le_of_ble_eq_true rfl) ?_
  refine callP awakeE_ok rfl rfl ?_
  refine forkD (fun h1 => ?_) (fun h1 => ?_)
  · refine end0 rfl rfl rfl rfl
  · exfalso
    have : ¬ (100 : Int) < (p.length : Int) := h1
    omega
theorem exprRuns_no (p : List (Int × Nat)) (a : Nat) (h : p.length ≤ 100) (hR : ACalls Try.prog 15 [.view p.length (flat cd p)] [] (Ret (bo false))) (hR2 : ACalls Try.prog 16 [.view p.length (flat cd p)] [] (Ret (bo false)))
    (hE : ACalls Try.prog 10 [.view p.length (flat cd p), fl a] [] (Ret (.tup [fl 0, i64 1]))) (tT : ACalls Try.prog 14 [.view p.length (flat cd p), fl a] [] (Ret (.tup [nilS, i64 0]))) : ACalls Try.prog 5 [.view p.length (flat cd p), u64 a] [] (Ret (bo true)) := by
  have hf : (ordr .f64 0 0 == some .eq) = true := by rw [ordr_eq]; decide
  refine acalls_of_awp hT mixed Try.func5 rfl (by kernel_rfl) (by kernel_rfl) (Nat.le_of_ble_eq_true rfl) ?_
  refine callP awakeE_ok rfl rfl ?_
  refine forkD (fun h1 => ?_) (fun h1 => ?_)
  · exfalso
    have : (100 : Int) < (p.length : Int) := h1
    omega
  refine callP (float64frombits_ok a) rfl rfl ?_
  refine callP hE rfl rfl ?_
  refine callP tT rfl rfl ?_
  refine callP hR rfl rfl ?_
  refine callP hR2 rfl rfl ?_
  refine callP hR2 rfl rfl ?_
  refine fork (fun q => ?_) (fun q => absurd q (by rw [hf]; decide))
  refine end0 rfl rfl rfl rfl
theorem exprRuns_walk (p : List (Int × Nat)) (a : Nat) (s : List Nat) (m z : Nat) (e : Int) (h : p.length ≤ 100) (hs : stk s) (hR : ACalls Try.prog 15 [.view p.length (flat cd p)] [] (Ret (bo true))) (hR2 : ACalls Try.prog 16 [.view p.length (flat cd p)] [] (Ret (bo true)))
    (hE : ACalls Try.prog 10 [.view p.length (flat cd p), fl a] [] (Ret (.tup [fl z, i64 e]))) (tT : ACalls Try.prog 14 [.view p.length (flat cd p), fl a] [] (Ret (.tup [us s, i64 (m : Nat)])))
    (tT2 : ACalls Try.prog 17 [.view p.length (flat cd p), fl a] [] (Ret (.tup [fs s, i64 (m : Nat)]))) (hz : (m < p.length ∨ s.length ≠ 1) → z = 0 ∧ e = 20) (hz2 : ¬ (m < p.length ∨ s.length ≠ 1) → e = 0 ∧ s[0]? = some z) : ACalls Try.prog 5 [.view p.length (flat cd p), u64 a] [] (Ret (bo true)) := by
  have hf : (ordr .f64 0 0 == some .eq) = true := by rw [ordr_eq]; decide
  have n8 := hs.1
  refine acalls_of_awp hT mixed Try.func5 rfl (by kernel_rfl) (by kernel_rfl) (Nat.le_of_ble_eq_true rfl) ?_
  refine callP awakeE_ok rfl rfl ?_
  refine forkD (fun h1 => ?_) (fun h1 => ?_)
  · exfalso
    have : (100 : Int) < (p.length : Int) := h1
    omega
  refine callP (float64frombits_ok a) rfl rfl ?_
  refine callP hE rfl rfl ?_
  refine callP tT rfl rfl ?_
  refine callP hR rfl rfl ?_
  refine callP hR2 rfl rfl ?_
  refine callP hR2 rfl rfl ?_
  refine callP tT2 rfl rfl ?_
  refine fork (fun q => absurd q (by simp)) (fun q => ?_)
  refine fork (fun q => absurd q (by simp)) (fun q => ?_)
  refine loopI (α := { k : Nat // k ≤ s.length }) (fun k => [(0, .view p.length (flat cd p)), (6, fl z), (7, i64 e), (8, us s), (10, fs s), (11, i64 (m : Nat)), (12, i64 (k.val : Nat))]) (fun _ => []) (fun k => s.length - k.val) ⟨0, Nat.zero_le _⟩ [] ⟨⟨rfl, rfl, rfl, rfl, rfl, rfl, rfl, True.intro⟩, True.intro, rfl, rfl, rfl⟩ ?_
  rintro ⟨k, hk⟩ K hK
  have hinc : wrp .i64 ((k : Int) + 1) = ((k + 1 : Nat) : Int) := by rw [wrpE, wi64]; omega
  refine forkD (fun h => ?_) (fun h => ?_)
  · have h' : k < s.length := by have : (k : Int) < (s.length : Int) := h; omega
    obtain ⟨b, hb⟩ : ∃ b, s[k]? = some b := ⟨_, List.getElem?_eq_getElem h'⟩
    have hi := (show (0 : Int) ≤ (k : Nat) ∧ ((k : Nat) : Int) < (s.length : Nat) by omega)
    have hcb := hs.2 b (List.mem_of_getElem? hb)
    have hB := rBits_ok b hcb.1
    rw [hcb.2] at hB
    refine ⟨[0, 0, 0, 0, 0, 0, 0, 0, 1, 1], [[], [], [0, 1], [0, 1, 2], [], [], [4, 5], [4, 5, 6], [4, 5, 6, 7], [0, 1, 2, 3, 4, 5, 6, 7, 8]], [0, 0, 0, 0, 0, 0, 0, 0, 0, 0], [8], [[8], [12], [77, 78], [79], [10], [12], [81, 82], [83], [84], [80, 85]], Ob.intro (by kernel_rfl) ?_⟩
    repeat first | refine same ?_ | refine Ob.intro hi ?_ | refine optK_intro (nth_map (g := u64n) hb) ?_ | refine optK_intro (nth_map (g := fl) hb) ?_
    refine callP hB rfl rfl ?_
    repeat first | refine same ?_ | refine Ob.intro hi ?_ | refine optK_intro (nth_map (g := u64n) hb) ?_ | refine optK_intro (nth_map (g := fl) hb) ?_
    refine fork (fun q => absurd q (by simp)) (fun q => ?_)
    repeat first | refine same ?_ | refine Ob.intro hi ?_ | refine optK_intro (nth_map (g := u64n) hb) ?_ | refine optK_intro (nth_map (g := fl) hb) ?_
    refine hK ⟨k + 1, h'⟩ [] _ (show s.length - k = s.length - (k + 1) + 1 by omega) ⟨⟨rfl, rfl, rfl, rfl, rfl, rfl, congrArg i64 hinc, True.intro⟩, True.intro, rfl, rfl, rfl⟩
  · refine forkD (fun g => ?_) (fun g => ?_)
    · have g' : m < p.length := by have : (m : Int) < (p.length : Int) := g; omega
      obtain ⟨rfl, rfl⟩ := hz (.inl g')
      refine fork (fun q => ?_) (fun q => absurd q (by rw [hf]; decide))
      refine end0 rfl rfl rfl rfl
    · have g' : ¬ m < p.length := by have : ¬ (m : Int) < (p.length : Int) := g; omega
      refine fork (fun g2 => ?_) (fun g2 => ?_)
      · have g2' : s.length ≠ 1 := by
          have := bne_iff_ne.1 g2
          omega
        obtain ⟨rfl, rfl⟩ := hz (.inr g2')
        refine fork (fun q => ?_) (fun q => absurd q (by rw [hf]; decide))
        refine end0 rfl rfl rfl rfl
      · have g2' : s.length = 1 := by
          have := bne_eq_false_iff_eq.1 g2
          omega
        obtain ⟨rfl, hz0⟩ := hz2 (by omega)
        have hi := (show (0 : Int) ≤ 0 ∧ 0 < ((s.length : Nat) : Int) by omega)
        refine ⟨[0, 0, 0, 0, 1, 0, 0, 0, 1, 1, 1], [[], [0], [0, 1], [0, 1, 2], [0, 1, 2, 3], [0, 1, 2], [0, 1, 2, 5], [0, 1, 2, 5, 6], [0, 1, 2, 3, 4, 5, 6, 7], [0, 1, 2, 3, 4, 5, 6, 7, 8], [0, 1, 2, 3, 4, 5, 6, 7, 8, 9]], [0, 0, 0, 0, 0, 0, 0, 0, 0, 0, 0], [4], [[7], [102], [103], [6, 104], [105, 104], [8, 104], [107, 104], [108, 104], [106, 109, 104], [104, 110], [111]], Ob.intro (by kernel_rfl) ?_⟩
        repeat first | refine same ?_ | refine Ob.intro hi ?_ | refine optK_intro (nth_map (g := u64n) (k := 0) hz0) ?_
        refine callP (float64bits_ok z) rfl rfl ?_
        repeat first | refine same ?_ | refine Ob.intro hi ?_ | refine optK_intro (nth_map (g := u64n) (k := 0) hz0) ?_
        refine fork (fun q => ?_) (fun q => absurd q (by simp))
        repeat first | refine same ?_ | refine Ob.intro hi ?_ | refine optK_intro (nth_map (g := u64n) (k := 0) hz0) ?_
        refine end0 rfl rfl rfl rfl
theorem exprRuns_law (l0 : List AV) (w0 : Wf (.slice (.strct (.cons (.int .i64) (.cons (.int .u64) .none)))) l0) (l1 : List AV) (w1 : Wf (.int .u64) l1) : ACalls Try.prog 5 [argA (.slice (.strct (.cons (.int .i64) (.cons (.int .u64) .none)))) l0, argA (.int .u64) l1] [] (Ret (.sc (.bool true))) := by
  obtain ⟨p, rfl, hp, hl⟩ := wf_codes w0
  obtain ⟨a, rfl, ha⟩ := wf_nat w1
  rcases Nat.lt_or_ge 100 p.length with h | h
  · exact exprRuns_big p a h
  have hR := rightP_ok p (by omega)
  have hR2 := rRight_ok p hp (by omega)
  have hE := Run_ok p a ha hp (by omega)
  cases hq : rightP p with
  | false =>
    have e : runE p a = (0, 1) := if_neg (by rw [hq]; decide)
    rw [hq] at hR hR2
    rw [e] at hE
    exact exprRuns_no p a h hR hR2 hE (traceN_ok p a (by omega) hq)
  | true =>
    have e : runE p a = if (runS a p []).2 < p.length ∨ (runS a p []).1.length ≠ 1 then (0, 20) else (at0 (runS a p []).1 0, 0) := if_pos hq
    rw [hq] at hR hR2
    rw [e] at hE
    refine exprRuns_walk p a _ _ _ _ h (runS_stk ha p [] (rightP_okC hq hp).1 ⟨Nat.zero_le _, fun b hb => by cases hb⟩) hR hR2 hE (trace_ok p a ha hp (by omega) hq) (rTrace_ok p a ha hp (by omega) hq) (fun hh => ?_) (fun hh => ?_)
    · rw [if_pos hh]
      exact ⟨rfl, rfl⟩
    · rw [if_neg hh]
      refine ⟨rfl, ?_⟩
      have : 0 < (runS a p []).1.length := by omega
      unfold at0
      rw [List.getD_eq_getElem?_getD, List.getElem?_eq_getElem this]
      rfl
end Go.Proofs.Ytdjpcmlnhkiokaa.A
