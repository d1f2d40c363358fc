/- expr: the laws ExprPicks and ExprSame. No condition. -/
import Derived.Test.YtdjpcmlnhkiokaaEg
namespace Go.Proofs.Ytdjpcmlnhkiokaa.A
open Go
set_option linter.unusedVariables false
set_option maxRecDepth 100000
set_option pp.maxSteps 1500

theorem exprPicks_ok (a b c : Nat) (ha : a < 18446744073709551616) (hb : b < 18446744073709551616) (hc : c < 18446744073709551616) : ACalls Try.prog 4 [u64 a, u64 b, u64 c] [] (Ret (bo true)) := by
  have ra := rBits_ok a ha
  have rb := rBits_ok b hb
  have rc := rBits_ok c hc
  have hx := cW_bits ha
  have hy := cW_bits hb
  have hw := cW_bits hc
  generalize bitsB a = x at *
  generalize bitsB b = y at *
  generalize bitsB c = w at *
  have hl := less_ok y x hy.1 hx.1
  have hcl := rClass_ok w hw.1
  have hz : (0 : Nat) < 18446744073709551616 := by decide
  have hd : ∀ z : Int, ∀ d ∈ [((2 : Int), x), (2, y), (z, 0)], d.2 < 18446744073709551616 := fun z d hd => by
    simp only [List.mem_cons, List.not_mem_nil, or_false] at hd
    rcases hd with rfl | rfl | rfl
    · exact hx.1
    · exact hy.1
    · exact hz
  have hd4 : ∀ d ∈ [((2 : Int), x), (2, y), (2, w), (16, 0)], d.2 < 18446744073709551616 := fun d hd => by
    simp only [List.mem_cons, List.not_mem_nil, or_false] at hd
    rcases hd with rfl | rfl | rfl | rfl
    · exact hx.1
    · exact hy.1
    · exact hw.1
    · exact hz
  have e7 : twoO 7 x y = if placeB x ≤ placeB y then some x else some y := rfl
  have e8 : twoO 8 x y = if placeB x ≤ placeB y then some y else some x := rfl
  have q7 := Run_ok [(2, x), (2, y), (7, 0)] 0 hz (hd 7) (show 3 < _ by decide)
  have q8 := Run_ok [(2, x), (2, y), (8, 0)] 0 hz (hd 8) (show 3 < _ by decide)
  have q16 := Run_ok [(2, x), (2, y), (2, w), (16, 0)] 0 hz hd4 (show 4 < _ by decide)
  by_cases h : placeB y < placeB x
  · rw [decide_eq_true h] at hl
    rw [picks_run 7 x y y hx hy (.inl rfl) (by rw [e7, if_neg (by omega)]) hy.2] at q7
    rw [picks_run 8 x y x hx hy (.inr rfl) (by rw [e8, if_neg (by omega)]) hx.2] at q8
    by_cases g : 5 < classB w
    · rw [picks_run3 x y w x hx hy hw (if_pos (decide_eq_true g))] at q16
      exact pk1 a b c x y w _ ra rb rc hl hcl q7 q8 q16 (by omega)
    · rw [picks_run3 x y w y hx hy hw (if_neg (by rw [decide_eq_false g]; decide))] at q16
      exact pk2 a b c x y w _ ra rb rc hl hcl q7 q8 q16 (by omega)
  · rw [decide_eq_false h] at hl
    rw [picks_run 7 x y x hx hy (.inl rfl) (by rw [e7, if_pos (by omega)]) hx.2] at q7
    rw [picks_run 8 x y y hx hy (.inr rfl) (by rw [e8, if_pos (by omega)]) hy.2] at q8
    by_cases g : 5 < classB w
    · rw [picks_run3 x y w x hx hy hw (if_pos (decide_eq_true g))] at q16
      exact pk3 a b c x y w _ ra rb rc hl hcl q7 q8 q16 (by omega)
    · rw [picks_run3 x y w y hx hy hw (if_neg (by rw [decide_eq_false g]; decide))] at q16
      exact pk4 a b c x y w _ ra rb rc hl hcl q7 q8 q16 (by omega)
theorem exprPicks_law (l0 : List AV) (w0 : Wf (.int .u64) l0) (l1 : List AV) (w1 : Wf (.int .u64) l1) (l2 : List AV) (w2 : Wf (.int .u64) l2) : ACalls Try.prog 4 [argA (.int .u64) l0, argA (.int .u64) l1, argA (.int .u64) l2] [] (Ret (.sc (.bool true))) := by
  obtain ⟨a, rfl, ha⟩ := wf_nat w0
  obtain ⟨b, rfl, hb⟩ := wf_nat w1
  obtain ⟨c, rfl, hc⟩ := wf_nat w2
  exact exprPicks_ok a b c ha hb hc
theorem runS_one {x y : Nat} (h : bitsB x = bitsB y) : ∀ (p : List (Int × Nat)) (s : List Nat), runS x p s = runS y p s
  | [], _ => rfl
  | c :: p, s => by
    have : stepS c.1 c.2 x s = stepS c.1 c.2 y s := by
      unfold stepS outS
      rw [h]
    simp only [runS, this]
    cases stepS c.1 c.2 y s with
    | none => rfl
    | some t => simp only [runS_one h p t]
theorem runE_one {x y : Nat} (h : bitsB x = bitsB y) (p : List (Int × Nat)) : runE p x = runE p y := by
  unfold runE
  rw [runS_one h]
theorem exprSame_big (p : List (Int × Nat)) (a b : Nat) (h : 100 < p.length) : ACalls Try.prog 3 [.view p.length (flat cd p), u64 a, u64 b] [] (Ret (bo true)) := by
  refine acalls_of_awp hT mixed Try.func3 rfl (by kernel_rfl) (by kernel_rfl) (Nat.le_of_ble_eq_true rfl) ?_
  refine callP awakeE_ok rfl rfl ?_
  refine forkD (fun h1 => ?_) (fun h1 => ?_)
  · refine end0 rfl rfl rfl rfl
  · exfalso
    have : ¬ (100 : Int) < (p.length : Int) := h1
    omega
theorem exprSame_walk (p : List (Int × Nat)) (a b x z : Nat) (e : Int) (h : p.length ≤ 100)
    (ra : ACalls Try.prog 9 [fl a] [] (Ret (u64 x))) (y : Nat) (rb : ACalls Try.prog 9 [fl b] [] (Ret (u64 y)))
    (q1 : ACalls Try.prog 10 [.view p.length (flat cd p), fl a] [] (Ret (.tup [fl z, i64 e]))) (q2 : x = y → ACalls Try.prog 10 [.view p.length (flat cd p), fl b] [] (Ret (.tup [fl z, i64 e]))) :
    ACalls Try.prog 3 [.view p.length (flat cd p), u64 a, u64 b] [] (Ret (bo true)) := by
  refine acalls_of_awpC [9] hT mixed Try.func3 rfl (by kernel_rfl) (by kernel_rfl) (Nat.le_of_ble_eq_true rfl) ?_
  refine callP awakeE_ok rfl rfl ?_
  refine forkD (fun h1 => ?_) (fun h1 => ?_)
  · exfalso
    have : (100 : Int) < (p.length : Int) := h1
    omega
  refine optK_intro (srcA_flat cd_len _ p) ?_
  refine Ob.intro (allC_flat (fun _ => rfl) p) ?_
  refine Ob.intro (show (0 + p.length) * 16 ≤ 140737488355328 ∧ 0 + p.length ≤ 9223372036854775807 by omega) ?_
  have hz : 0 + p.length = p.length := Nat.zero_add _
  refine callP (float64frombits_ok a) rfl rfl ?_
  refine callP (float64frombits_ok b) rfl rfl ?_
  refine cutI (α := { w : Nat // ACalls Try.prog 10 [.view p.length (flat cd p), fl w] [] (Ret (.tup [fl z, i64 e])) }) (fun w => [(0, .view p.length (flat cd p)), (7, .slc 0 0 p.length 2), (8, fl a), (9, fl w.val)]) (fun _ => [.row (flat cd p)]) [] (fun K hK => ?_) (fun w => ?_)
  · refine callP ra rfl rfl ?_
    refine callP rb rfl rfl ?_
    refine fork (fun h2 => ?_) (fun h2 => ?_)
    · exact hK ⟨a, q1⟩ [] [1] _ ⟨⟨rfl, congrArg (fun n => AV.slc 1 0 n 2) hz, rfl, rfl, True.intro⟩, ⟨.inl (by rw [renO_flat (fun _ _ => rfl)]; rfl), True.intro⟩, rfl, rfl, rfl⟩
    · have hxy : x = y := by
        have := bne_eq_false_iff_eq.1 h2
        omega
      exact hK ⟨b, q2 hxy⟩ [] [1] _ ⟨⟨rfl, congrArg (fun n => AV.slc 1 0 n 2) hz, rfl, rfl, True.intro⟩, ⟨.inl (by rw [renO_flat (fun _ _ => rfl)]; rfl), True.intro⟩, rfl, rfl, rfl⟩
  · obtain ⟨w, q3⟩ := w
    refine callP q1 rfl rfl ?_
    refine callP q3 rfl rfl ?_
    refine loopI (α := { k : Nat // k ≤ p.length }) (fun k => [(0, .view p.length (flat cd p)), (7, .slc 0 0 p.length 2), (10, fl z), (11, i64 e), (12, fl z), (13, i64 e), (14, i64 (k.val : Nat))]) (fun _ => [.row (flat cd p)]) (fun k => p.length - k.val) ⟨0, Nat.zero_le _⟩ [0] ⟨⟨rfl, rfl, rfl, rfl, rfl, rfl, rfl, True.intro⟩, ⟨.inl (by rw [renO_flat (fun _ _ => rfl)]; rfl), True.intro⟩, rfl, rfl, rfl⟩ ?_
    rintro ⟨k, hk⟩ K hK
    have hinc : wrp .i64 ((k : Int) + 1) = ((k + 1 : Nat) : Int) := by rw [wrpE, wi64]; omega
    refine forkD (fun h => ?_) (fun h => ?_)
    · have h' : k < p.length := by have : (k : Int) < (p.length : Int) := h; omega
      obtain ⟨c, hc⟩ : ∃ c, p[k]? = some c := ⟨_, List.getElem?_eq_getElem h'⟩
      have hi := (show (0 : Int) ≤ (k : Nat) ∧ ((k : Nat) : Int) < (p.length : Nat) by omega)
      have hr : rdN [.row (flat cd p)] 0 (0 + (k : Int).toNat * 2) 2 = some (cd c) := flat_rdNn cd_len rfl hc
      refine ⟨[0, 0, 0, 0, 0, 0, 0, 0, 0], [[], [], [0, 1], [0, 1, 2], [], [], [4, 5], [4, 5, 6], [0, 1, 2, 3, 4, 5, 6, 7]], [0, 0, 0, 0, 0, 0, 0, 0, 0], [], [[0], [14], [51, 52], [53], [7], [14], [55, 56], [57], [54, 58]], Ob.intro (by kernel_rfl) ?_⟩
      repeat first | refine same ?_ | refine Ob.intro hi ?_ | refine optK_intro (flat_takeN cd_len hc) ?_ | refine optK_intro hr ?_
      refine fork (fun h3 => ?_) (fun h3 => ?_)
      · exfalso
        simp at h3
      · repeat first | refine same ?_ | refine Ob.intro hi ?_ | refine optK_intro (flat_takeN cd_len hc) ?_ | refine optK_intro hr ?_
        refine hK ⟨k + 1, h'⟩ [0] _ (show p.length - k = p.length - (k + 1) + 1 by omega) ⟨⟨rfl, rfl, rfl, rfl, rfl, rfl, congrArg i64 hinc, True.intro⟩, ⟨.inl (by rw [renO_flat (fun _ _ => rfl)]; rfl), True.intro⟩, rfl, rfl, rfl⟩
    · refine fork (fun h3 => ?_) (fun h3 => absurd h3 (by rw [beq_self_eq_true]; decide))
      refine callP (float64bits_ok z) rfl rfl ?_
      refine callP (float64bits_ok z) rfl rfl ?_
      refine fork (fun h4 => ?_) (fun h4 => absurd h4 (by rw [beq_self_eq_true]; decide))
      refine endG rfl rfl rfl (G := []) True.intro (Nat.zero_le _) rfl ⟨rfl, rfl⟩
theorem exprSame_law (l0 : List AV) (w0 : Wf (.slice (.strct (.cons (.int .i64) (.cons (.int .u64) .none)))) l0) (l1 : List AV) (w1 : Wf (.int .u64) l1) (l2 : List AV) (w2 : Wf (.int .u64) l2) : ACalls Try.prog 3 [argA (.slice (.strct (.cons (.int .i64) (.cons (.int .u64) .none)))) l0, argA (.int .u64) l1, argA (.int .u64) l2] [] (Ret (.sc (.bool true))) := by
  obtain ⟨p, rfl, hp, hl⟩ := wf_codes w0
  obtain ⟨a, rfl, ha⟩ := wf_nat w1
  obtain ⟨b, rfl, hb⟩ := wf_nat w2
  rcases Nat.lt_or_ge 100 p.length with h | h
  · exact exprSame_big p a b h
  · refine exprSame_walk p a b _ _ _ h (rBits_ok a ha) _ (rBits_ok b hb) (Run_ok p a ha hp (by omega)) fun he => ?_
    rw [runE_one he]
    exact Run_ok p b hb hp (by omega)
end Go.Proofs.Ytdjpcmlnhkiokaa.A
