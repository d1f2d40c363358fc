/- expr: Trace; the law ExprDepth. No condition. -/
import Derived.Test.YtdjpcmlnhkiokaaEi
namespace Go.Proofs.Ytdjpcmlnhkiokaa.A
open Go
set_option linter.unusedVariables false
set_option maxRecDepth 100000
set_option pp.maxSteps 1500

theorem runS_stk {x : Nat} (hx : x < 18446744073709551616) : ∀ (p : List (Int × Nat)) (s : List Nat), (∀ c ∈ p, okC c) → stk s → stk (runS x p s).1
  | [], s, _, h => h
  | c :: p, s, hp, h => by
    simp only [runS]
    cases hq : stepS c.1 c.2 x s with
    | none => exact h
    | some t =>
      have hc := hp c (List.mem_cons_self ..)
      exact runS_stk hx p t (fun d hd => hp d (List.mem_cons_of_mem _ hd)) (stepS_stk hc.1 hc.2 hx h hq).1
theorem traceN_ok (p : List (Int × Nat)) (x : Nat) (hl : p.length < 4611686018427387904) (hq : rightP p = false) : ACalls Try.prog 14 [.view p.length (flat cd p), fl x] [] (Ret (.tup [nilS, i64 0])) := by
  have hR := rightP_ok p hl
  rw [hq] at hR
  refine acalls_of_awp hT mixed Try.func14 rfl (by kernel_rfl) (by kernel_rfl) (Nat.le_of_ble_eq_true rfl) ?_
  refine callP hR rfl rfl ?_
  refine endG rfl rfl rfl (G := []) True.intro (Nat.zero_le _) rfl ⟨rfl, rfl⟩
theorem trace_ok (p : List (Int × Nat)) (x : Nat) (hx : x < 18446744073709551616) (hb : ∀ c ∈ p, c.2 < 18446744073709551616) (hl : p.length < 4611686018427387904) (hq : rightP p = true) : ACalls Try.prog 14 [.view p.length (flat cd p), fl x] [] (Ret (.tup [us (runS x p []).1, i64 ((runS x p []).2 : Nat)])) := by
  have hR := rightP_ok p hl
  rw [hq] at hR
  have hst : stk (runS x p []).1 := runS_stk hx p [] (rightP_okC hq hb).1 ⟨Nat.zero_le _, fun b hb => by cases hb⟩
  have hr := run_ok p x hx (rightP_okC hq hb).1 hl
  unfold RunR at hr
  generalize runS x p [] = r at *
  obtain ⟨s, m⟩ := r
  dsimp only at *
  refine acalls_of_awp hT mixed Try.func14 rfl (by kernel_rfl) (by kernel_rfl) (Nat.le_of_ble_eq_true rfl) ?_
  refine callP hR rfl rfl ?_
  refine callS hr [] True.intro rfl ?_
  rintro E G ⟨rfl, n, l, hn, hs, hG⟩ _
  have hlen : s.length = n := by rw [← hs, List.length_take]; omega
  have hn8 := hst.1
  rcases hG with rfl | rfl
  · refine ⟨_, [.row [.slc 1 0 n 1], .row (l.map fl)], rfl, by rw [show stP 1 n l = stH n l from rfl, renH_st]; rfl, ?_⟩
    refine loopG (α := { k : Nat // k ≤ n }) (fun k => [(7, i64 m), (8, .slc 1 0 k.val 1), (23, .slc 0 0 n 1), (24, i64 n), (25, i64 (k.val : Nat))]) (fun k => [.row (l.map fl), .row ((s.take k.val).map u64n)]) [] (fun k => n - k.val) ⟨0, Nat.zero_le _⟩ [.at_ 8 1] [1, 2] ⟨⟨rfl, rfl, rfl, rfl, rfl, True.intro⟩, ⟨.inl (by rw [renO_fl]; rfl), .inl rfl, True.intro⟩, rfl, rfl, rfl⟩ ?_
    rintro ⟨k, hk⟩ K hK
    have hinc : wrp .i64 ((k : Int) + 1) = ((k + 1 : Nat) : Int) := by rw [wrpE, wi64]; omega
    have hsl : (s.take k).length = k := by rw [List.length_take]; omega
    refine forkD (fun h => ?_) (fun h => ?_)
    · have h' : k < n := by have : (k : Int) < (n : Int) := h; omega
      obtain ⟨b, hb⟩ : ∃ b, s[k]? = some b := ⟨_, List.getElem?_eq_getElem (by omega)⟩
      have hbl : l[k]? = some b := by
        rw [← hs, List.getElem?_take_of_lt h'] at hb
        exact hb
      have hcb := hst.2 b (List.mem_of_getElem? hb)
      have hB := bits_ok b
      rw [hcb.2] at hB
      have hr : rd1 [.row (l.map fl), .row ((s.take k).map u64n)] 0 (0 + (k : Int).toNat * 1) = some (fl b) := rd1_map rfl hbl
      refine Ob.intro (show (0 : Int) ≤ (k : Nat) ∧ ((k : Nat) : Int) < (n : Nat) by omega) ?_
      refine optK_intro hr ?_
      refine callP hB rfl rfl ?_
      refine Ob.intro rfl ?_
      refine optK_intro (rdN_all rfl (show k * 1 = ((s.take k).map u64n).length by rw [List.length_map, hsl]; omega)) ?_
      refine Ob.intro (show (k + 1) * 8 ≤ 140737488355328 ∧ k + 1 ≤ 9223372036854775807 by omega) ?_
      refine hK ⟨k + 1, h'⟩ [] [0, 3] _ (show n - k = n - (k + 1) + 1 by omega) ⟨⟨rfl, rfl, rfl, rfl, congrArg i64 hinc, True.intro⟩, ⟨.inl (by rw [renO_fl]; rfl), .inl ?_, True.intro⟩, rfl, rfl, rfl⟩
      rw [renO_us, take_snocA hb, List.map_append]
      rfl
    · have h' : k = n := by have : ¬ (k : Int) < (n : Int) := h; omega
      subst h'
      have hss : s.take k = s := by rw [List.take_of_length_le (by omega)]
      have hz : frz [.row (l.map fl), .row ((s.take k).map u64n)] 0 8 (mkR [.slc 1 0 k 1, i64 m]) = some (.tup [us s, i64 m]) := by
        rw [hss]
        have a1 : frz [.row (l.map fl), .row (s.map u64n)] 0 7 (.slc 1 0 k 1) = some (us s) := frz_us3 (k := 5) rfl hlen.symm rfl
        simp only [mkR, frz, mapO] at a1 ⊢
        rw [a1]
        rfl
      refine endG rfl rfl hz (G := []) True.intro (Nat.zero_le _) rfl ⟨rfl, rfl⟩
  · refine ⟨_, [.row [.slc 7 0 n 1], .dead, .dead, .dead, .dead, .dead, .dead, .row (l.map fl)], rfl, by rw [renH_stP7]; rfl, ?_⟩
    refine loopG (α := { k : Nat // k ≤ n }) (fun k => [(7, i64 m), (8, .slc 1 0 k.val 1), (23, .slc 0 0 n 1), (24, i64 n), (25, i64 (k.val : Nat))]) (fun k => [.row (l.map fl), .row ((s.take k.val).map u64n)]) [] (fun k => n - k.val) ⟨0, Nat.zero_le _⟩ [.at_ 8 1] [7, 8] ⟨⟨rfl, rfl, rfl, rfl, rfl, True.intro⟩, ⟨.inl (by rw [renO_fl]; rfl), .inl rfl, True.intro⟩, rfl, rfl, rfl⟩ ?_
    rintro ⟨k, hk⟩ K hK
    have hinc : wrp .i64 ((k : Int) + 1) = ((k + 1 : Nat) : Int) := by rw [wrpE, wi64]; omega
    have hsl : (s.take k).length = k := by rw [List.length_take]; omega
    refine forkD (fun h => ?_) (fun h => ?_)
    · have h' : k < n := by have : (k : Int) < (n : Int) := h; omega
      obtain ⟨b, hb⟩ : ∃ b, s[k]? = some b := ⟨_, List.getElem?_eq_getElem (by omega)⟩
      have hbl : l[k]? = some b := by
        rw [← hs, List.getElem?_take_of_lt h'] at hb
        exact hb
      have hcb := hst.2 b (List.mem_of_getElem? hb)
      have hB := bits_ok b
      rw [hcb.2] at hB
      have hr : rd1 [.row (l.map fl), .row ((s.take k).map u64n)] 0 (0 + (k : Int).toNat * 1) = some (fl b) := rd1_map rfl hbl
      refine Ob.intro (show (0 : Int) ≤ (k : Nat) ∧ ((k : Nat) : Int) < (n : Nat) by omega) ?_
      refine optK_intro hr ?_
      refine callP hB rfl rfl ?_
      refine Ob.intro rfl ?_
      refine optK_intro (rdN_all rfl (show k * 1 = ((s.take k).map u64n).length by rw [List.length_map, hsl]; omega)) ?_
      refine Ob.intro (show (k + 1) * 8 ≤ 140737488355328 ∧ k + 1 ≤ 9223372036854775807 by omega) ?_
      refine hK ⟨k + 1, h'⟩ [] [0, 3] _ (show n - k = n - (k + 1) + 1 by omega) ⟨⟨rfl, rfl, rfl, rfl, congrArg i64 hinc, True.intro⟩, ⟨.inl (by rw [renO_fl]; rfl), .inl ?_, True.intro⟩, rfl, rfl, rfl⟩
      rw [renO_us, take_snocA hb, List.map_append]
      rfl
    · have h' : k = n := by have : ¬ (k : Int) < (n : Int) := h; omega
      subst h'
      have hss : s.take k = s := by rw [List.take_of_length_le (by omega)]
      have hz : frz [.row (l.map fl), .row ((s.take k).map u64n)] 0 8 (mkR [.slc 1 0 k 1, i64 m]) = some (.tup [us s, i64 m]) := by
        rw [hss]
        have a1 : frz [.row (l.map fl), .row (s.map u64n)] 0 7 (.slc 1 0 k 1) = some (us s) := frz_us3 (k := 5) rfl hlen.symm rfl
        simp only [mkR, frz, mapO] at a1 ⊢
        rw [a1]
        rfl
      refine endG rfl rfl hz (G := []) True.intro (Nat.zero_le _) rfl ⟨rfl, rfl⟩
theorem outS_some {op : Int} (own x : Nat) (l : List Nat) (h : op ≠ 15) : ∃ o, outS op own x l = some o := by
  unfold outS
  repeat' split
  all_goals first | exact ⟨_, rfl⟩ | (exfalso; omega)
theorem depL_runS {x : Nat} (hx : x < 18446744073709551616) : ∀ (p : List (Int × Nat)) (s : List Nat), (∀ c ∈ p, okC c ∧ c.1 ≠ 15) → stk s → (runS x p s).1.length = (depL p s.length).1 ∧ (runS x p s).2 = (depL p s.length).2
  | [], s, _, _ => ⟨rfl, rfl⟩
  | c :: p, s, hp, h => by
    have hc := hp c (List.mem_cons_self ..)
    cases hq : stepS c.1 c.2 x s with
    | none =>
      have hb : s.length < takesS c.1 ∨ 8 < s.length - takesS c.1 + putsS c.1 := by
        unfold stepS at hq
        split at hq
        · assumption
        · obtain ⟨o, ho⟩ := outS_some c.2 x (s.drop (s.length - takesS c.1)) hc.2
          rw [ho] at hq
          cases hq
      rw [runS_none hq]
      unfold depL
      rw [if_pos hb]
      exact ⟨rfl, rfl⟩
    | some t =>
      obtain ⟨h1, h2, h3⟩ := stepS_stk hc.1.1 hc.1.2 hx h hq
      have hb : ¬ (s.length < takesS c.1 ∨ 8 < s.length - takesS c.1 + putsS c.1) := by
        have := h1.1
        omega
      rw [runS_some hq]
      unfold depL
      rw [if_neg hb, ← h2]
      obtain ⟨g1, g2⟩ := depL_runS hx p t (fun d hd => hp d (List.mem_cons_of_mem _ hd)) h1
      exact ⟨g1, by rw [← g2]⟩
theorem exprDepth_big (p : List (Int × Nat)) (a b : Nat) (h : 100 < p.length) : ACalls Try.prog 6 [.view p.length (flat cd p), u64 a, u64 b] [] (Ret (bo true)) := by
  refine acalls_of_awp hT mixed Try.func6 rfl (by kernel_rfl) (by kernel_rfl) (Nat.le_of_ble_eq_true rfl) ?_
  refine callP awakeE_ok rfl rfl ?_
  refine forkD (fun h1 => ?_) (fun h1 => ?_)
  · refine end0 rfl rfl rfl rfl
  · exfalso
    have : ¬ (100 : Int) < (p.length : Int) := h1
    omega
theorem exprDepth_no (p : List (Int × Nat)) (a b : Nat) (h : p.length ≤ 100) (hp : rightP p = false) (hb : ∀ c ∈ p, c.2 < 18446744073709551616) : ACalls Try.prog 6 [.view p.length (flat cd p), u64 a, u64 b] [] (Ret (bo true)) := by
  have hR := rRight_ok p hb (by omega)
  rw [hp] at hR
  refine acalls_of_awp hT mixed Try.func6 rfl (by kernel_rfl) (by kernel_rfl) (Nat.le_of_ble_eq_true rfl) ?_
  refine callP awakeE_ok rfl rfl ?_
  refine forkD (fun h1 => ?_) (fun h1 => ?_)
  · exfalso
    have : (100 : Int) < (p.length : Int) := h1
    omega
  refine callP (depthN_ok p (by omega) hp) rfl rfl ?_
  refine callP hR rfl rfl ?_
  refine end0 rfl rfl rfl rfl
theorem exprDepth_walk1 (p : List (Int × Nat)) (a b : Nat) (dn : Int) (s1 s2 : List Nat) (m1 m2 : Nat) (h : p.length ≤ 100) (h2 : ACalls Try.prog 16 [.view p.length (flat cd p)] [] (Ret (bo true))) (h3 : ACalls Try.prog 18 [.view p.length (flat cd p)] [] (Ret (.tup [i64 dn, bo true]))) (h4 : ACalls Try.prog 19 [.view p.length (flat cd p)] [] (Ret (.tup [i64 dn, bo true]))) (ha : ACalls Try.prog 14 [.view p.length (flat cd p), fl a] [] (Ret (.tup [us s1, i64 (m1 : Nat)]))) (hb : ACalls Try.prog 14 [.view p.length (flat cd p), fl b] [] (Ret (.tup [us s2, i64 (m2 : Nat)]))) (hrel : (∀ c ∈ p, c.1 ≠ 15) → s1.length = s2.length ∧ m1 = m2 ∧ m1 = p.length ∧ dn = (s1.length : Int)) : ACalls Try.prog 6 [.view p.length (flat cd p), u64 a, u64 b] [] (Ret (bo true)) := by
  refine acalls_of_awp hT mixed Try.func6 rfl (by kernel_rfl) (by kernel_rfl) (Nat.le_of_ble_eq_true rfl) ?_
  refine callP awakeE_ok rfl rfl ?_
  refine forkD (fun h1 => ?_) (fun h1 => ?_)
  · exfalso
    have : (100 : Int) < (p.length : Int) := h1
    omega
  refine callP h3 rfl rfl ?_
  refine callP h2 rfl rfl ?_
  refine callP h4 rfl rfl ?_
  refine fork (fun g => absurd g (by simp)) (fun g => ?_)
  refine loopI (α := { k : Nat // k ≤ p.length ∧ ∀ c ∈ p.take k, c.1 ≠ 15 }) (fun z => [(0, .view p.length (flat cd p)), (1, u64 a), (2, u64 b), (7, i64 dn), (8, bo true), (11, i64 (z.val : Nat))]) (fun z => []) (fun z => p.length - z.val)
    ⟨0, Nat.zero_le _, fun c hc => by cases hc⟩ [] ⟨⟨rfl, rfl, rfl, rfl, rfl, rfl, True.intro⟩, True.intro, rfl, rfl, rfl⟩ ?_
  rintro ⟨k, hk, hall⟩ K hK
  have hinc : wrp .i64 ((k : Int) + 1) = ((k + 1 : Nat) : Int) := by rw [wrpE, wi64]; omega
  refine forkD (fun h => ?_) (fun h => ?_)
  · have h' : k < p.length := by have : (k : Int) < (p.length : Int) := h; omega
    obtain ⟨c, hc⟩ : ∃ c, p[k]? = some c := ⟨_, List.getElem?_eq_getElem h'⟩
    refine Ob.intro (show (0 : Int) ≤ (k : Nat) ∧ ((k : Nat) : Int) < (p.length : Nat) by omega) ?_
    refine optK_intro (cd_op hc) ?_
    refine fork (fun q => ?_) (fun q => ?_)
    · refine end0 rfl rfl rfl rfl
    · refine hK ⟨k + 1, h', fun d hd => ?_⟩ [] _ (show p.length - k = p.length - (k + 1) + 1 by omega) ⟨⟨rfl, rfl, rfl, rfl, rfl, congrArg i64 hinc, True.intro⟩, True.intro, rfl, rfl, rfl⟩
      rw [take_snocA hc] at hd
      rcases List.mem_append.1 hd with hd | hd
      · exact hall d hd
      · rw [List.mem_singleton.1 hd]
        exact beq_eq_false_iff_ne.1 q
  have h' : k = p.length := by have : ¬ (k : Int) < (p.length : Int) := h; omega
  rw [h', List.take_length] at hall
  obtain ⟨r1, r2, r3, r4⟩ := hrel hall
  refine callP (float64frombits_ok a) rfl rfl ?_
  refine callP ha rfl rfl ?_
  refine callP (float64frombits_ok b) rfl rfl ?_
  refine callP hb rfl rfl ?_
  refine fork (fun z1 => ?_) (fun z1 => absurd z1 (by rw [r1]; simp))
  refine fork (fun z2 => ?_) (fun z2 => absurd z2 (by rw [r2]; simp))
  refine fork (fun z3 => ?_) (fun z3 => absurd z3 (by rw [r3]; simp))
  refine fork (fun z4 => ?_) (fun z4 => absurd z4 (by rw [r4]; simp))
  refine end0 rfl rfl rfl rfl
theorem exprDepth_walk2 (p : List (Int × Nat)) (a b : Nat) (dn : Int) (s1 s2 : List Nat) (m1 m2 : Nat) (h : p.length ≤ 100) (h2 : ACalls Try.prog 16 [.view p.length (flat cd p)] [] (Ret (bo true))) (h3 : ACalls Try.prog 18 [.view p.length (flat cd p)] [] (Ret (.tup [i64 dn, bo false]))) (h4 : ACalls Try.prog 19 [.view p.length (flat cd p)] [] (Ret (.tup [i64 dn, bo false]))) (ha : ACalls Try.prog 14 [.view p.length (flat cd p), fl a] [] (Ret (.tup [us s1, i64 (m1 : Nat)]))) (hb : ACalls Try.prog 14 [.view p.length (flat cd p), fl b] [] (Ret (.tup [us s2, i64 (m2 : Nat)]))) (hrel : (∀ c ∈ p, c.1 ≠ 15) → s1.length = s2.length ∧ m1 = m2 ∧ m1 ≠ p.length ∧ True) : ACalls Try.prog 6 [.view p.length (flat cd p), u64 a, u64 b] [] (Ret (bo true)) := by
  refine acalls_of_awp hT mixed Try.func6 rfl (by kernel_rfl) (by kernel_rfl) (Nat.le_of_ble_eq_true rfl) ?_
  refine callP awakeE_ok rfl rfl ?_
  refine forkD (fun h1 => ?_) (fun h1 => ?_)
  · exfalso
    have : (100 : Int) < (p.length : Int) := h1
    omega
  refine callP h3 rfl rfl ?_
  refine callP h2 rfl rfl ?_
  refine callP h4 rfl rfl ?_
  refine fork (fun g => absurd g (by simp)) (fun g => ?_)
  refine loopI (α := { k : Nat // k ≤ p.length ∧ ∀ c ∈ p.take k, c.1 ≠ 15 }) (fun z => [(0, .view p.length (flat cd p)), (1, u64 a), (2, u64 b), (7, i64 dn), (8, bo false), (11, i64 (z.val : Nat))]) (fun z => []) (fun z => p.length - z.val)
    ⟨0, Nat.zero_le _, fun c hc => by cases hc⟩ [] ⟨⟨rfl, rfl, rfl, rfl, rfl, rfl, True.intro⟩, True.intro, rfl, rfl, rfl⟩ ?_
  rintro ⟨k, hk, hall⟩ K hK
  have hinc : wrp .i64 ((k : Int) + 1) = ((k + 1 : Nat) : Int) := by rw [wrpE, wi64]; omega
  refine forkD (fun h => ?_) (fun h => ?_)
  · have h' : k < p.length := by have : (k : Int) < (p.length : Int) := h; omega
    obtain ⟨c, hc⟩ : ∃ c, p[k]? = some c := ⟨_, List.getElem?_eq_getElem h'⟩
    refine Ob.intro (show (0 : Int) ≤ (k : Nat) ∧ ((k : Nat) : Int) < (p.length : Nat) by omega) ?_
    refine optK_intro (cd_op hc) ?_
    refine fork (fun q => ?_) (fun q => ?_)
    · refine end0 rfl rfl rfl rfl
    · refine hK ⟨k + 1, h', fun d hd => ?_⟩ [] _ (show p.length - k = p.length - (k + 1) + 1 by omega) ⟨⟨rfl, rfl, rfl, rfl, rfl, congrArg i64 hinc, True.intro⟩, True.intro, rfl, rfl, rfl⟩
      rw [take_snocA hc] at hd
      rcases List.mem_append.1 hd with hd | hd
      · exact hall d hd
      · rw [List.mem_singleton.1 hd]
        exact beq_eq_false_iff_ne.1 q
  have h' : k = p.length := by have : ¬ (k : Int) < (p.length : Int) := h; omega
  rw [h', List.take_length] at hall
  obtain ⟨r1, r2, r3, r4⟩ := hrel hall
  refine callP (float64frombits_ok a) rfl rfl ?_
  refine callP ha rfl rfl ?_
  refine callP (float64frombits_ok b) rfl rfl ?_
  refine callP hb rfl rfl ?_
  refine fork (fun z1 => ?_) (fun z1 => absurd z1 (by rw [r1]; simp))
  refine fork (fun z2 => ?_) (fun z2 => absurd z2 (by rw [r2]; simp))
  have hm : ((m1 : Int) == (p.length : Int)) = false := by rw [beq_eq_false_iff_ne]; omega
  refine fork (fun z3 => absurd z3 (by rw [hm]; decide)) (fun z3 => ?_)
  refine end0 rfl rfl rfl rfl
theorem exprDepth_law (l0 : List AV) (w0 : Wf (.slice (.strct (.cons (.int .i64) (.cons (.int .u64) .none)))) l0) (l1 : List AV) (w1 : Wf (.int .u64) l1) (l2 : List AV) (w2 : Wf (.int .u64) l2) : ACalls Try.prog 6 [argA (.slice (.strct (.cons (.int .i64) (.cons (.int .u64) .none)))) l0, argA (.int .u64) l1, argA (.int .u64) l2] [] (Ret (.sc (.bool true))) := by
  obtain ⟨p, rfl, hp, hl⟩ := wf_codes w0
  obtain ⟨a, rfl, ha⟩ := wf_nat w1
  obtain ⟨b, rfl, hb⟩ := wf_nat w2
  rcases Nat.lt_or_ge 100 p.length with h | h
  · exact exprDepth_big p a b h
  cases hq : rightP p with
  | false => exact exprDepth_no p a b h hq hp
  | true =>
    have h2 := rRight_ok p hp (by omega)
    rw [hq] at h2
    have h3 := depth_ok p hp (by omega) hq
    have h4 := rDepth_ok p (by omega)
    have ta := trace_ok p a ha hp (by omega) hq
    have tb := trace_ok p b hb hp (by omega) hq
    have hok := (rightP_okC hq hp).1
    have hs0 : stk [] := ⟨Nat.zero_le _, fun b hb => by cases hb⟩
    have hle := depL_le p 0
    have key : (∀ c ∈ p, c.1 ≠ 15) → (runS a p []).1.length = (depL p 0).1 ∧ (runS a p []).2 = (depL p 0).2 ∧ (runS b p []).1.length = (depL p 0).1 ∧ (runS b p []).2 = (depL p 0).2 := fun h15 => by
      obtain ⟨x1, x2⟩ := depL_runS ha p [] (fun c hc => ⟨hok c hc, h15 c hc⟩) hs0
      obtain ⟨y1, y2⟩ := depL_runS hb p [] (fun c hc => ⟨hok c hc, h15 c hc⟩) hs0
      exact ⟨x1, x2, y1, y2⟩
    by_cases hd : (depL p 0).2 = p.length
    · have e : depE p = (((depL p 0).1 : Int), true) := if_pos hd
      rw [e] at h3 h4
      refine exprDepth_walk1 p a b _ _ _ _ _ h h2 h3 h4 ta tb fun h15 => ?_
      obtain ⟨x1, x2, y1, y2⟩ := key h15
      exact ⟨by rw [x1, y1], by rw [x2, y2], by rw [x2, hd], by rw [x1]⟩
    · have e : depE p = (0, false) := if_neg hd
      rw [e] at h3 h4
      refine exprDepth_walk2 p a b _ _ _ _ _ h h2 h3 h4 ta tb fun h15 => ?_
      obtain ⟨x1, x2, y1, y2⟩ := key h15
      exact ⟨by rw [x1, y1], by rw [x2, y2], by rw [x2]; exact hd, True.intro⟩
end Go.Proofs.Ytdjpcmlnhkiokaa.A
