/- expr: the chapter's examples; one number, one answer. No condition. -/
import Derived.Test.YtdjpcmlnhkiokaaEf
namespace Go.Proofs.Ytdjpcmlnhkiokaa.A
open Go
set_option linter.unusedVariables false
set_option maxRecDepth 100000
set_option pp.maxSteps 1500

theorem wf_flat {α : Type} {f : α → List AV} {Q : α → Prop} {e : Sh} (he : ∀ r, Wf e r → ∃ x, r = f x ∧ Q x) {l : List AV} (h : Wf (.slice e) l) : ∃ L : List α, l = [.view L.length (flat f L)] ∧ (∀ x ∈ L, Q x) ∧ L.length ≤ 9223372036854775807 := by
  obtain ⟨rows, rfl, hlen, hr⟩ := h
  have key : ∀ rows : List (List AV), (∀ r ∈ rows, Wf e r) → ∃ m : List α, m.length = rows.length ∧ rows.flatten = flat f m ∧ ∀ x ∈ m, Q x := by
    intro rows
    induction rows with
    | nil => intro _; exact ⟨[], rfl, rfl, by simp⟩
    | cons r rows ih =>
      intro hr
      obtain ⟨m, h1, h2, h3⟩ := ih fun x hx => hr x (List.mem_cons_of_mem _ hx)
      obtain ⟨x, rfl, hx⟩ := he r (hr r (List.mem_cons_self ..))
      refine ⟨x :: m, by simp [h1], by rw [List.flatten_cons, h2, flat_cons], ?_⟩
      intro y hy
      rcases List.mem_cons.1 hy with rfl | hy
      · exact hx
      · exact h3 y hy
  obtain ⟨m, h1, h2, h3⟩ := key rows hr
  exact ⟨m, by rw [h1, h2], h3, by omega⟩
theorem wf_codes {l : List AV} (h : Wf (.slice (.strct (.cons (.int .i64) (.cons (.int .u64) .none)))) l) : ∃ L : List (Int × Nat), l = [.view L.length (flat cd L)] ∧ (∀ c ∈ L, c.2 < 18446744073709551616) ∧ L.length ≤ 9223372036854775807 := by
  refine wf_flat (fun r hr => ?_) h
  obtain ⟨x, y, rfl, ⟨n, rfl, hn⟩, z, w, rfl, hz, rfl⟩ := hr
  obtain ⟨m, rfl, hm⟩ := wf_nat hz
  exact ⟨(n, m), rfl, hm⟩
theorem inf_ok : ACalls Try.prog 20 [i64 1] [] (Ret (fl 9218868437227405312)) := by
  refine acalls_of_awp hT mixed Try.func20 rfl (by kernel_rfl) (by kernel_rfl) (Nat.le_of_ble_eq_true rfl) ?_
  refine callP (float64frombits_ok _) rfl rfl ?_
  refine end0 rfl rfl rfl rfl
def prog1 : List (Int × Nat) := [(1, 0), (2, 4611686018427387904), (5, 0)]
def prog2 : List (Int × Nat) := [(1, 0), (15, 0)]
theorem runS_some {x : Nat} {c : Int × Nat} {p : List (Int × Nat)} {s t : List Nat} (h : stepS c.1 c.2 x s = some t) : runS x (c :: p) s = ((runS x p t).1, (runS x p t).2 + 1) := by
  simp only [runS, h]
theorem runS_none {x : Nat} {c : Int × Nat} {p : List (Int × Nat)} {s : List Nat} (h : stepS c.1 c.2 x s = none) : runS x (c :: p) s = (s, 0) := by
  simp only [runS, h]
theorem stepS_go {op : Int} {own x : Nat} {s : List Nat} (h : ¬ (s.length < takesS op ∨ 8 < s.length - takesS op + putsS op)) : stepS op own x s = (outS op own x (s.drop (s.length - takesS op))).map (s.take (s.length - takesS op) ++ ·) := if_neg h
theorem run1 : runE prog1 4626604192193052672 = (4631107791820423168, 0) := by
  have h1 : stepS 1 0 4626604192193052672 [] = some [4626604192193052672] := by
    unfold stepS
    rw [if_neg (by decide)]
    rfl
  have h2 : stepS 2 4611686018427387904 4626604192193052672 [4626604192193052672] = some [4626604192193052672, 4611686018427387904] := by
    unfold stepS
    rw [if_neg (by decide)]
    rfl
  have hm : twoO 5 4626604192193052672 4611686018427387904 = some 4631107791820423168 := by
    show fari .mul .f64 _ _ = _
    rw [fari_mul]
    decide
  have h3 : stepS 5 0 4626604192193052672 [4626604192193052672, 4611686018427387904] = some [4631107791820423168] := by
    unfold stepS
    rw [if_neg (by decide)]
    show some [bitsO (twoO 5 4626604192193052672 4611686018427387904)] = _
    rw [hm]
    rfl
  have hr : runS 4626604192193052672 prog1 [] = ([4631107791820423168], 3) := by
    unfold prog1
    rw [runS_some h1, runS_some h2, runS_some h3]
    rfl
  unfold runE
  rw [hr, if_pos (by decide), if_neg (by decide)]
  rfl
theorem run2 : runE prog2 9218868437227405312 = (0, 20) := by
  have h1 : stepS 1 0 9218868437227405312 [] = some [9218868437227405312] := by
    unfold stepS
    rw [if_neg (by decide)]
    rfl
  have h2 : stepS 15 0 9218868437227405312 [9218868437227405312] = none := by
    unfold stepS
    rw [if_neg (by decide)]
    rfl
  have hr : runS 9218868437227405312 prog2 [] = ([9218868437227405312], 1) := by
    unfold prog2
    rw [runS_some h1, runS_none h2]
  unfold runE
  rw [hr, if_pos (by decide), if_pos (by decide)]
theorem awakeE_ok : ACalls Try.prog 7 [] [] (Ret (bo true)) := by
  have r1 := Run_ok prog1 4626604192193052672 (by decide) (by decide) (by decide)
  have r2 := Run_ok prog2 9218868437227405312 (by decide) (by decide) (by decide)
  rw [run1] at r1
  rw [run2] at r2
  refine acalls_of_awp hT mixed Try.func7 rfl (by kernel_rfl) (by kernel_rfl) (Nat.le_of_ble_eq_true rfl) ?_
  refine callP (float64bits_ok _) rfl rfl ?_
  refine callF r1 rfl rfl ?_
  refine callP inf_ok rfl rfl ?_
  refine callF r2 rfl rfl ?_
  have hf : (ordr .f64 4631107791820423168 4631107791820423168 == some .eq) = true := by rw [ordr_eq]; decide
  refine fork (fun h => ?_) (fun h => ?_)
  · refine endG rfl rfl rfl (G := []) True.intro (Nat.zero_le _) rfl ⟨rfl, rfl⟩
  · exact absurd h (by rw [hf]; decide)
theorem picks_run (op : Int) (a b z : Nat) (ha : cW a) (hb : cW b) (h3 : op = 7 ∨ op = 8) (hz : twoO op a b = some z) (hzc : bitsB z = z) : runE [(2, a), (2, b), (op, 0)] 0 = (z, 0) := by
  have h1 : stepS 2 a 0 [] = some [a] := by
    unfold stepS
    rw [if_neg (by decide)]
    show some [bitsB (bitsB a)] = _
    rw [ha.2, ha.2]
  have h2 : stepS 2 b 0 [a] = some [a, b] := by
    refine (stepS_go (op := 2) (s := [a]) (show ¬ (1 < 0 ∨ 8 < 1 - 0 + 1) by decide)).trans ?_
    show some [a, bitsB (bitsB b)] = _
    rw [hb.2, hb.2]
  have h4 : stepS op 0 0 [a, b] = some [z] := by
    rcases h3 with rfl | rfl
    · refine (stepS_go (op := 7) (s := [a, b]) (show ¬ (2 < 2 ∨ 8 < 2 - 2 + 1) by decide)).trans ?_
      show some [bitsO (twoO 7 a b)] = _
      rw [hz]
      exact congrArg (fun y => some [y]) hzc
    · refine (stepS_go (op := 8) (s := [a, b]) (show ¬ (2 < 2 ∨ 8 < 2 - 2 + 1) by decide)).trans ?_
      show some [bitsO (twoO 8 a b)] = _
      rw [hz]
      exact congrArg (fun y => some [y]) hzc
  have hr : runS 0 [(2, a), (2, b), (op, 0)] [] = ([z], 3) := by
    rw [runS_some h1, runS_some h2, runS_some h4]
    rfl
  have hp : rightP [(2, a), (2, b), (op, 0)] = true := by
    have e1 : rightC (2, a) = true := by show ((bitsB a : Int) == (a : Int)) = true; rw [ha.2]; exact beq_self_eq_true _
    have e2 : rightC (2, b) = true := by show ((bitsB b : Int) == (b : Int)) = true; rw [hb.2]; exact beq_self_eq_true _
    have e3 : rightC (op, 0) = true := by rcases h3 with rfl | rfl <;> rfl
    unfold rightP
    simp only [List.all_cons, List.all_nil, e1, e2, e3]
    rfl
  unfold runE
  rw [hr, if_pos hp, if_neg (by simp)]
  rfl
theorem picks_run3 (a b c z : Nat) (ha : cW a) (hb : cW b) (hc : cW c) (hz : (if decide (5 < classB c) = true then a else b) = z) : runE [(2, a), (2, b), (2, c), (16, 0)] 0 = (z, 0) := by
  have h1 : stepS 2 a 0 [] = some [a] := by
    unfold stepS
    rw [if_neg (by decide)]
    show some [bitsB (bitsB a)] = _
    rw [ha.2, ha.2]
  have h2 : stepS 2 b 0 [a] = some [a, b] := by
    refine (stepS_go (op := 2) (s := [a]) (show ¬ (1 < 0 ∨ 8 < 1 - 0 + 1) by decide)).trans ?_
    show some [a, bitsB (bitsB b)] = _
    rw [hb.2, hb.2]
  have h3 : stepS 2 c 0 [a, b] = some [a, b, c] := by
    refine (stepS_go (op := 2) (s := [a, b]) (show ¬ (2 < 0 ∨ 8 < 2 - 0 + 1) by decide)).trans ?_
    show some [a, b, bitsB (bitsB c)] = _
    rw [hc.2, hc.2]
  have h4 : stepS 16 0 0 [a, b, c] = some [z] := by
    refine (stepS_go (op := 16) (s := [a, b, c]) (show ¬ (3 < 3 ∨ 8 < 3 - 3 + 1) by decide)).trans ?_
    show (if decide (5 < classB c) = true then some [bitsB a] else some [bitsB b]).map (([] : List Nat) ++ ·) = _
    rw [← hz, ha.2, hb.2]
    split <;> rfl
  have hr : runS 0 [(2, a), (2, b), (2, c), (16, 0)] [] = ([z], 4) := by
    rw [runS_some h1, runS_some h2, runS_some h3, runS_some h4]
    rfl
  have hp : rightP [(2, a), (2, b), (2, c), (16, 0)] = true := by
    have e1 : rightC (2, a) = true := by show ((bitsB a : Int) == (a : Int)) = true; rw [ha.2]; exact beq_self_eq_true _
    have e2 : rightC (2, b) = true := by show ((bitsB b : Int) == (b : Int)) = true; rw [hb.2]; exact beq_self_eq_true _
    have e3 : rightC (2, c) = true := by show ((bitsB c : Int) == (c : Int)) = true; rw [hc.2]; exact beq_self_eq_true _
    unfold rightP
    simp only [List.all_cons, List.all_nil, e1, e2, e3]
    rfl
  unfold runE
  rw [hr, if_pos hp, if_neg (by simp)]
  rfl
theorem cW_zero : (0 : Nat) < 18446744073709551616 := by decide
theorem pk1 (a b c x y w : Nat) (k : Int) (ra : ACalls Try.prog 9 [fl a] [] (Ret (u64 x))) (rb : ACalls Try.prog 9 [fl b] [] (Ret (u64 y))) (rc : ACalls Try.prog 9 [fl c] [] (Ret (u64 w))) (hl : ACalls Try.prog 12 [fl y, fl x] [] (Ret (bo true))) (hcl : ACalls Try.prog 13 [fl w] [] (Ret (i64 k))) (q7 : ACalls Try.prog 10 [.view 3 (flat cd [(2, x), (2, y), (7, 0)]), fl 0] [] (Ret (.tup [fl y, i64 0]))) (q8 : ACalls Try.prog 10 [.view 3 (flat cd [(2, x), (2, y), (8, 0)]), fl 0] [] (Ret (.tup [fl x, i64 0]))) (q16 : ACalls Try.prog 10 [.view 4 (flat cd [(2, x), (2, y), (2, w), (16, 0)]), fl 0] [] (Ret (.tup [fl x, i64 0]))) (hk : 6 ≤ k) : ACalls Try.prog 4 [u64 a, u64 b, u64 c] [] (Ret (bo true)) := by
  refine acalls_of_awpC [12, 13, 14, 15] hT mixed Try.func4 rfl (by kernel_rfl) (by kernel_rfl) (Nat.le_of_ble_eq_true rfl) ?_
  refine callP awakeE_ok rfl rfl ?_
  refine callP (float64frombits_ok a) rfl rfl ?_
  refine callP ra rfl rfl ?_
  refine callP (float64frombits_ok b) rfl rfl ?_
  refine callP rb rfl rfl ?_
  refine callP (float64frombits_ok c) rfl rfl ?_
  refine callP rc rfl rfl ?_
  refine callP (float64frombits_ok y) rfl rfl ?_
  refine callP (float64frombits_ok x) rfl rfl ?_
  refine callP hl rfl rfl ?_
  refine cutI (α := Unit) (fun _ => [(0, u64 x), (1, u64 y), (2, u64 w), (8, u64 y), (9, u64 x), (10, u64 x)]) (fun _ => []) [] (fun K hK => ?_) (fun _ => ?_)
  · refine callP (float64frombits_ok w) rfl rfl ?_
    refine callP hcl rfl rfl ?_
    refine forkD (fun h1 => ?_) (fun h1 => absurd (show (6 : Int) ≤ k by omega) h1)
    exact hK () [] [] _ ⟨⟨rfl, rfl, rfl, rfl, rfl, rfl, True.intro⟩, True.intro, rfl, rfl, rfl⟩
  · refine cutI (α := Unit) (fun _ => [(0, u64 x), (1, u64 y), (2, u64 w), (8, u64 y), (9, u64 x), (10, u64 x), (11, fl y), (12, i64 0)]) (fun _ => []) [] (fun K hK => ?_) (fun _ => ?_)
    · refine callF q7 rfl rfl ?_
      exact hK () [] [] _ ⟨⟨rfl, rfl, rfl, rfl, rfl, rfl, rfl, rfl, True.intro⟩, True.intro, rfl, rfl, rfl⟩
    · refine cutI (α := Unit) (fun _ => [(0, u64 x), (1, u64 y), (2, u64 w), (8, u64 y), (9, u64 x), (10, u64 x), (11, fl y), (12, i64 0), (13, fl x), (14, i64 0)]) (fun _ => []) [] (fun K hK => ?_) (fun _ => ?_)
      · refine callF q8 rfl rfl ?_
        exact hK () [] [] _ ⟨⟨rfl, rfl, rfl, rfl, rfl, rfl, rfl, rfl, rfl, rfl, True.intro⟩, True.intro, rfl, rfl, rfl⟩
      · refine cutI (α := Unit) (fun _ => [(8, u64 y), (9, u64 x), (10, u64 x), (11, fl y), (12, i64 0), (13, fl x), (14, i64 0), (15, fl x), (16, i64 0)]) (fun _ => []) [] (fun K hK => ?_) (fun _ => ?_)
        · refine callF q16 rfl rfl ?_
          exact hK () [] [] _ ⟨⟨rfl, rfl, rfl, rfl, rfl, rfl, rfl, rfl, rfl, True.intro⟩, True.intro, rfl, rfl, rfl⟩
        · refine callP (float64bits_ok (y)) rfl rfl ?_
          refine fork (fun h2 => ?_) (fun h2 => absurd h2 (by rw [beq_self_eq_true]; decide))
          refine callP (float64bits_ok (x)) rfl rfl ?_
          refine fork (fun h3 => ?_) (fun h3 => absurd h3 (by rw [beq_self_eq_true]; decide))
          refine callP (float64bits_ok (x)) rfl rfl ?_
          refine fork (fun h4 => ?_) (fun h4 => absurd h4 (by rw [beq_self_eq_true]; decide))
          refine endG rfl rfl rfl (G := []) True.intro (Nat.zero_le _) rfl ⟨rfl, rfl⟩
theorem pk2 (a b c x y w : Nat) (k : Int) (ra : ACalls Try.prog 9 [fl a] [] (Ret (u64 x))) (rb : ACalls Try.prog 9 [fl b] [] (Ret (u64 y))) (rc : ACalls Try.prog 9 [fl c] [] (Ret (u64 w))) (hl : ACalls Try.prog 12 [fl y, fl x] [] (Ret (bo true))) (hcl : ACalls Try.prog 13 [fl w] [] (Ret (i64 k))) (q7 : ACalls Try.prog 10 [.view 3 (flat cd [(2, x), (2, y), (7, 0)]), fl 0] [] (Ret (.tup [fl y, i64 0]))) (q8 : ACalls Try.prog 10 [.view 3 (flat cd [(2, x), (2, y), (8, 0)]), fl 0] [] (Ret (.tup [fl x, i64 0]))) (q16 : ACalls Try.prog 10 [.view 4 (flat cd [(2, x), (2, y), (2, w), (16, 0)]), fl 0] [] (Ret (.tup [fl y, i64 0]))) (hk : ¬ 6 ≤ k) : ACalls Try.prog 4 [u64 a, u64 b, u64 c] [] (Ret (bo true)) := by
  refine acalls_of_awpC [12, 13, 14, 15] hT mixed Try.func4 rfl (by kernel_rfl) (by kernel_rfl) (Nat.le_of_ble_eq_true rfl) ?_
  refine callP awakeE_ok rfl rfl ?_
  refine callP (float64frombits_ok a) rfl rfl ?_
  refine callP ra rfl rfl ?_
  refine callP (float64frombits_ok b) rfl rfl ?_
  refine callP rb rfl rfl ?_
  refine callP (float64frombits_ok c) rfl rfl ?_
  refine callP rc rfl rfl ?_
  refine callP (float64frombits_ok y) rfl rfl ?_
  refine callP (float64frombits_ok x) rfl rfl ?_
  refine callP hl rfl rfl ?_
  refine cutI (α := Unit) (fun _ => [(0, u64 x), (1, u64 y), (2, u64 w), (8, u64 y), (9, u64 x), (10, u64 y)]) (fun _ => []) [] (fun K hK => ?_) (fun _ => ?_)
  · refine callP (float64frombits_ok w) rfl rfl ?_
    refine callP hcl rfl rfl ?_
    refine forkD (fun h1 => absurd (show (6 : Int) ≤ k from h1) (by omega)) (fun h1 => ?_)
    exact hK () [] [] _ ⟨⟨rfl, rfl, rfl, rfl, rfl, rfl, True.intro⟩, True.intro, rfl, rfl, rfl⟩
  · refine cutI (α := Unit) (fun _ => [(0, u64 x), (1, u64 y), (2, u64 w), (8, u64 y), (9, u64 x), (10, u64 y), (11, fl y), (12, i64 0)]) (fun _ => []) [] (fun K hK => ?_) (fun _ => ?_)
    · refine callF q7 rfl rfl ?_
      exact hK () [] [] _ ⟨⟨rfl, rfl, rfl, rfl, rfl, rfl, rfl, rfl, True.intro⟩, True.intro, rfl, rfl, rfl⟩
    · refine cutI (α := Unit) (fun _ => [(0, u64 x), (1, u64 y), (2, u64 w), (8, u64 y), (9, u64 x), (10, u64 y), (11, fl y), (12, i64 0), (13, fl x), (14, i64 0)]) (fun _ => []) [] (fun K hK => ?_) (fun _ => ?_)
      · refine callF q8 rfl rfl ?_
        exact hK () [] [] _ ⟨⟨rfl, rfl, rfl, rfl, rfl, rfl, rfl, rfl, rfl, rfl, True.intro⟩, True.intro, rfl, rfl, rfl⟩
      · refine cutI (α := Unit) (fun _ => [(8, u64 y), (9, u64 x), (10, u64 y), (11, fl y), (12, i64 0), (13, fl x), (14, i64 0), (15, fl y), (16, i64 0)]) (fun _ => []) [] (fun K hK => ?_) (fun _ => ?_)
        · refine callF q16 rfl rfl ?_
          exact hK () [] [] _ ⟨⟨rfl, rfl, rfl, rfl, rfl, rfl, rfl, rfl, rfl, True.intro⟩, True.intro, rfl, rfl, rfl⟩
        · refine callP (float64bits_ok (y)) rfl rfl ?_
          refine fork (fun h2 => ?_) (fun h2 => absurd h2 (by rw [beq_self_eq_true]; decide))
          refine callP (float64bits_ok (x)) rfl rfl ?_
          refine fork (fun h3 => ?_) (fun h3 => absurd h3 (by rw [beq_self_eq_true]; decide))
          refine callP (float64bits_ok (y)) rfl rfl ?_
          refine fork (fun h4 => ?_) (fun h4 => absurd h4 (by rw [beq_self_eq_true]; decide))
          refine endG rfl rfl rfl (G := []) True.intro (Nat.zero_le _) rfl ⟨rfl, rfl⟩
theorem pk3 (a b c x y w : Nat) (k : Int) (ra : ACalls Try.prog 9 [fl a] [] (Ret (u64 x))) (rb : ACalls Try.prog 9 [fl b] [] (Ret (u64 y))) (rc : ACalls Try.prog 9 [fl c] [] (Ret (u64 w))) (hl : ACalls Try.prog 12 [fl y, fl x] [] (Ret (bo false))) (hcl : ACalls Try.prog 13 [fl w] [] (Ret (i64 k))) (q7 : ACalls Try.prog 10 [.view 3 (flat cd [(2, x), (2, y), (7, 0)]), fl 0] [] (Ret (.tup [fl x, i64 0]))) (q8 : ACalls Try.prog 10 [.view 3 (flat cd [(2, x), (2, y), (8, 0)]), fl 0] [] (Ret (.tup [fl y, i64 0]))) (q16 : ACalls Try.prog 10 [.view 4 (flat cd [(2, x), (2, y), (2, w), (16, 0)]), fl 0] [] (Ret (.tup [fl x, i64 0]))) (hk : 6 ≤ k) : ACalls Try.prog 4 [u64 a, u64 b, u64 c] [] (Ret (bo true)) := by
  refine acalls_of_awpC [12, 13, 14, 15] hT mixed Try.func4 rfl (by kernel_rfl) (by kernel_rfl) (Nat.le_of_ble_eq_true rfl) ?_
  refine callP awakeE_ok rfl rfl ?_
  refine callP (float64frombits_ok a) rfl rfl ?_
  refine callP ra rfl rfl ?_
  refine callP (float64frombits_ok b) rfl rfl ?_
  refine callP rb rfl rfl ?_
  refine callP (float64frombits_ok c) rfl rfl ?_
  refine callP rc rfl rfl ?_
  refine callP (float64frombits_ok y) rfl rfl ?_
  refine callP (float64frombits_ok x) rfl rfl ?_
  refine callP hl rfl rfl ?_
  refine cutI (α := Unit) (fun _ => [(0, u64 x), (1, u64 y), (2, u64 w), (8, u64 x), (9, u64 y), (10, u64 x)]) (fun _ => []) [] (fun K hK => ?_) (fun _ => ?_)
  · refine callP (float64frombits_ok w) rfl rfl ?_
    refine callP hcl rfl rfl ?_
    refine forkD (fun h1 => ?_) (fun h1 => absurd (show (6 : Int) ≤ k by omega) h1)
    exact hK () [] [] _ ⟨⟨rfl, rfl, rfl, rfl, rfl, rfl, True.intro⟩, True.intro, rfl, rfl, rfl⟩
  · refine cutI (α := Unit) (fun _ => [(0, u64 x), (1, u64 y), (2, u64 w), (8, u64 x), (9, u64 y), (10, u64 x), (11, fl x), (12, i64 0)]) (fun _ => []) [] (fun K hK => ?_) (fun _ => ?_)
    · refine callF q7 rfl rfl ?_
      exact hK () [] [] _ ⟨⟨rfl, rfl, rfl, rfl, rfl, rfl, rfl, rfl, True.intro⟩, True.intro, rfl, rfl, rfl⟩
    · refine cutI (α := Unit) (fun _ => [(0, u64 x), (1, u64 y), (2, u64 w), (8, u64 x), (9, u64 y), (10, u64 x), (11, fl x), (12, i64 0), (13, fl y), (14, i64 0)]) (fun _ => []) [] (fun K hK => ?_) (fun _ => ?_)
      · refine callF q8 rfl rfl ?_
        exact hK () [] [] _ ⟨⟨rfl, rfl, rfl, rfl, rfl, rfl, rfl, rfl, rfl, rfl, True.intro⟩, True.intro, rfl, rfl, rfl⟩
      · refine cutI (α := Unit) (fun _ => [(8, u64 x), (9, u64 y), (10, u64 x), (11, fl x), (12, i64 0), (13, fl y), (14, i64 0), (15, fl x), (16, i64 0)]) (fun _ => []) [] (fun K hK => ?_) (fun _ => ?_)
        · refine callF q16 rfl rfl ?_
          exact hK () [] [] _ ⟨⟨rfl, rfl, rfl, rfl, rfl, rfl, rfl, rfl, rfl, True.intro⟩, True.intro, rfl, rfl, rfl⟩
        · refine callP (float64bits_ok (x)) rfl rfl ?_
          refine fork (fun h2 => ?_) (fun h2 => absurd h2 (by rw [beq_self_eq_true]; decide))
          refine callP (float64bits_ok (y)) rfl rfl ?_
          refine fork (fun h3 => ?_) (fun h3 => absurd h3 (by rw [beq_self_eq_true]; decide))
          refine callP (float64bits_ok (x)) rfl rfl ?_
          refine fork (fun h4 => ?_) (fun h4 => absurd h4 (by rw [beq_self_eq_true]; decide))
          refine endG rfl rfl rfl (G := []) True.intro (Nat.zero_le _) rfl ⟨rfl, rfl⟩
theorem pk4 (a b c x y w : Nat) (k : Int) (ra : ACalls Try.prog 9 [fl a] [] (Ret (u64 x))) (rb : ACalls Try.prog 9 [fl b] [] (Ret (u64 y))) (rc : ACalls Try.prog 9 [fl c] [] (Ret (u64 w))) (hl : ACalls Try.prog 12 [fl y, fl x] [] (Ret (bo false))) (hcl : ACalls Try.prog 13 [fl w] [] (Ret (i64 k))) (q7 : ACalls Try.prog 10 [.view 3 (flat cd [(2, x), (2, y), (7, 0)]), fl 0] [] (Ret (.tup [fl x, i64 0]))) (q8 : ACalls Try.prog 10 [.view 3 (flat cd [(2, x), (2, y), (8, 0)]), fl 0] [] (Ret (.tup [fl y, i64 0]))) (q16 : ACalls Try.prog 10 [.view 4 (flat cd [(2, x), (2, y), (2, w), (16, 0)]), fl 0] [] (Ret (.tup [fl y, i64 0]))) (hk : ¬ 6 ≤ k) : ACalls Try.prog 4 [u64 a, u64 b, u64 c] [] (Ret (bo true)) := by
  refine acalls_of_awpC [12, 13, 14, 15] hT mixed Try.func4 rfl (by kernel_rfl) (by kernel_rfl) (Nat.le_of_ble_eq_true rfl) ?_
  refine callP awakeE_ok rfl rfl ?_
  refine callP (float64frombits_ok a) rfl rfl ?_
  refine callP ra rfl rfl ?_
  refine callP (float64frombits_ok b) rfl rfl ?_
  refine callP rb rfl rfl ?_
  refine callP (float64frombits_ok c) rfl rfl ?_
  refine callP rc rfl rfl ?_
  refine callP (float64frombits_ok y) rfl rfl ?_
  refine callP (float64frombits_ok x) rfl rfl ?_
  refine callP hl rfl rfl ?_
  refine cutI (α := Unit) (fun _ => [(0, u64 x), (1, u64 y), (2, u64 w), (8, u64 x), (9, u64 y), (10, u64 y)]) (fun _ => []) [] (fun K hK => ?_) (fun _ => ?_)
  · refine callP (float64frombits_ok w) rfl rfl ?_
    refine callP hcl rfl rfl ?_
    refine forkD (fun h1 => absurd (show (6 : Int) ≤ k from h1) (by omega)) (fun h1 => ?_)
    exact hK () [] [] _ ⟨⟨rfl, rfl, rfl, rfl, rfl, rfl, True.intro⟩, True.intro, rfl, rfl, rfl⟩
  · refine cutI (α := Unit) (fun _ => [(0, u64 x), (1, u64 y), (2, u64 w), (8, u64 x), (9, u64 y), (10, u64 y), (11, fl x), (12, i64 0)]) (fun _ => []) [] (fun K hK => ?_) (fun _ => ?_)
    · refine callF q7 rfl rfl ?_
      exact hK () [] [] _ ⟨⟨rfl, rfl, rfl, rfl, rfl, rfl, rfl, rfl, True.intro⟩, True.intro, rfl, rfl, rfl⟩
    · refine cutI (α := Unit) (fun _ => [(0, u64 x), (1, u64 y), (2, u64 w), (8, u64 x), (9, u64 y), (10, u64 y), (11, fl x), (12, i64 0), (13, fl y), (14, i64 0)]) (fun _ => []) [] (fun K hK => ?_) (fun _ => ?_)
      · refine callF q8 rfl rfl ?_
        exact hK () [] [] _ ⟨⟨rfl, rfl, rfl, rfl, rfl, rfl, rfl, rfl, rfl, rfl, True.intro⟩, True.intro, rfl, rfl, rfl⟩
      · refine cutI (α := Unit) (fun _ => [(8, u64 x), (9, u64 y), (10, u64 y), (11, fl x), (12, i64 0), (13, fl y), (14, i64 0), (15, fl y), (16, i64 0)]) (fun _ => []) [] (fun K hK => ?_) (fun _ => ?_)
        · refine callF q16 rfl rfl ?_
          exact hK () [] [] _ ⟨⟨rfl, rfl, rfl, rfl, rfl, rfl, rfl, rfl, rfl, True.intro⟩, True.intro, rfl, rfl, rfl⟩
        · refine callP (float64bits_ok (x)) rfl rfl ?_
          refine fork (fun h2 => ?_) (fun h2 => absurd h2 (by rw [beq_self_eq_true]; decide))
          refine callP (float64bits_ok (y)) rfl rfl ?_
          refine fork (fun h3 => ?_) (fun h3 => absurd h3 (by rw [beq_self_eq_true]; decide))
          refine callP (float64bits_ok (y)) rfl rfl ?_
          refine fork (fun h4 => ?_) (fun h4 => absurd h4 (by rw [beq_self_eq_true]; decide))
          refine endG rfl rfl rfl (G := []) True.intro (Nat.zero_le _) rfl ⟨rfl, rfl⟩
end Go.Proofs.Ytdjpcmlnhkiokaa.A
