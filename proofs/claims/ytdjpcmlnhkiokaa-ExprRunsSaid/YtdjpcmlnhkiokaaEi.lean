/- expr: how deep a stack is; what the document says of it. No condition. -/
import Derived.Test.YtdjpcmlnhkiokaaEh
namespace Go.Proofs.Ytdjpcmlnhkiokaa.A
open Go
set_option linter.unusedVariables false
set_option maxRecDepth 100000
set_option pp.maxSteps 1500

theorem needs_ok (op : Int) : ACalls Try.prog 26 [i64 op] [] (Ret (.tup [i64 (takesS op : Nat), i64 (putsS op : Nat)])) := by
  have key : ∀ (t u : Nat), takesS op = t → putsS op = u → ∀ x y : Int, x = t → y = u → AV.tup [i64 x, i64 y] = .tup [i64 (takesS op : Nat), i64 (putsS op : Nat)] := by
    rintro t u rfl rfl x y rfl rfl
    rfl
  refine acalls_of_awp hT mixed Try.func26 rfl (by kernel_rfl) (by kernel_rfl) (Nat.le_of_ble_eq_true rfl) ?_
  refine forkD (fun h1 => ?_) (fun h1 => ?_)
  · have h : op ≤ 2 := h1
    refine end0 rfl rfl rfl (key 0 1 (if_pos h) (if_pos h) 0 1 rfl rfl)
  have g1 : ¬ op ≤ 2 := h1
  refine forkD (fun h2 => ?_) (fun h2 => ?_)
  · have h : op ≤ 8 := h2
    refine end0 rfl rfl rfl (key 2 1 ((if_neg g1).trans (if_pos h)) ((if_neg g1).trans (if_pos h)) 2 1 rfl rfl)
  have g2 : ¬ op ≤ 8 := h2
  have c11 : op ≤ 11 ∨ op = 15 → takesS op = 1 ∧ putsS op = 1 := fun h => ⟨(if_neg g1).trans ((if_neg g2).trans (if_pos h)), (if_neg g1).trans ((if_neg g2).trans (if_pos h))⟩
  refine forkD (fun h3 => ?_) (fun h3 => ?_)
  · have h : op ≤ 11 := h3
    refine end0 rfl rfl rfl (key 1 1 (c11 (.inl h)).1 (c11 (.inl h)).2 1 1 rfl rfl)
  have g3 : ¬ op ≤ 11 := h3
  refine fork (fun h4 => ?_) (fun h4 => ?_)
  · have h : op = 15 := beq_iff_eq.1 h4
    refine end0 rfl rfl rfl (key 1 1 (c11 (.inr h)).1 (c11 (.inr h)).2 1 1 rfl rfl)
  have g4 : ¬ op = 15 := beq_eq_false_iff_ne.1 h4
  have g5 : ¬ (op ≤ 11 ∨ op = 15) := by omega
  refine fork (fun h5 => ?_) (fun h5 => ?_)
  · have h : op = 12 := beq_iff_eq.1 h5
    refine end0 rfl rfl rfl (key 1 2 ((if_neg g1).trans ((if_neg g2).trans ((if_neg g5).trans (if_pos h)))) ((if_neg g1).trans ((if_neg g2).trans ((if_neg g5).trans (if_pos h)))) 1 2 rfl rfl)
  have g6 : ¬ op = 12 := beq_eq_false_iff_ne.1 h5
  refine fork (fun h6 => ?_) (fun h6 => ?_)
  · have h : op = 13 := beq_iff_eq.1 h6
    refine end0 rfl rfl rfl (key 2 2 ((if_neg g1).trans ((if_neg g2).trans ((if_neg g5).trans ((if_neg g6).trans (if_pos h))))) ((if_neg g1).trans ((if_neg g2).trans ((if_neg g5).trans ((if_neg g6).trans (if_pos h))))) 2 2 rfl rfl)
  have g7 : ¬ op = 13 := beq_eq_false_iff_ne.1 h6
  refine fork (fun h7 => ?_) (fun h7 => ?_)
  · have h : op = 14 := beq_iff_eq.1 h7
    refine end0 rfl rfl rfl (key 1 0 ((if_neg g1).trans ((if_neg g2).trans ((if_neg g5).trans ((if_neg g6).trans ((if_neg g7).trans (if_pos h)))))) ((if_neg g1).trans ((if_neg g2).trans ((if_neg g5).trans ((if_neg g6).trans ((if_neg g7).trans (if_pos h)))))) 1 0 rfl rfl)
  have g8 : ¬ op = 14 := beq_eq_false_iff_ne.1 h7
  refine end0 rfl rfl rfl (key 3 1 ((if_neg g1).trans ((if_neg g2).trans ((if_neg g5).trans ((if_neg g6).trans ((if_neg g7).trans (if_neg g8)))))) ((if_neg g1).trans ((if_neg g2).trans ((if_neg g5).trans ((if_neg g6).trans ((if_neg g7).trans (if_neg g8)))))) 3 1 rfl rfl)
/-- How deep the stack is as far as it goes, and how many steps go well, whatever the numbers are. -/
def depL : List (Int × Nat) → Nat → Nat × Nat
  | [], n => (n, 0)
  | c :: p, n => if n < takesS c.1 ∨ 8 < n - takesS c.1 + putsS c.1 then (n, 0) else ((depL p (n - takesS c.1 + putsS c.1)).1, (depL p (n - takesS c.1 + putsS c.1)).2 + 1)
def depE (p : List (Int × Nat)) : Int × Bool := if (depL p 0).2 = p.length then (((depL p 0).1 : Nat), true) else (0, false)
theorem depL_le : ∀ (p : List (Int × Nat)) (n : Nat), (depL p n).2 ≤ p.length
  | [], _ => Nat.le_refl 0
  | c :: p, n => by
    unfold depL
    split
    · exact Nat.zero_le _
    · exact Nat.succ_le_succ (depL_le p _)
structure DepSt (p : List (Int × Nat)) where
  k : Nat
  n : Nat
  hk : k ≤ p.length
  h8 : n ≤ 8
  hr : depL p 0 = ((depL (p.drop k) n).1, (depL (p.drop k) n).2 + k)
theorem takesS_le (op : Int) : takesS op ≤ 3 := by
  unfold takesS
  repeat' split
  all_goals omega
theorem putsS_le (op : Int) : putsS op ≤ 2 := by
  unfold putsS
  repeat' split
  all_goals omega
theorem dep_step {p : List (Int × Nat)} {k n : Nat} {c : Int × Nat} (hc : p[k]? = some c) (hr : depL p 0 = ((depL (p.drop k) n).1, (depL (p.drop k) n).2 + k)) :
    ((n < takesS c.1 ∨ 8 < n - takesS c.1 + putsS c.1) → depE p = (0, false)) ∧ (¬ (n < takesS c.1 ∨ 8 < n - takesS c.1 + putsS c.1) → depL p 0 = ((depL (p.drop (k + 1)) (n - takesS c.1 + putsS c.1)).1, (depL (p.drop (k + 1)) (n - takesS c.1 + putsS c.1)).2 + (k + 1))) := by
  have hk := (List.getElem?_eq_some_iff.1 hc).1
  have hd : p.drop k = c :: p.drop (k + 1) := by
    obtain ⟨hi, rfl⟩ := List.getElem?_eq_some_iff.1 hc
    exact List.drop_eq_getElem_cons hi
  rw [hd] at hr
  refine ⟨fun h => ?_, fun h => ?_⟩
  · have : depL p 0 = (n, 0 + k) := by rw [hr]; unfold depL; rw [if_pos h]
    unfold depE
    rw [this, if_neg (by show ¬ 0 + k = p.length; omega)]
  · rw [hr]
    conv => lhs; unfold depL
    rw [if_neg h]
    show (_, _ + 1 + k) = (_, _ + (k + 1))
    rw [Nat.add_assoc, Nat.add_comm 1 k]
theorem dep_end {p : List (Int × Nat)} {n : Nat} (hr : depL p 0 = ((depL (p.drop p.length) n).1, (depL (p.drop p.length) n).2 + p.length)) : depE p = ((n : Int), true) := by
  rw [List.drop_length] at hr
  have : depL p 0 = (n, 0 + p.length) := hr
  unfold depE
  rw [this, if_pos (Nat.zero_add _)]
theorem depth_ok (p : List (Int × Nat)) (hb : ∀ c ∈ p, c.2 < 18446744073709551616) (hl : p.length < 4611686018427387904) (hp : rightP p = true) : ACalls Try.prog 18 [.view p.length (flat cd p)] [] (Ret (.tup [i64 (depE p).1, bo (depE p).2])) := by
  have hR := rightP_ok p hl
  rw [hp] at hR
  refine acalls_of_awpC [25] hT mixed Try.func18 rfl (by kernel_rfl) (by kernel_rfl) (Nat.le_of_ble_eq_true rfl) ?_
  refine callP hR rfl rfl ?_
  refine loopI (α := DepSt p) (fun z => [(0, .view p.length (flat cd p)), (4, i64 (z.n : Nat)), (12, .view p.length (flat cd p)), (13, i64 p.length), (14, i64 (z.k : Nat))]) (fun z => []) (fun z => p.length - z.k)
    ⟨0, 0, Nat.zero_le _, Nat.zero_le _, rfl⟩ [] ⟨⟨rfl, rfl, rfl, rfl, rfl, True.intro⟩, True.intro, rfl, rfl, rfl⟩ ?_
  rintro ⟨k, n, hk, h8, hr⟩ K hK
  have hinc : wrp .i64 ((k : Int) + 1) = ((k + 1 : Nat) : Int) := by rw [wrpE, wi64]; omega
  refine forkD (fun h => ?_) (fun h => ?_)
  · have h' : k < p.length := by have : (k : Int) < (p.length : Int) := h; omega
    obtain ⟨c, hc⟩ : ∃ c, p[k]? = some c := ⟨_, List.getElem?_eq_getElem h'⟩
    have hop := ((rightP_okC hp hb).1 c (List.mem_of_getElem? hc)).1
    obtain ⟨d1, d2⟩ := dep_step hc hr
    have t3 := takesS_le c.1
    have p2 := putsS_le c.1
    refine Ob.intro (show (0 : Int) ≤ (k : Nat) ∧ ((k : Nat) : Int) < (p.length : Nat) by omega) ?_
    refine optK_intro (flat_takeN cd_len hc) ?_
    refine cutI (α := Unit) (fun _ => [(0, .view p.length (flat cd p)), (4, i64 (n : Nat)), (7, i64 (takesS c.1 : Nat)), (8, i64 (putsS c.1 : Nat)), (12, .view p.length (flat cd p)), (13, i64 p.length), (14, i64 (k : Nat))]) (fun _ => []) [] (fun K2 hK2 => ?_) (fun _ => ?_)
    · obtain ⟨op, b⟩ := c
      dsimp only at hop
      have hq : op = 1 ∨ op = 2 ∨ op = 3 ∨ op = 4 ∨ op = 5 ∨ op = 6 ∨ op = 7 ∨ op = 8 ∨ op = 9 ∨ op = 10 ∨ op = 11 ∨ op = 12 ∨ op = 13 ∨ op = 14 ∨ op = 15 ∨ op = 16 := by omega
      rcases hq with rfl | rfl | rfl | rfl | rfl | rfl | rfl | rfl | rfl | rfl | rfl | rfl | rfl | rfl | rfl | rfl
      all_goals exact hK2 () [] [] _ ⟨⟨rfl, rfl, rfl, rfl, rfl, rfl, rfl, True.intro⟩, True.intro, rfl, rfl, rfl⟩
    · generalize takesS c.1 = t at *
      generalize putsS c.1 = u at *
      have e1 : t ≤ n → wrp .i64 (wrp .i64 ((n : Int) - (t : Int)) + (u : Int)) = ((n - t + u : Nat) : Int) := fun g => by rw [wrpE, wrpE, wi64, wi64]; omega
      have e2 : t ≤ n → wrp .i64 ((n : Int) + wrp .i64 ((u : Int) - (t : Int))) = ((n - t + u : Nat) : Int) := fun g => by rw [wrpE, wrpE, wi64, wi64]; omega
      refine forkD (fun g => ?_) (fun g => ?_)
      · have g' : n < t := by have : (n : Int) < (t : Int) := g; omega
        rw [d1 (.inl g')]
        refine end0 rfl rfl rfl rfl
      · have g' : ¬ n < t := by have : ¬ (n : Int) < (t : Int) := g; omega
        refine forkD (fun g2 => ?_) (fun g2 => ?_)
        · have g2' : 8 < n - t + u := by
            have : (8 : Int) < wrp .i64 (wrp .i64 ((n : Int) - (t : Int)) + (u : Int)) := g2
            rw [e1 (by omega)] at this
            omega
          rw [d1 (.inr g2')]
          refine end0 rfl rfl rfl rfl
        · have g2' : ¬ 8 < n - t + u := by
            have : ¬ (8 : Int) < wrp .i64 (wrp .i64 ((n : Int) - (t : Int)) + (u : Int)) := g2
            rw [e1 (by omega)] at this
            omega
          refine hK ⟨k + 1, n - t + u, by omega, by omega, d2 (by omega)⟩ [] _ (show p.length - k = p.length - (k + 1) + 1 by omega) ⟨⟨rfl, congrArg i64 (e2 (by omega)), rfl, rfl, congrArg i64 hinc, True.intro⟩, True.intro, rfl, rfl, rfl⟩
  · have h' : k = p.length := by have : ¬ (k : Int) < (p.length : Int) := h; omega
    subst h'
    rw [dep_end hr]
    refine end0 rfl rfl rfl rfl
theorem cd_op {p : List (Int × Nat)} {k : Nat} {c : Int × Nat} (hc : p[k]? = some c) : nth (List.drop 0 (List.drop ((k : Int).toNat * 2) (flat cd p))) 0 = some (i64 c.1) := by
  rw [Int.toNat_natCast, flat_drop cd_len p k c hc]
  rfl
theorem cd_bits {p : List (Int × Nat)} {k : Nat} {c : Int × Nat} (hc : p[k]? = some c) : nth (List.drop 1 (List.drop ((k : Int).toNat * 2) (flat cd p))) 0 = some (u64 c.2) := by
  rw [Int.toNat_natCast, flat_drop cd_len p k c hc]
  rfl
theorem rDepth_ok (p : List (Int × Nat)) (hl : p.length < 4611686018427387904) : ACalls Try.prog 19 [.view p.length (flat cd p)] [] (Ret (.tup [i64 (depE p).1, bo (depE p).2])) := by
  refine acalls_of_awp hT mixed Try.func19 rfl (by kernel_rfl) (by kernel_rfl) (Nat.le_of_ble_eq_true rfl) ?_
  refine loopI (α := DepSt p) (fun z => [(0, .view p.length (flat cd p)), (4, i64 (z.n : Nat)), (5, i64 (z.k : Nat))]) (fun z => []) (fun z => p.length - z.k)
    ⟨0, 0, Nat.zero_le _, Nat.zero_le _, rfl⟩ [] ⟨⟨rfl, rfl, rfl, True.intro⟩, True.intro, rfl, rfl, rfl⟩ ?_
  rintro ⟨k, n, hk, h8, hr⟩ K hK
  have hinc : wrp .i64 ((k : Int) + 1) = ((k + 1 : Nat) : Int) := by rw [wrpE, wi64]; omega
  refine forkD (fun h => ?_) (fun h => ?_)
  · have h' : k < p.length := by have : (k : Int) < (p.length : Int) := h; omega
    obtain ⟨c, hc⟩ : ∃ c, p[k]? = some c := ⟨_, List.getElem?_eq_getElem h'⟩
    obtain ⟨d1, d2⟩ := dep_step hc hr
    have t3 := takesS_le c.1
    have p2 := putsS_le c.1
    have hN := needs_ok c.1
    refine Ob.intro (show (0 : Int) ≤ (k : Nat) ∧ ((k : Nat) : Int) < (p.length : Nat) by omega) ?_
    refine optK_intro (cd_op hc) ?_
    generalize takesS c.1 = t at *
    generalize putsS c.1 = u at *
    refine callP hN rfl rfl ?_
    have e1 : t ≤ n → wrp .i64 (wrp .i64 ((n : Int) - (t : Int)) + (u : Int)) = ((n - t + u : Nat) : Int) := fun g => by rw [wrpE, wrpE, wi64, wi64]; omega
    refine forkD (fun g => ?_) (fun g => ?_)
    · have g' : n < t := by have : (n : Int) < (t : Int) := g; omega
      rw [d1 (.inl g')]
      refine end0 rfl rfl rfl rfl
    · have g' : ¬ n < t := by have : ¬ (n : Int) < (t : Int) := g; omega
      refine forkD (fun g2 => ?_) (fun g2 => ?_)
      · have g2' : 8 < n - t + u := by
          have : (8 : Int) < wrp .i64 (wrp .i64 ((n : Int) - (t : Int)) + (u : Int)) := g2
          rw [e1 (by omega)] at this
          omega
        rw [d1 (.inr g2')]
        refine end0 rfl rfl rfl rfl
      · have g2' : ¬ 8 < n - t + u := by
          have : ¬ (8 : Int) < wrp .i64 (wrp .i64 ((n : Int) - (t : Int)) + (u : Int)) := g2
          rw [e1 (by omega)] at this
          omega
        refine hK ⟨k + 1, n - t + u, by omega, by omega, d2 (by omega)⟩ [] _ (show p.length - k = p.length - (k + 1) + 1 by omega) ⟨⟨rfl, congrArg i64 (e1 (by omega)), congrArg i64 hinc, True.intro⟩, True.intro, rfl, rfl, rfl⟩
  · have h' : k = p.length := by have : ¬ (k : Int) < (p.length : Int) := h; omega
    subst h'
    rw [dep_end hr]
    refine end0 rfl rfl rfl rfl
theorem depthN_ok (p : List (Int × Nat)) (hl : p.length < 4611686018427387904) (hp : rightP p = false) : ACalls Try.prog 18 [.view p.length (flat cd p)] [] (Ret (.tup [i64 0, bo false])) := by
  have hR := rightP_ok p hl
  rw [hp] at hR
  refine acalls_of_awp hT mixed Try.func18 rfl (by kernel_rfl) (by kernel_rfl) (Nat.le_of_ble_eq_true rfl) ?_
  refine callP hR rfl rfl ?_
  refine end0 rfl rfl rfl rfl
/-- Is it a step, by the document? -/
def rRightC (c : Int × Nat) : Bool := decide (1 ≤ c.1) && decide (c.1 ≤ 16) && (c.1 == 2 || (c.2 : Int) == 0) && (bitsB c.2 : Int) == c.2
theorem rRight_eq (c : Int × Nat) : rRightC c = rightC c := by
  obtain ⟨op, b⟩ := c
  unfold rRightC rightC
  dsimp only
  by_cases h : op = 2
  · subst h
    rfl
  · rw [if_neg h]
    have : (op == 2) = false := beq_eq_false_iff_ne.2 h
    rw [this, Bool.false_or]
    by_cases hz : b = 0
    · subst hz
      have : bitsB 0 = 0 := by decide
      rw [this]
      simp
    · have : ((b : Int) == 0) = false := by rw [beq_eq_false_iff_ne]; omega
      rw [this]
      simp
theorem rRight_ok (p : List (Int × Nat)) (hb : ∀ c ∈ p, c.2 < 18446744073709551616) (hl : p.length < 4611686018427387904) : ACalls Try.prog 16 [.view p.length (flat cd p)] [] (Ret (bo (rightP p))) := by
  refine acalls_of_awp hT mixed Try.func16 rfl (by kernel_rfl) (by kernel_rfl) (Nat.le_of_ble_eq_true rfl) ?_
  have hno : ¬ (1 ≤ p.length ∧ p.length ≤ 32) → rightP p = false := fun h => by
    unfold rightP
    have : (decide (1 ≤ p.length) && decide (p.length ≤ 32)) = false := by rw [← Bool.decide_and]; exact decide_eq_false h
    rw [this, Bool.and_false]
  refine forkD (fun g => ?_) (fun g => ?_)
  · have g' : p.length < 1 := by have : (p.length : Int) < 1 := g; omega
    rw [hno (by omega)]
    refine end0 rfl rfl rfl rfl
  have g' : ¬ p.length < 1 := by have : ¬ (p.length : Int) < 1 := g; omega
  refine forkD (fun h => ?_) (fun h => ?_)
  · have h' : 32 < p.length := by have : (32 : Int) < (p.length : Int) := h; omega
    rw [hno (by omega)]
    refine end0 rfl rfl rfl rfl
  have h' : ¬ 32 < p.length := by have : ¬ (32 : Int) < (p.length : Int) := h; omega
  refine loopI (α := { k : Nat // k ≤ p.length ∧ ∀ c ∈ p.take k, rightC c = true }) (fun z => [(0, .view p.length (flat cd p)), (3, i64 (z.val : Nat))]) (fun z => []) (fun z => p.length - z.val)
    ⟨0, Nat.zero_le _, fun c hc => by cases hc⟩ [] ⟨⟨rfl, rfl, True.intro⟩, True.intro, rfl, rfl, rfl⟩ ?_
  rintro ⟨k, hk, hall⟩ K hK
  have hinc : wrp .i64 ((k : Int) + 1) = ((k + 1 : Nat) : Int) := by rw [wrpE, wi64]; omega
  refine forkD (fun h => ?_) (fun h => ?_)
  · have h' : k < p.length := by have : (k : Int) < (p.length : Int) := h; omega
    obtain ⟨c, hc⟩ : ∃ c, p[k]? = some c := ⟨_, List.getElem?_eq_getElem h'⟩
    have hi := (show (0 : Int) ≤ (k : Nat) ∧ ((k : Nat) : Int) < (p.length : Nat) by omega)
    have hx := cd_op hc
    have hy := cd_bits hc
    have hf := float64frombits_ok (c.2 : Nat)
    have hB := rBits_ok c.2 (hb c (List.mem_of_getElem? hc))
    have good : rightC c = true → (∀ d ∈ p.take (k + 1), rightC d = true) := fun hq d hd => by
      rw [take_snocA hc] at hd
      rcases List.mem_append.1 hd with hd | hd
      · exact hall d hd
      · rw [List.mem_singleton.1 hd, hq]
    have bad : rRightC c = false → rightP p = false := fun hq => by
      unfold rightP
      rw [show p.all rightC = false from List.all_eq_false.2 ⟨c, List.mem_of_getElem? hc, by rw [← rRight_eq, hq]; decide⟩]
      rfl
    rw [← rRight_eq] at good
    unfold rRightC at good bad
    obtain ⟨op, b⟩ := c
    dsimp only at *
    generalize bitsB b = z at *
    refine ⟨[0, 0, 0, 0, 0, 0, 0, 0, 0, 0, 0, 0, 0, 0, 0, 0, 0, 0, 0, 0, 0, 0, 0, 0, 0, 0, 0, 0, 0, 0, 0, 0, 0, 0, 0, 0, 1, 2, 0, 0, 0, 0, 0, 2, 2], [[], [], [0, 1], [0, 1, 2], [0, 1, 2, 3], [0, 1, 2, 3, 4], [0, 1, 2, 3, 4, 5], [0, 1, 2, 3, 4, 5, 6], [0, 1, 2, 3, 4, 5, 6], [0, 1, 2, 3, 4, 5, 6, 7, 8], [0, 1, 2, 3, 4, 5, 6, 7, 8, 9], [0, 1, 2, 3, 4, 5, 6, 7, 8, 9, 10], [0, 1, 2, 3, 4, 5, 6, 7, 8, 9, 10, 11], [0, 1, 2, 3, 4, 5, 6, 7, 8, 9, 10, 11, 12], [0, 1, 2, 3, 4, 5, 6, 7, 8, 9, 10, 11, 12, 13], [0, 1, 2, 3, 4, 5, 6, 7, 8, 9, 10, 11, 12, 13, 14], [0, 1, 2, 3, 4, 5, 6, 7, 8, 9, 10, 11, 12, 13, 14], [0, 1, 2, 3, 4, 5, 6, 7, 8, 9, 10, 11, 12, 13, 14, 15, 16], [0, 1, 2, 3, 4, 5, 6, 7, 8, 9, 10, 11, 12, 13, 14, 15, 16, 17], [0, 1, 2, 3, 4, 5, 6, 7, 8, 9, 10, 11, 12, 13, 14, 15, 16, 17, 18], [0, 1, 2, 3, 4, 5, 6, 7, 8, 9, 10, 11, 12, 13, 14, 15, 16, 17, 18, 19], [0, 1, 2, 3, 4, 5, 6, 7, 8, 9, 10, 11, 12, 13, 14, 15, 16, 17, 18, 19, 20], [0, 1, 2, 3, 4, 5, 6, 7, 8, 9, 10, 11, 12, 13, 14, 15, 16, 17, 18, 19, 20, 21], [0, 1, 2, 3, 4, 5, 6, 7, 8, 9, 10, 11, 12, 13, 14, 15, 16, 17, 18, 19, 20, 21], [0, 1, 2, 3, 4, 5, 6, 7, 8, 9, 10, 11, 12, 13, 14, 15, 16, 17, 18, 19, 20, 21, 22, 23], [0, 1, 2, 3, 4, 5, 6, 7, 8, 9, 10, 11, 12, 13, 14, 15, 16, 17, 18, 19, 20, 21, 22, 23, 24], [0, 1, 2, 3, 4, 5, 6, 7, 8, 9, 10, 11, 12, 13, 14, 15, 16, 17, 18, 19, 20, 21, 22, 23, 24, 25], [0, 1, 2, 3, 4, 5, 6, 7, 8, 9, 10, 11, 12, 13, 14, 15, 16, 17, 18, 19, 20, 21, 22, 23, 24, 25, 26], [0, 1, 2, 3, 4, 5, 6, 7, 8, 9, 10, 11, 12, 13, 14, 15, 16, 17, 18, 19, 20, 21, 22, 23, 24, 25, 26, 27], [0, 1, 2, 3, 4, 5, 6, 7, 8, 9, 10, 11, 12, 13, 14, 15, 16, 17, 18, 19, 20, 21, 22, 23, 24, 25, 26, 27, 28], [0, 1, 2, 3, 4, 5, 6, 7, 8, 9, 10, 11, 12, 13, 14, 15, 16, 17, 18, 19, 20, 21, 22, 23, 24, 25, 26, 27, 28, 29], [0, 1, 2, 3, 4, 5, 6, 7, 8, 9, 10, 11, 12, 13, 14, 15, 16, 17, 18, 19, 20, 21, 22, 23, 24, 25, 26, 27, 28, 29, 30], [0, 1, 2, 3, 4, 5, 6, 7, 8, 9, 10, 11, 12, 13, 14, 15, 16, 17, 18, 19, 20, 21, 22, 23, 24, 25, 26, 27, 28, 29, 30], [0, 1, 2, 3, 4, 5, 6, 7, 8, 9, 10, 11, 12, 13, 14, 15, 16, 17, 18, 19, 20, 21, 22, 23, 24, 25, 26, 27, 28, 29, 30, 31, 32], [0, 1, 2, 3, 4, 5, 6, 7, 8, 9, 10, 11, 12, 13, 14, 15, 16, 17, 18, 19, 20, 21, 22, 23, 24, 25, 26, 27, 28, 29, 30, 31, 32, 33], [0, 1, 2, 3, 4, 5, 6, 7, 8, 9, 10, 11, 12, 13, 14, 15, 16, 17, 18, 19, 20, 21, 22, 23, 24, 25, 26, 27, 28, 29, 30, 31, 32, 33, 34], [0, 1, 2, 3, 4, 5, 6, 7, 8, 9, 10, 11, 12, 13, 14, 15, 16, 17, 18, 19, 20, 21, 22, 23, 24, 25, 26, 27, 28, 29, 30, 31, 32, 33, 34, 35], [0, 1, 2, 3, 4, 5, 6, 7, 8, 9, 10, 11, 12, 13, 14, 15, 16, 17, 18, 19, 20, 21, 22, 23, 24, 25, 26, 27, 28, 29, 30, 31, 32, 33, 34, 35, 36], [0, 1, 2, 3, 4, 5, 6, 7, 8, 9, 10, 11, 12, 13, 14, 15, 16, 17, 18, 19, 20, 21, 22, 23, 24, 25, 26, 27, 28, 29, 30], [0, 1, 2, 3, 4, 5, 6, 7, 8, 9, 10, 11, 12, 13, 14, 15, 16, 17, 18, 19, 20, 21, 22, 23, 24, 25, 26, 27, 28, 29, 30], [0, 1, 2, 3, 4, 5, 6, 7, 8, 9, 10, 11, 12, 13, 14, 15, 16, 17, 18, 19, 20, 21, 22, 23, 24, 25, 26, 27, 28, 29, 30, 38, 39], [0, 1, 2, 3, 4, 5, 6, 7, 8, 9, 10, 11, 12, 13, 14, 15, 16, 17, 18, 19, 20, 21, 22, 23, 24, 25, 26, 27, 28, 29, 30, 38, 39, 40], [0, 1, 2, 3, 4, 5, 6, 7, 8, 9, 10, 11, 12, 13, 14, 15, 16, 17, 18, 19, 20, 21, 22, 23, 24, 25, 26, 27, 28, 29, 30, 38, 39, 40, 41], [0, 1, 2, 3, 4, 5, 6, 7, 8, 9, 10, 11, 12, 13, 14, 15, 16, 17, 18, 19, 20, 21, 22, 23, 24, 25, 26, 27, 28, 29, 30, 31, 32, 33, 34, 35, 36, 37, 38, 39, 40, 41, 42], [0, 1, 2, 3, 4, 5, 6, 7, 8, 9, 10, 11, 12, 13, 14, 15, 16, 17, 18, 19, 20, 21, 22, 23, 24, 25, 26, 27, 28, 29, 30, 31, 32, 33, 34, 35, 36, 37, 38, 39, 40, 41, 42, 43]], [0, 0, 0, 0, 0, 0, 0, 0, 0, 0, 0, 0, 0, 0, 0, 0, 0, 0, 0, 0, 0, 0, 0, 0, 0, 0, 0, 0, 0, 0, 0, 0, 0, 0, 0, 0, 0, 0, 0, 0, 0, 0, 0, 0, 0], [36, 37], [[0], [3], [18, 19], [20], [21], [22], [23], [0, 24], [3, 24], [25, 26, 24], [27, 24], [28, 24], [29, 24], [24, 30], [31], [0, 32], [3, 32], [33, 34, 32], [35, 32], [36, 32], [37, 32], [38, 32], [0, 39], [3, 39], [40, 41, 39], [42, 39], [43, 39], [44, 39], [39, 45, 32], [32, 46], [47], [0, 48], [3, 48], [49, 50, 48], [51, 48], [52, 48], [53, 48], [54, 48], [0, 48], [3, 48], [56, 57, 48], [58, 48], [59, 48], [55, 60, 48], [48, 61]], Ob.intro (by kernel_rfl) ?_⟩
    repeat first | refine same ?_ | refine Ob.intro hi ?_ | refine optK_intro hx ?_ | refine optK_intro hy ?_
    refine forkD (fun q1 => ?_) (fun q1 => ?_)
    · repeat first | refine same ?_ | refine Ob.intro hi ?_ | refine optK_intro hx ?_ | refine optK_intro hy ?_
      rw [bad (by rw [decide_eq_false (show ¬ 1 ≤ op by have : op < 1 := q1; omega)]; rfl)]
      refine end0 rfl rfl rfl rfl
    have e1 : decide (1 ≤ op) = true := decide_eq_true (by have : ¬ op < 1 := q1; omega)
    rw [e1] at good bad
    repeat first | refine same ?_ | refine Ob.intro hi ?_ | refine optK_intro hx ?_ | refine optK_intro hy ?_
    refine forkD (fun q2 => ?_) (fun q2 => ?_)
    · repeat first | refine same ?_ | refine Ob.intro hi ?_ | refine optK_intro hx ?_ | refine optK_intro hy ?_
      rw [bad (by rw [decide_eq_false (show ¬ op ≤ 16 by have : 16 < op := q2; omega)]; rfl)]
      refine end0 rfl rfl rfl rfl
    have e2 : decide (op ≤ 16) = true := decide_eq_true (by have : ¬ 16 < op := q2; omega)
    rw [e2] at good bad
    repeat first | refine same ?_ | refine Ob.intro hi ?_ | refine optK_intro hx ?_ | refine optK_intro hy ?_
    refine fork (fun q3 => ?_) (fun q3 => ?_)
    · have e3 : (op == 2) = false := by
        have : (!(op == 2)) = true := q3
        cases hq : op == 2 <;> first | rfl | (rw [hq] at this; cases this)
      rw [e3] at good bad
      repeat first | refine same ?_ | refine Ob.intro hi ?_ | refine optK_intro hx ?_ | refine optK_intro hy ?_
      refine fork (fun q4 => ?_) (fun q4 => ?_)
      · have e4 : ((b : Int) == 0) = false := by
          have : (!((b : Int) == 0)) = true := q4
          cases hq : (b : Int) == 0 <;> first | rfl | (rw [hq] at this; cases this)
        rw [e4] at bad
        repeat first | refine same ?_ | refine Ob.intro hi ?_ | refine optK_intro hx ?_ | refine optK_intro hy ?_
        rw [bad rfl]
        refine end0 rfl rfl rfl rfl
      · have e4 : ((b : Int) == 0) = true := by
          have : (!((b : Int) == 0)) = false := q4
          cases hq : (b : Int) == 0 <;> first | rfl | (rw [hq] at this; cases this)
        rw [e4] at good bad
        repeat first | refine same ?_ | refine Ob.intro hi ?_ | refine optK_intro hx ?_ | refine optK_intro hy ?_
        refine callP hf rfl rfl ?_
        repeat first | refine same ?_ | refine Ob.intro hi ?_ | refine optK_intro hx ?_ | refine optK_intro hy ?_
        refine callP hB rfl rfl ?_
        repeat first | refine same ?_ | refine Ob.intro hi ?_ | refine optK_intro hx ?_ | refine optK_intro hy ?_
        refine fork (fun q5 => ?_) (fun q5 => ?_)
        · have e5 : ((z : Int) == (b : Int)) = false := by
            have : (!((z : Int) == (b : Int))) = true := q5
            cases hq : (z : Int) == (b : Int) <;> first | rfl | (rw [hq] at this; cases this)
          rw [e5] at bad
          repeat first | refine same ?_ | refine Ob.intro hi ?_ | refine optK_intro hx ?_ | refine optK_intro hy ?_
          rw [bad rfl]
          refine end0 rfl rfl rfl rfl
        · have e5 : ((z : Int) == (b : Int)) = true := by
            have : (!((z : Int) == (b : Int))) = false := q5
            cases hq : (z : Int) == (b : Int) <;> first | rfl | (rw [hq] at this; cases this)
          rw [e5] at good
          repeat first | refine same ?_ | refine Ob.intro hi ?_ | refine optK_intro hx ?_ | refine optK_intro hy ?_
          refine hK ⟨k + 1, h', good rfl⟩ [] _ (show p.length - k = p.length - (k + 1) + 1 by omega) ⟨⟨rfl, congrArg i64 hinc, True.intro⟩, True.intro, rfl, rfl, rfl⟩
    · have e3 : (op == 2) = true := by
        have : (!(op == 2)) = false := q3
        cases hq : op == 2 <;> first | rfl | (rw [hq] at this; cases this)
      rw [e3] at good bad
      repeat first | refine same ?_ | refine Ob.intro hi ?_ | refine optK_intro hx ?_ | refine optK_intro hy ?_
      refine callP hf rfl rfl ?_
      repeat first | refine same ?_ | refine Ob.intro hi ?_ | refine optK_intro hx ?_ | refine optK_intro hy ?_
      refine callP hB rfl rfl ?_
      repeat first | refine same ?_ | refine Ob.intro hi ?_ | refine optK_intro hx ?_ | refine optK_intro hy ?_
      refine fork (fun q5 => ?_) (fun q5 => ?_)
      · have e5 : ((z : Int) == (b : Int)) = false := by
          have : (!((z : Int) == (b : Int))) = true := q5
          cases hq : (z : Int) == (b : Int) <;> first | rfl | (rw [hq] at this; cases this)
        rw [e5] at bad
        repeat first | refine same ?_ | refine Ob.intro hi ?_ | refine optK_intro hx ?_ | refine optK_intro hy ?_
        rw [bad rfl]
        refine end0 rfl rfl rfl rfl
      · have e5 : ((z : Int) == (b : Int)) = true := by
          have : (!((z : Int) == (b : Int))) = false := q5
          cases hq : (z : Int) == (b : Int) <;> first | rfl | (rw [hq] at this; cases this)
        rw [e5] at good
        repeat first | refine same ?_ | refine Ob.intro hi ?_ | refine optK_intro hx ?_ | refine optK_intro hy ?_
        refine hK ⟨k + 1, h', good rfl⟩ [] _ (show p.length - k = p.length - (k + 1) + 1 by omega) ⟨⟨rfl, congrArg i64 hinc, True.intro⟩, True.intro, rfl, rfl, rfl⟩
  · have h2 : k = p.length := by have : ¬ (k : Int) < (p.length : Int) := h; omega
    rw [h2, List.take_length] at hall
    have : rightP p = true := by
      unfold rightP
      rw [List.all_eq_true.2 hall, decide_eq_true (show 1 ≤ p.length by omega), decide_eq_true (show p.length ≤ 32 by omega)]
      rfl
    rw [this]
    refine end0 rfl rfl rfl rfl
end Go.Proofs.Ytdjpcmlnhkiokaa.A
