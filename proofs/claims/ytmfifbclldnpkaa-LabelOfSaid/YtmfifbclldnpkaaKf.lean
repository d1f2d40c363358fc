/- sorting many: what is nearly sorted. No condition. -/
import Derived.Test.YtmfifbclldnpkaaKe
namespace Go.Proofs.Ytmfifbclldnpkaa.A
open Go
set_option linter.unusedVariables false
set_option linter.unusedSimpArgs false
set_option maxRecDepth 100000
set_option pp.maxSteps 600

structure Ps (R0 : List Nat) (a b : Nat) where
  i : Nat
  R : List Nat
  h1 : a < i
  h2 : i ≤ b
  so : SO a b R0 R
  si : SI a i R
structure PsE (R0 : List Nat) (a b : Nat) extends Ps R0 a b where
  e : i < b → atN R i < atN R (i - 1)
structure Lsh (R0 : List Nat) (a b i : Nat) where
  x : Nat
  R : List Nat
  h1 : a ≤ x
  h2 : x < i
  so : SO a b R0 R
  si : ∀ p q, a ≤ p → p < q → q < i → q ≠ x → atN R p ≤ atN R q
structure Rsh (R0 : List Nat) (a b i : Nat) where
  x : Nat
  R : List Nat
  h1 : i < x
  h2 : x ≤ b
  so : SO a b R0 R
  si : SI a i R
theorem SI.snoc {a i : Nat} {R : List Nat} (h : SI a i R) (hi : a < i) (e : atN R (i - 1) ≤ atN R i) : SI a (i + 1) R := by
  intro p q h1 h2 h3
  by_cases eq : q = i
  · subst eq
    by_cases ep : p = q - 1
    · rw [ep]; exact e
    · exact Nat.le_trans (h p (q - 1) h1 (by omega) (by omega)) e
  · exact h p q h1 h2 (by omega)
theorem pins_ok (R0 : List Nat) (a b : Nat) (hab : a < b) (hb : b ≤ R0.length) (hn : R0.length < 1073741824) (hlow : Low a b R0) :
    ACalls Try.prog 54 [.slc 0 0 R0.length 1, i64 (a : Nat), i64 (b : Nat)] [.row (R0.map u64n)] (fun E G => ∃ (R : List Nat) (q : Bool), SO a b R0 R ∧ (q = true → SI a b R) ∧ E = .ret (bo q) ∧ G = [.row (R.map u64n)]) := by
  have ea : wrp .i64 ((a : Int) + 1) = ((a + 1 : Nat) : Int) := by rw [wid (by omega)]; omega
  have key : ∀ {R : List Nat}, SO a b R0 R → Low a b R := fun so => hlow.so so (by omega) hb
  refine acalls_of_awpC [7, 18, 4] hT mixed Try.func54 rfl (by kernel_rfl) (by kernel_rfl) (Nat.le_of_ble_eq_true rfl) ?_
  refine loopI (α := { z : Nat × Ps R0 a b // z.1 ≤ 5 }) (fun z => [(0, .slc 0 0 R0.length 1), (1, i64 (a : Nat)), (2, i64 (b : Nat)), (7, i64 (z.val.2.i : Nat)), (8, i64 (z.val.1 : Nat))]) (fun z => [.row (z.val.2.R.map u64n)]) (fun z => 5 - z.val.1) ⟨(0, ⟨a + 1, R0, by omega, by omega, SO.refl .., fun p q h1 h2 h3 => by omega⟩), Nat.zero_le 5⟩ [0] ⟨⟨rfl, rfl, rfl, congrArg i64 ea, rfl, True.intro⟩, ⟨.inl (by rw [renO_us]; rfl), True.intro⟩, rfl, rfl, rfl⟩ ?_
  rintro ⟨⟨j, z0⟩, hj⟩ K hK
  dsimp only at hj ⊢
  refine forkD (fun g5 => ?_) (fun g5 => ?_)
  rotate_left
  · exact ⟨rfl, [.row (z0.R.map u64n)], bo false, ⟨⟨_, rfl, rfl⟩, ⟨.inl rfl, True.intro⟩, Nat.le_refl _, belowH_us _⟩, z0.R, false, z0.so, (fun h => by cases h), rfl, rfl⟩
  have hj5 : j < 5 := by have : (j : Int) < 5 := g5; omega
  refine cutI (α := Ps R0 a b) (fun z => [(0, .slc 0 0 R0.length 1), (1, i64 (a : Nat)), (2, i64 (b : Nat)), (7, i64 (z.i : Nat)), (8, i64 (j : Nat))]) (fun z => [.row (z.R.map u64n)]) [] (fun K4 hK4 => ?_) (fun z => ?_)
  rotate_left
  · have ej : wrp .i64 ((j : Int) + 1) = ((j + 1 : Nat) : Int) := by rw [wid (by omega)]; omega
    exact hK ⟨(j + 1, z), by show j + 1 ≤ 5; omega⟩ [0] _ (by show 5 - j = 5 - (j + 1) + 1; omega) ⟨⟨rfl, rfl, rfl, rfl, congrArg i64 ej, True.intro⟩, ⟨.inl (by rw [renO_us]; rfl), True.intro⟩, rfl, rfl, rfl⟩
  clear hK
  refine cutI (α := PsE R0 a b) (fun z => [(0, .slc 0 0 R0.length 1), (1, i64 (a : Nat)), (2, i64 (b : Nat)), (7, i64 (z.i : Nat)), (8, i64 (j : Nat))]) (fun z => [.row (z.R.map u64n)]) [] (fun K7 hK7 => ?_) (fun z => ?_)
  · clear hK4
    refine loopI (α := Ps R0 a b) (fun z => [(0, .slc 0 0 R0.length 1), (1, i64 (a : Nat)), (2, i64 (b : Nat)), (7, i64 (z.i : Nat)), (8, i64 (j : Nat))]) (fun z => [.row (z.R.map u64n)]) (fun z => b - z.i) z0 [0] ⟨⟨rfl, rfl, rfl, rfl, rfl, True.intro⟩, ⟨.inl (by rw [renO_us]; rfl), True.intro⟩, rfl, rfl, rfl⟩ ?_
    rintro ⟨i, R, h1, h2, so, si⟩ K hK
    dsimp only at h1 h2 so si ⊢
    have hlen := so.len
    refine ⟨[0, 0, 0, 0, 0, 0, 0, 0, 0, 0, 0, 0, 0, 1, 1, 1], [[], [], [0, 1], [0, 1, 2], [0, 1, 2, 3], [0, 1, 2, 3], [0, 1, 2, 3, 4, 5], [0, 1, 2, 3, 4, 5, 6], [0, 1, 2, 3], [0, 1, 2, 3], [0, 1, 2, 3, 9], [0, 1, 2, 3, 8, 9, 10], [0, 1, 2, 3, 8, 9, 10, 11], [0, 1, 2, 3, 4, 5, 6, 7, 8, 9, 10, 11, 12], [0, 1, 2, 3, 4, 5, 6, 7, 8, 9, 10, 11, 12, 13], [0, 1, 2, 3, 4, 5, 6, 7, 8, 9, 10, 11, 12, 13, 14]], [0, 0, 0, 0, 0, 0, 0, 0, 0, 0, 0, 0, 0, 0, 0, 0], [13], [[7], [2], [17, 18], [19], [0, 20], [7, 20], [21, 22, 20], [23, 20], [0, 20], [7, 20], [26, 20], [25, 27, 20], [28, 20], [24, 29, 20], [30, 20], [20, 31]], Ob.intro (by kernel_rfl) ?_⟩
    refine forkD (fun g => ?_) (fun g => ?_)
    · have g' : i < b := by have : (i : Int) < (b : Int) := g; omega
      have em : wrp .i64 ((i : Int) - 1) = ((i - 1 : Nat) : Int) := by rw [wid (by omega)]; omega
      have ei : wrp .i64 ((i : Int) + 1) = ((i + 1 : Nat) : Int) := by rw [wid (by omega)]; omega
      have hiR : i < R.length := by omega
      have hmR : i - 1 < R.length := by omega
      have bi : (0 : Int) ≤ (i : Nat) ∧ ((i : Nat) : Int) < (R0.length : Nat) := by omega
      have bm : (0 : Int) ≤ wrp .i64 ((i : Int) - 1) ∧ wrp .i64 ((i : Int) - 1) < (R0.length : Nat) := by rw [em]; omega
      repeat first | refine same ?_ | refine Ob.intro bi ?_ | refine Ob.intro bm ?_ | refine optK_intro (rd_us rfl (ofs i) (atN_some hiR)) ?_ | refine optK_intro (rd_us rfl (ofsW em) (atN_some hmR)) ?_
      refine callP (lessU_ok _ _) rfl rfl ?_
      refine forkD (fun w => ?_) (fun w => ?_)
      · have w' : atN R i < atN R (i - 1) := by have : ((atN R i : Nat) : Int) < ((atN R (i - 1) : Nat) : Int) := w; omega
        repeat refine same ?_
        exact hK7 ⟨⟨i, R, h1, h2, so, si⟩, fun _ => w'⟩ [] [0] _ ⟨⟨rfl, rfl, rfl, rfl, rfl, True.intro⟩, ⟨.inl (by rw [renO_us]; rfl), True.intro⟩, rfl, rfl, rfl⟩
      · have w' : atN R (i - 1) ≤ atN R i := by have : ¬ ((atN R i : Nat) : Int) < ((atN R (i - 1) : Nat) : Int) := w; omega
        repeat refine same ?_
        exact hK ⟨i + 1, R, by omega, by omega, so, si.snoc h1 w'⟩ [0] _ (show b - i = b - (i + 1) + 1 by omega) ⟨⟨rfl, rfl, rfl, congrArg i64 ei, rfl, True.intro⟩, ⟨.inl (by rw [renO_us]; rfl), True.intro⟩, rfl, rfl, rfl⟩
    · repeat refine same ?_
      exact hK7 ⟨⟨i, R, h1, h2, so, si⟩, fun h => absurd (Int.ofNat_lt.2 h) g⟩ [] [0] _ ⟨⟨rfl, rfl, rfl, rfl, rfl, True.intro⟩, ⟨.inl (by rw [renO_us]; rfl), True.intro⟩, rfl, rfl, rfl⟩
  clear z0
  obtain ⟨⟨i, R, h1, h2, so, si⟩, e⟩ := z
  dsimp only at h1 h2 so si e ⊢
  have hlen := so.len
  refine fork (fun g => ?_) (fun g => ?_)
  · have g' : i = b := by have : (i : Int) = (b : Int) := beq_iff_eq.1 g; omega
    exact ⟨rfl, [.row (R.map u64n)], bo true, ⟨⟨_, rfl, rfl⟩, ⟨.inl rfl, True.intro⟩, Nat.le_refl _, belowH_us _⟩, R, true, so, (fun _ => by rw [← g']; exact si), rfl, rfl⟩
  have g' : i < b := by have : (i : Int) ≠ (b : Int) := beq_eq_false_iff_ne.1 g; omega
  refine forkD (fun _ => ?_) (fun _ => ?_)
  · exact ⟨rfl, [.row (R.map u64n)], bo false, ⟨⟨_, rfl, rfl⟩, ⟨.inl rfl, True.intro⟩, Nat.le_refl _, belowH_us _⟩, R, false, so, (fun h => by cases h), rfl, rfl⟩
  have e := e g'
  have em : wrp .i64 ((i : Int) - 1) = ((i - 1 : Nat) : Int) := by rw [wid (by omega)]; omega
  have hiR : i < R.length := by omega
  have hmR : i - 1 < R.length := by omega
  have bi : (0 : Int) ≤ (i : Nat) ∧ ((i : Nat) : Int) < (R0.length : Nat) := by omega
  have bm : (0 : Int) ≤ wrp .i64 ((i : Int) - 1) ∧ wrp .i64 ((i : Int) - 1) < (R0.length : Nat) := by rw [em]; omega
  refine ⟨[0, 0, 0, 0, 0, 0, 0, 0, 0, 0, 0, 0, 0, 0, 0, 1, 1, 2], [[], [], [], [], [3], [], [], [6], [5, 6, 7], [5, 6, 7, 8], [], [], [10, 11], [10, 11, 12], [0, 1, 5, 6, 7, 8, 9, 10, 11, 12, 13], [0, 1, 5, 6, 7, 8, 9, 10, 11, 12, 13, 14], [0, 1, 2, 3, 4, 5, 6, 7, 8, 9, 10, 11, 12, 13, 14, 15], [0, 1, 2, 3, 4, 5, 6, 7, 8, 9, 10, 11, 12, 13, 14, 15, 16]], [0, 0, 0, 0, 0, 0, 0, 0, 0, 0, 0, 0, 0, 0, 0, 0, 0, 0], [15, 17], [[0], [7], [0], [7], [45], [0], [7], [48], [47, 49], [50], [0], [7], [52, 53], [54], [42, 43], [56, 51], [44, 46], [57, 55]], Ob.intro (by kernel_rfl) ?_⟩
  repeat first | refine same ?_ | refine Ob.intro bi ?_ | refine Ob.intro bm ?_ | refine optK_intro (rd_us rfl (ofsW rfl) (atN_some hiR)) ?_ | refine optK_intro (rd_us rfl (ofsW em) (atN_some hmR)) ?_
  refine wr_us (k := i) (x := _) rfl rfl (ofsW rfl) hiR ?_
  repeat first | refine same ?_ | refine Ob.intro bi ?_ | refine Ob.intro bm ?_
  refine wr_us (k := i - 1) (x := _) rfl rfl (ofsW em) (by rw [List.length_set]; exact hmR) ?_
  repeat first | refine same ?_ | refine Ob.intro bi ?_ | refine Ob.intro bm ?_
  have so1 : SO a b R0 (swp R i (i - 1)) := so.trans (SO.swp hiR hmR (by omega) (by omega))
  have si1 : ∀ p q, a ≤ p → p < q → q < i → q ≠ i - 1 → atN (swp R i (i - 1)) p ≤ atN (swp R i (i - 1)) q := fun p q p1 p2 p3 p4 => by
    rw [swp_at hiR hmR, swp_at hiR hmR, if_neg (by omega), if_neg (by omega), if_neg p4, if_neg (by omega)]
    exact si p q p1 p2 p3
  obtain ⟨R1, hR1⟩ : ∃ R1, R1 = swp R i (i - 1) := ⟨_, rfl⟩
  rw [← hR1] at so1 si1
  clear e bi bm hiR hmR si so
  refine cutI (α := Ps R0 a b) (fun z => [(0, .slc 0 0 R0.length 1), (1, i64 (a : Nat)), (2, i64 (b : Nat)), (7, i64 (z.i : Nat)), (8, i64 (j : Nat))]) (fun z => [.row (z.R.map u64n)]) [] (fun K18 hK18 => ?_) (fun z => ?_)
  · clear hK4
    have eia : wrp .i64 ((i : Int) - (a : Int)) = ((i - a : Nat) : Int) := by rw [wid (by omega)]; omega
    refine forkD (fun g2 => ?_) (fun g2 => ?_)
    rotate_left
    · have g2' : i = a + 1 := by
        have : ¬ wrp .i64 ((i : Int) - (a : Int)) ≥ 2 := g2
        rw [eia] at this
        omega
      exact hK18 ⟨i, R1, h1, h2, so1, fun p q p1 p2 p3 => by omega⟩ [] [0] _ ⟨⟨rfl, rfl, rfl, rfl, rfl, True.intro⟩, ⟨.inl (by subst hR1; rw [renO_us]; rfl), True.intro⟩, rfl, rfl, rfl⟩
    refine loopI (α := Lsh R0 a b i) (fun z => [(0, .slc 0 0 R0.length 1), (1, i64 (a : Nat)), (2, i64 (b : Nat)), (7, i64 (i : Nat)), (8, i64 (j : Nat)), (9, i64 (z.x : Nat))]) (fun z => [.row (z.R.map u64n)]) (fun z => z.x) ⟨i - 1, R1, by omega, by omega, so1, si1⟩ [0] ⟨⟨rfl, rfl, rfl, rfl, rfl, congrArg i64 em, True.intro⟩, ⟨.inl (by subst hR1; rw [renO_us]; rfl), True.intro⟩, rfl, rfl, rfl⟩ ?_
    clear so1 si1 hlen hR1 R1 em
    rintro ⟨x, R1, x1, x2, so1, si1⟩ K hK
    dsimp only at x1 x2 so1 si1 ⊢
    have hlen := so1.len
    have hlw := key so1
    refine forkD (fun g3 => ?_) (fun g3 => ?_)
    rotate_left
    · have g3' : x = 0 := by have : ¬ (x : Int) ≥ 1 := g3; omega
      exact hK18 ⟨i, R1, h1, h2, so1, fun p q p1 p2 p3 => si1 p q p1 p2 p3 (by omega)⟩ [] [0] _ ⟨⟨rfl, rfl, rfl, rfl, rfl, True.intro⟩, ⟨.inl (by rw [renO_us]; rfl), True.intro⟩, rfl, rfl, rfl⟩
    have g3' : 1 ≤ x := by have : (x : Int) ≥ 1 := g3; omega
    have em : wrp .i64 ((x : Int) - 1) = ((x - 1 : Nat) : Int) := by rw [wid (by omega)]; omega
    have hiR : x < R1.length := by omega
    have hmR : x - 1 < R1.length := by omega
    have bi : (0 : Int) ≤ (x : Nat) ∧ ((x : Nat) : Int) < (R0.length : Nat) := by omega
    have bm : (0 : Int) ≤ wrp .i64 ((x : Int) - 1) ∧ wrp .i64 ((x : Int) - 1) < (R0.length : Nat) := by rw [em]; omega
    refine ⟨[0, 0, 0, 0, 0, 0, 0, 0, 0, 1, 1], [[], [], [0, 1], [0, 1, 2], [], [], [5], [4, 5, 6], [4, 5, 6, 7], [0, 1, 2, 3, 4, 5, 6, 7, 8], [0, 1, 2, 3, 4, 5, 6, 7, 8, 9]], [0, 0, 0, 0, 0, 0, 0, 0, 0, 0, 0], [9], [[0], [9], [68, 69], [70], [0], [9], [73], [72, 74], [75], [71, 76], [77]], Ob.intro (by kernel_rfl) ?_⟩
    repeat first | refine same ?_ | refine Ob.intro bi ?_ | refine Ob.intro bm ?_ | refine optK_intro (rd_us rfl (ofs x) (atN_some hiR)) ?_ | refine optK_intro (rd_us rfl (ofsW em) (atN_some hmR)) ?_
    refine callP (lessU_ok _ _) rfl rfl ?_
    refine forkD (fun w => ?_) (fun w => ?_)
    · have w' : atN R1 x < atN R1 (x - 1) := by have : ((atN R1 x : Nat) : Int) < ((atN R1 (x - 1) : Nat) : Int) := w; omega
      have hxa : a < x := by
        rcases Nat.lt_or_ge a x with h | h
        · exact h
        · have hxe : x = a := by omega
          have := hlw (by omega) a (Nat.le_refl _) (by omega)
          rw [hxe] at w'
          omega
      repeat refine same ?_
      refine ⟨[0, 0, 0, 0, 0, 0, 0, 0, 0, 0, 0, 0, 0, 0, 0, 1, 1, 2], [[], [], [], [], [3], [], [], [6], [5, 6, 7], [5, 6, 7, 8], [], [], [10, 11], [10, 11, 12], [0, 1, 5, 6, 7, 8, 9, 10, 11, 12, 13], [0, 1, 5, 6, 7, 8, 9, 10, 11, 12, 13, 14], [0, 1, 2, 3, 4, 5, 6, 7, 8, 9, 10, 11, 12, 13, 14, 15], [0, 1, 2, 3, 4, 5, 6, 7, 8, 9, 10, 11, 12, 13, 14, 15, 16]], [0, 0, 0, 0, 0, 0, 0, 0, 0, 0, 0, 0, 0, 0, 0, 0, 0, 0], [15, 17], [[0], [9], [0], [9], [82], [0], [9], [85], [84, 86], [87], [0], [9], [89, 90], [91], [79, 80], [93, 88], [81, 83], [94, 92]], Ob.intro (by kernel_rfl) ?_⟩
      repeat first | refine same ?_ | refine Ob.intro bi ?_ | refine Ob.intro bm ?_ | refine optK_intro (rd_us rfl (ofsW rfl) (atN_some hiR)) ?_ | refine optK_intro (rd_us rfl (ofsW em) (atN_some hmR)) ?_
      refine wr_us (k := x) (x := _) rfl rfl (ofsW rfl) hiR ?_
      repeat first | refine same ?_ | refine Ob.intro bi ?_ | refine Ob.intro bm ?_
      refine wr_us (k := x - 1) (x := _) rfl rfl (ofsW em) (by rw [List.length_set]; exact hmR) ?_
      repeat first | refine same ?_ | refine Ob.intro bi ?_ | refine Ob.intro bm ?_
      refine hK ⟨x - 1, swp R1 x (x - 1), by omega, by omega, so1.trans (SO.swp hiR hmR (by omega) (by omega)), fun p q p1 p2 p3 p4 => ?_⟩ [0] _ (show x = x - 1 + 1 by omega) ⟨⟨rfl, rfl, rfl, rfl, rfl, congrArg i64 em, True.intro⟩, ⟨.inl (by rw [renO_us]; rfl), True.intro⟩, rfl, rfl, rfl⟩
      rw [swp_at hiR hmR, swp_at hiR hmR, if_neg (show ¬ q = x - 1 by omega)]
      by_cases eq : q = x
      · rw [if_pos eq]
        by_cases ep : p = x - 1
        · rw [if_pos ep]; omega
        · rw [if_neg ep, if_neg (by omega)]
          exact si1 p (x - 1) p1 (by omega) (by omega) (by omega)
      · rw [if_neg eq]
        by_cases ep : p = x - 1
        · rw [if_pos ep]
          exact si1 x q (by omega) (by omega) p3 eq
        · rw [if_neg ep]
          by_cases ep2 : p = x
          · rw [if_pos ep2]
            exact si1 (x - 1) q (by omega) (by omega) p3 eq
          · rw [if_neg ep2]
            exact si1 p q p1 p2 p3 eq
    · have w' : atN R1 (x - 1) ≤ atN R1 x := by have : ¬ ((atN R1 x : Nat) : Int) < ((atN R1 (x - 1) : Nat) : Int) := w; omega
      repeat refine same ?_
      refine hK18 ⟨i, R1, h1, h2, so1, fun p q p1 p2 p3 => ?_⟩ [] [0] _ ⟨⟨rfl, rfl, rfl, rfl, rfl, True.intro⟩, ⟨.inl (by rw [renO_us]; rfl), True.intro⟩, rfl, rfl, rfl⟩
      by_cases eq : q = x
      · rw [eq]
        by_cases ep : p = x - 1
        · rw [ep]; exact w'
        · exact Nat.le_trans (si1 p (x - 1) p1 (by omega) (by omega) (by omega)) w'
      · exact si1 p q p1 p2 p3 eq
  clear so1 si1 hlen h1 h2 em g g' hR1 R1
  obtain ⟨i, R, h1, h2, so, si⟩ := z
  dsimp only at h1 h2 so si ⊢
  have ebi : wrp .i64 ((b : Int) - (i : Int)) = ((b - i : Nat) : Int) := by rw [wid (by omega)]; omega
  have ei : wrp .i64 ((i : Int) + 1) = ((i + 1 : Nat) : Int) := by rw [wid (by omega)]; omega
  refine forkD (fun g2 => ?_) (fun g2 => ?_)
  rotate_left
  · exact hK4 ⟨i, R, h1, h2, so, si⟩ [] [0] _ ⟨⟨rfl, rfl, rfl, rfl, rfl, True.intro⟩, ⟨.inl (by rw [renO_us]; rfl), True.intro⟩, rfl, rfl, rfl⟩
  have g2' : i + 2 ≤ b := by
    have : wrp .i64 ((b : Int) - (i : Int)) ≥ 2 := g2
    rw [ebi] at this
    omega
  refine loopI (α := Rsh R0 a b i) (fun z => [(0, .slc 0 0 R0.length 1), (1, i64 (a : Nat)), (2, i64 (b : Nat)), (7, i64 (i : Nat)), (8, i64 (j : Nat)), (10, i64 (z.x : Nat))]) (fun z => [.row (z.R.map u64n)]) (fun z => b - z.x) ⟨i + 1, R, by omega, by omega, so, si⟩ [0] ⟨⟨rfl, rfl, rfl, rfl, rfl, congrArg i64 ei, True.intro⟩, ⟨.inl (by rw [renO_us]; rfl), True.intro⟩, rfl, rfl, rfl⟩ ?_
  clear so si R
  rintro ⟨x, R1, x1, x2, so1, si1⟩ K hK
  dsimp only at x1 x2 so1 si1 ⊢
  have hlen := so1.len
  refine forkD (fun g3 => ?_) (fun g3 => ?_)
  rotate_left
  · exact hK4 ⟨i, R1, h1, h2, so1, si1⟩ [] [0] _ ⟨⟨rfl, rfl, rfl, rfl, rfl, True.intro⟩, ⟨.inl (by rw [renO_us]; rfl), True.intro⟩, rfl, rfl, rfl⟩
  have g3' : x < b := by have : (x : Int) < (b : Int) := g3; omega
  have em : wrp .i64 ((x : Int) - 1) = ((x - 1 : Nat) : Int) := by rw [wid (by omega)]; omega
  have ex : wrp .i64 ((x : Int) + 1) = ((x + 1 : Nat) : Int) := by rw [wid (by omega)]; omega
  have hiR : x < R1.length := by omega
  have hmR : x - 1 < R1.length := by omega
  have bi : (0 : Int) ≤ (x : Nat) ∧ ((x : Nat) : Int) < (R0.length : Nat) := by omega
  have bm : (0 : Int) ≤ wrp .i64 ((x : Int) - 1) ∧ wrp .i64 ((x : Int) - 1) < (R0.length : Nat) := by rw [em]; omega
  refine ⟨[0, 0, 0, 0, 0, 0, 0, 0, 0, 1, 1], [[], [], [0, 1], [0, 1, 2], [], [], [5], [4, 5, 6], [4, 5, 6, 7], [0, 1, 2, 3, 4, 5, 6, 7, 8], [0, 1, 2, 3, 4, 5, 6, 7, 8, 9]], [0, 0, 0, 0, 0, 0, 0, 0, 0, 0, 0], [9], [[0], [10], [106, 107], [108], [0], [10], [111], [110, 112], [113], [109, 114], [115]], Ob.intro (by kernel_rfl) ?_⟩
  repeat first | refine same ?_ | refine Ob.intro bi ?_ | refine Ob.intro bm ?_ | refine optK_intro (rd_us rfl (ofs x) (atN_some hiR)) ?_ | refine optK_intro (rd_us rfl (ofsW em) (atN_some hmR)) ?_
  refine callP (lessU_ok _ _) rfl rfl ?_
  refine forkD (fun w => ?_) (fun w => ?_)
  · repeat refine same ?_
    refine ⟨[0, 0, 0, 0, 0, 0, 0, 0, 0, 0, 0, 0, 0, 0, 0, 1, 1, 2], [[], [], [], [], [3], [], [], [6], [5, 6, 7], [5, 6, 7, 8], [], [], [10, 11], [10, 11, 12], [0, 1, 5, 6, 7, 8, 9, 10, 11, 12, 13], [0, 1, 5, 6, 7, 8, 9, 10, 11, 12, 13, 14], [0, 1, 2, 3, 4, 5, 6, 7, 8, 9, 10, 11, 12, 13, 14, 15], [0, 1, 2, 3, 4, 5, 6, 7, 8, 9, 10, 11, 12, 13, 14, 15, 16]], [0, 0, 0, 0, 0, 0, 0, 0, 0, 0, 0, 0, 0, 0, 0, 0, 0, 0], [15, 17], [[0], [10], [0], [10], [120], [0], [10], [123], [122, 124], [125], [0], [10], [127, 128], [129], [117, 118], [131, 126], [119, 121], [132, 130]], Ob.intro (by kernel_rfl) ?_⟩
    repeat first | refine same ?_ | refine Ob.intro bi ?_ | refine Ob.intro bm ?_ | refine optK_intro (rd_us rfl (ofsW rfl) (atN_some hiR)) ?_ | refine optK_intro (rd_us rfl (ofsW em) (atN_some hmR)) ?_
    refine wr_us (k := x) (x := _) rfl rfl (ofsW rfl) hiR ?_
    repeat first | refine same ?_ | refine Ob.intro bi ?_ | refine Ob.intro bm ?_
    refine wr_us (k := x - 1) (x := _) rfl rfl (ofsW em) (by rw [List.length_set]; exact hmR) ?_
    repeat first | refine same ?_ | refine Ob.intro bi ?_ | refine Ob.intro bm ?_
    refine hK ⟨x + 1, swp R1 x (x - 1), by omega, by omega, so1.trans (SO.swp hiR hmR (by omega) (by omega)), fun p q p1 p2 p3 => ?_⟩ [0] _ (show b - x = b - (x + 1) + 1 by omega) ⟨⟨rfl, rfl, rfl, rfl, rfl, congrArg i64 ex, True.intro⟩, ⟨.inl (by rw [renO_us]; rfl), True.intro⟩, rfl, rfl, rfl⟩
    rw [swp_at hiR hmR, swp_at hiR hmR, if_neg (by omega), if_neg (by omega), if_neg (by omega), if_neg (by omega)]
    exact si1 p q p1 p2 p3
  · repeat refine same ?_
    exact hK4 ⟨i, R1, h1, h2, so1, si1⟩ [] [0] _ ⟨⟨rfl, rfl, rfl, rfl, rfl, True.intro⟩, ⟨.inl (by rw [renO_us]; rfl), True.intro⟩, rfl, rfl, rfl⟩
end Go.Proofs.Ytmfifbclldnpkaa.A
