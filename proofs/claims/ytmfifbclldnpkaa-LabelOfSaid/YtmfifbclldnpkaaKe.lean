/- sorting many: heaps. No condition. -/
import Derived.Test.YtmfifbclldnpkaaKd
namespace Go.Proofs.Ytmfifbclldnpkaa.A
open Go
set_option linter.unusedVariables false
set_option linter.unusedSimpArgs false
set_option maxRecDepth 100000
set_option pp.maxSteps 600

/-- From l on none is less than its children, of those below n; the heap begins at f. -/
def Hp (R : List Nat) (f l n : Nat) : Prop := ∀ i c, l ≤ i → (c = 2 * i + 1 ∨ c = 2 * i + 2) → c < n → atN R (f + c) ≤ atN R (f + i)
structure Sf (R0 : List Nat) (f l n : Nat) where
  r : Nat
  R : List Nat
  fu : Nat
  h1 : l ≤ r
  so : SO (f + l) (f + n) R0 R
  i1 : ∀ i c, l ≤ i → i ≠ r → (c = 2 * i + 1 ∨ c = 2 * i + 2) → c < n → atN R (f + c) ≤ atN R (f + i)
  i2 : ∀ p c, l ≤ p → (r = 2 * p + 1 ∨ r = 2 * p + 2) → (c = 2 * r + 1 ∨ c = 2 * r + 2) → c < n → atN R (f + c) ≤ atN R (f + p)
  hf : n - r ≤ fu
  h0 : r ≤ R0.length
/-- The greater child. -/
structure Ch (n : Nat) (f : Nat) (R : List Nat) (r : Nat) where
  c : Nat
  h1 : c = 2 * r + 1 ∨ c = 2 * r + 2
  h2 : c < n
  h3 : ∀ d, (d = 2 * r + 1 ∨ d = 2 * r + 2) → d < n → atN R (f + d) ≤ atN R (f + c)
theorem sf_end {R0 : List Nat} {f l n : Nat} (z : Sf R0 f l n) (h : ∀ d, (d = 2 * z.r + 1 ∨ d = 2 * z.r + 2) → d < n → atN z.R (f + d) ≤ atN z.R (f + z.r)) : Hp z.R f l n := by
  intro i c h1 h2 h3
  by_cases e : i = z.r
  · subst e
    exact h c h2 h3
  · exact z.i1 i c h1 e h2 h3
def Sf.nx {R0 : List Nat} {f l n : Nat} (z : Sf R0 f l n) (c : Ch n f z.R z.r) (hn : f + n ≤ R0.length) (hlt : atN z.R (f + z.r) < atN z.R (f + c.c)) : Sf R0 f l n :=
  have hl := z.so.len
  have h1 := z.h1
  have c1 := c.h1
  have c2 := c.h2
  have hf := z.hf
  have hrR : f + z.r < z.R.length := by omega
  have hcR : f + c.c < z.R.length := by omega
  have at' : ∀ k, k ≠ z.r → k ≠ c.c → atN (swp z.R (f + z.r) (f + c.c)) (f + k) = atN z.R (f + k) := fun k k1 k2 => by rw [swp_at hrR hcR, if_neg (by omega), if_neg (by omega)]
  have atr : atN (swp z.R (f + z.r) (f + c.c)) (f + z.r) = atN z.R (f + c.c) := by rw [swp_at hrR hcR, if_neg (by omega), if_pos rfl]
  have atc : atN (swp z.R (f + z.r) (f + c.c)) (f + c.c) = atN z.R (f + z.r) := by rw [swp_at hrR hcR, if_pos rfl]
  ⟨c.c, swp z.R (f + z.r) (f + c.c), z.fu - 1, by omega, z.so.trans (SO.swp hrR hcR (by omega) (by omega)), fun i d i1 i2 i3 i4 => by
    by_cases e : i = z.r
    · rw [e, atr]
      by_cases ed : d = c.c
      · rw [ed, atc]; omega
      · rw [at' d (by omega) ed]
        exact c.h3 d (by omega) i4
    · by_cases ed : d = z.r
      · rw [ed, atr, at' i e i2]
        exact z.i2 i c.c i1 (by omega) (by omega) c2
      · rw [at' d ed (by omega), at' i e i2]
        exact z.i1 i d i1 e i3 i4, fun p d p1 p2 p3 p4 => by
    have ep : p = z.r := by omega
    rw [ep, atr, at' d (by omega) (by omega)]
    exact z.i1 c.c d (by omega) (by omega) p3 p4, by omega, by omega⟩
theorem sift_ok (R0 : List Nat) (l n f : Nat) (hf : f + n ≤ R0.length) (hn : R0.length < 1073741824) (hl : l ≤ R0.length) (hp : Hp R0 f (l + 1) n) :
    ACalls Try.prog 61 [.slc 0 0 R0.length 1, i64 (l : Nat), i64 (n : Nat), i64 (f : Nat)] [.row (R0.map u64n)] (fun E G => ∃ R, SO (f + l) (f + n) R0 R ∧ Hp R f l n ∧ E = .ret (.tup []) ∧ G = [.row (R.map u64n)]) := by
  refine acalls_of_awpC [5] hT mixed Try.func61 rfl (by kernel_rfl) (by kernel_rfl) (Nat.le_of_ble_eq_true rfl) ?_
  refine loopI (α := Sf R0 f l n) (fun z => [(0, .slc 0 0 R0.length 1), (2, i64 (n : Nat)), (3, i64 (f : Nat)), (8, i64 (z.r : Nat))]) (fun z => [.row (z.R.map u64n)]) (fun z => z.fu) ⟨l, R0, n, Nat.le_refl _, SO.refl .., fun i c i1 i2 i3 i4 => hp i c (by omega) i3 i4, (fun p c p1 p2 => by omega), by omega, hl⟩ [0] ⟨⟨rfl, rfl, rfl, rfl, True.intro⟩, ⟨.inl (by rw [renO_us]; rfl), True.intro⟩, rfl, rfl, rfl⟩ ?_
  intro z K hK
  have hlen := z.so.len
  have h1 := z.h1
  have hfu := z.hf
  have hrn := z.h0
  have e1 : wrp .i64 (wrp .i64 (2 * (z.r : Int)) + 1) = ((2 * z.r + 1 : Nat) : Int) := by rw [wid (z := 2 * (z.r : Int)) (by omega), wid (by omega)]; omega
  refine forkD (fun g => ?_) (fun g => ?_)
  · have g' : n ≤ 2 * z.r + 1 := by
      have : wrp .i64 (wrp .i64 (2 * (z.r : Int)) + 1) ≥ (n : Int) := g
      rw [e1] at this
      omega
    exact ⟨rfl, [.row (z.R.map u64n)], .tup [], ⟨⟨_, rfl, rfl⟩, ⟨.inl rfl, True.intro⟩, Nat.le_refl _, belowH_us _⟩, z.R, z.so, sf_end z fun d d1 d2 => by omega, rfl, rfl⟩
  have g' : 2 * z.r + 1 < n := by
    have : ¬ wrp .i64 (wrp .i64 (2 * (z.r : Int)) + 1) ≥ (n : Int) := g
    rw [e1] at this
    omega
  have hrR : f + z.r < z.R.length := by omega
  have hcR : f + (2 * z.r + 1) < z.R.length := by omega
  refine cutI (α := Ch n f z.R z.r) (fun c => [(0, .slc 0 0 R0.length 1), (2, i64 (n : Nat)), (3, i64 (f : Nat)), (8, i64 (z.r : Nat)), (9, i64 (c.c : Nat))]) (fun _ => [.row (z.R.map u64n)]) [] (fun K1 hK1 => ?_) (fun c => ?_)
  · have e2 : wrp .i64 (wrp .i64 (wrp .i64 (2 * (z.r : Int)) + 1) + 1) = ((2 * z.r + 2 : Nat) : Int) := by rw [e1, wid (by omega)]; omega
    have e3 : wrp .i64 ((f : Int) + wrp .i64 (wrp .i64 (2 * (z.r : Int)) + 1)) = ((f + (2 * z.r + 1) : Nat) : Int) := by rw [e1, wid (by omega)]; omega
    have e4 : wrp .i64 (wrp .i64 ((f : Int) + wrp .i64 (wrp .i64 (2 * (z.r : Int)) + 1)) + 1) = ((f + (2 * z.r + 2) : Nat) : Int) := by rw [e3, wid (by omega)]; omega
    refine ⟨[0, 0, 0, 0, 0, 0, 0, 0, 0, 0, 0, 0, 0, 0, 0, 0, 0, 0, 1, 1], [[], [0], [], [0, 1, 2], [0, 1, 2, 3], [0, 1, 2, 3, 4], [0, 1, 2, 3, 4], [0, 1, 2, 3, 4], [0, 1, 2, 3, 4, 6, 7], [0, 1, 2, 3, 4, 5, 6, 7, 8], [0, 1, 2, 3, 4, 5, 6, 7, 8, 9], [0, 1, 2, 3, 4], [0, 1, 2, 3, 4], [0, 1, 2, 3, 4], [0, 1, 2, 3, 4, 12, 13], [0, 1, 2, 3, 4, 12, 13, 14], [0, 1, 2, 3, 4, 11, 12, 13, 14, 15], [0, 1, 2, 3, 4, 11, 12, 13, 14, 15, 16], [0, 1, 2, 3, 4, 5, 6, 7, 8, 9, 10, 11, 12, 13, 14, 15, 16, 17], [0, 1, 2, 3, 4, 5, 6, 7, 8, 9, 10, 11, 12, 13, 14, 15, 16, 17, 18]], [0, 0, 0, 0, 0, 0, 0, 0, 0, 0, 0, 0, 0, 0, 0, 0, 0, 0, 0, 0], [18], [[9], [17], [2], [18, 19], [20], [0, 21], [3, 21], [9, 21], [23, 24, 21], [22, 25, 21], [26, 21], [0, 21], [3, 21], [9, 21], [29, 30, 21], [31, 21], [28, 32, 21], [33, 21], [27, 34, 21], [21, 35]], Ob.intro (by kernel_rfl) ?_⟩
    refine forkD (fun q => ?_) (fun q => ?_)
    · have q' : 2 * z.r + 2 < n := by
        have : wrp .i64 (wrp .i64 (wrp .i64 (2 * (z.r : Int)) + 1) + 1) < (n : Int) := q
        rw [e2] at this
        omega
      have hdR : f + (2 * z.r + 2) < z.R.length := by omega
      have bc : (0 : Int) ≤ wrp .i64 ((f : Int) + wrp .i64 (wrp .i64 (2 * (z.r : Int)) + 1)) ∧ wrp .i64 ((f : Int) + wrp .i64 (wrp .i64 (2 * (z.r : Int)) + 1)) < (R0.length : Nat) := by rw [e3]; omega
      have bd : (0 : Int) ≤ wrp .i64 (wrp .i64 ((f : Int) + wrp .i64 (wrp .i64 (2 * (z.r : Int)) + 1)) + 1) ∧ wrp .i64 (wrp .i64 ((f : Int) + wrp .i64 (wrp .i64 (2 * (z.r : Int)) + 1)) + 1) < (R0.length : Nat) := by rw [e4]; omega
      repeat first | refine same ?_ | refine Ob.intro bc ?_ | refine Ob.intro bd ?_ | refine optK_intro (rd_us rfl (ofsW e3) (atN_some hcR)) ?_ | refine optK_intro (rd_us rfl (ofsW e4) (atN_some hdR)) ?_
      refine callP (lessU_ok _ _) rfl rfl ?_
      refine forkD (fun w => ?_) (fun w => ?_)
      · have w' : atN z.R (f + (2 * z.r + 1)) < atN z.R (f + (2 * z.r + 2)) := by have : ((atN z.R (f + (2 * z.r + 1)) : Nat) : Int) < ((atN z.R (f + (2 * z.r + 2)) : Nat) : Int) := w; omega
        repeat refine same ?_
        exact hK1 ⟨2 * z.r + 2, .inr rfl, q', fun d d1 d2 => by rcases d1 with rfl | rfl <;> omega⟩ [] [0] _ ⟨⟨rfl, rfl, rfl, rfl, congrArg i64 e2, True.intro⟩, ⟨.inl (by rw [renO_us]; rfl), True.intro⟩, rfl, rfl, rfl⟩
      · have w' : atN z.R (f + (2 * z.r + 2)) ≤ atN z.R (f + (2 * z.r + 1)) := by have : ¬ ((atN z.R (f + (2 * z.r + 1)) : Nat) : Int) < ((atN z.R (f + (2 * z.r + 2)) : Nat) : Int) := w; omega
        repeat refine same ?_
        exact hK1 ⟨2 * z.r + 1, .inl rfl, g', fun d d1 d2 => by rcases d1 with rfl | rfl <;> omega⟩ [] [0] _ ⟨⟨rfl, rfl, rfl, rfl, congrArg i64 e1, True.intro⟩, ⟨.inl (by rw [renO_us]; rfl), True.intro⟩, rfl, rfl, rfl⟩
    · have q' : ¬ 2 * z.r + 2 < n := by
        have : ¬ wrp .i64 (wrp .i64 (wrp .i64 (2 * (z.r : Int)) + 1) + 1) < (n : Int) := q
        rw [e2] at this
        omega
      repeat refine same ?_
      exact hK1 ⟨2 * z.r + 1, .inl rfl, g', fun d d1 d2 => by rcases d1 with rfl | rfl <;> omega⟩ [] [0] _ ⟨⟨rfl, rfl, rfl, rfl, congrArg i64 e1, True.intro⟩, ⟨.inl (by rw [renO_us]; rfl), True.intro⟩, rfl, rfl, rfl⟩
  clear hcR
  have c1 := c.h1
  have c2 := c.h2
  have hcR : f + c.c < z.R.length := by omega
  have er : wrp .i64 ((f : Int) + (z.r : Int)) = ((f + z.r : Nat) : Int) := by rw [wid (by omega)]; omega
  have ec : wrp .i64 ((f : Int) + (c.c : Int)) = ((f + c.c : Nat) : Int) := by rw [wid (by omega)]; omega
  have br : (0 : Int) ≤ wrp .i64 ((f : Int) + (z.r : Int)) ∧ wrp .i64 ((f : Int) + (z.r : Int)) < (R0.length : Nat) := by rw [er]; omega
  have bc : (0 : Int) ≤ wrp .i64 ((f : Int) + (c.c : Int)) ∧ wrp .i64 ((f : Int) + (c.c : Int)) < (R0.length : Nat) := by rw [ec]; omega
  refine ⟨[0, 0, 0, 0, 0, 0, 0, 0, 0, 0, 0, 0, 1, 1], [[], [], [], [1, 2], [0, 1, 2, 3], [0, 1, 2, 3, 4], [], [], [], [7, 8], [6, 7, 8, 9], [6, 7, 8, 9, 10], [0, 1, 2, 3, 4, 5, 6, 7, 8, 9, 10, 11], [0, 1, 2, 3, 4, 5, 6, 7, 8, 9, 10, 11, 12]], [0, 0, 0, 0, 0, 0, 0, 0, 0, 0, 0, 0, 0, 0], [12], [[0], [3], [8], [40, 41], [39, 42], [43], [0], [3], [9], [46, 47], [45, 48], [49], [44, 50], [51]], Ob.intro (by kernel_rfl) ?_⟩
  repeat first | refine same ?_ | refine Ob.intro br ?_ | refine Ob.intro bc ?_ | refine optK_intro (rd_us rfl (ofsW er) (atN_some hrR)) ?_ | refine optK_intro (rd_us rfl (ofsW ec) (atN_some hcR)) ?_
  refine callP (lessU_ok _ _) rfl rfl ?_
  refine forkD (fun w => ?_) (fun w => ?_)
  · have w' : atN z.R (f + z.r) < atN z.R (f + c.c) := by have : ((atN z.R (f + z.r) : Nat) : Int) < ((atN z.R (f + c.c) : Nat) : Int) := w; omega
    repeat refine same ?_
    refine ⟨[0, 0, 0, 0, 0, 0, 0, 0, 0, 0, 0, 0, 0, 0, 0, 0, 0, 0, 0, 0, 0, 1, 1, 2], [[], [], [], [1, 2], [], [], [], [5, 6], [], [], [], [9, 10], [8, 9, 10, 11], [8, 9, 10, 11, 12], [], [], [], [15, 16], [14, 15, 16, 17], [14, 15, 16, 17, 18], [0, 1, 2, 3, 8, 9, 10, 11, 12, 13, 14, 15, 16, 17, 18, 19], [0, 1, 2, 3, 8, 9, 10, 11, 12, 13, 14, 15, 16, 17, 18, 19, 20], [0, 1, 2, 3, 4, 5, 6, 7, 8, 9, 10, 11, 12, 13, 14, 15, 16, 17, 18, 19, 20, 21], [0, 1, 2, 3, 4, 5, 6, 7, 8, 9, 10, 11, 12, 13, 14, 15, 16, 17, 18, 19, 20, 21, 22]], [0, 0, 0, 0, 0, 0, 0, 0, 0, 0, 0, 0, 0, 0, 0, 0, 0, 0, 0, 0, 0, 0, 0, 0], [21, 23], [[0], [3], [8], [54, 55], [0], [3], [9], [58, 59], [0], [3], [9], [62, 63], [61, 64], [65], [0], [3], [8], [68, 69], [67, 70], [71], [53, 56], [73, 66], [57, 60], [74, 72]], Ob.intro (by kernel_rfl) ?_⟩
    repeat first | refine same ?_ | refine Ob.intro br ?_ | refine Ob.intro bc ?_ | refine optK_intro (rd_us rfl (ofsW er) (atN_some hrR)) ?_ | refine optK_intro (rd_us rfl (ofsW ec) (atN_some hcR)) ?_
    refine wr_us (k := f + z.r) (x := _) rfl rfl (ofsW er) hrR ?_
    repeat first | refine same ?_ | refine Ob.intro br ?_ | refine Ob.intro bc ?_
    refine wr_us (k := f + c.c) (x := _) rfl rfl (ofsW ec) (by rw [List.length_set]; exact hcR) ?_
    repeat first | refine same ?_ | refine Ob.intro br ?_ | refine Ob.intro bc ?_
    exact hK (z.nx c hf w') [0] _ (show z.fu = z.fu - 1 + 1 by omega) ⟨⟨rfl, rfl, rfl, rfl, True.intro⟩, ⟨.inl (by rw [renO_us]; rfl), True.intro⟩, rfl, rfl, rfl⟩
  · have w' : atN z.R (f + c.c) ≤ atN z.R (f + z.r) := by have : ¬ ((atN z.R (f + z.r) : Nat) : Int) < ((atN z.R (f + c.c) : Nat) : Int) := w; omega
    repeat refine same ?_
    exact ⟨rfl, [.row (z.R.map u64n)], .tup [], ⟨⟨_, rfl, rfl⟩, ⟨.inl rfl, True.intro⟩, Nat.le_refl _, belowH_us _⟩, z.R, z.so, sf_end z fun d d1 d2 => Nat.le_trans (c.h3 d d1 d2) w', rfl, rfl⟩
theorem hp_root {R : List Nat} {f n : Nat} (h : Hp R f 0 n) : ∀ x, x < n → atN R (f + x) ≤ atN R f := by
  intro x
  induction x using Nat.strongRecOn with
  | ind x ih =>
    intro hx
    by_cases h0 : x = 0
    · rw [h0]; exact Nat.le_refl _
    · have h1 := h ((x - 1) / 2) x (Nat.zero_le _) (by omega) hx
      exact Nat.le_trans h1 (ih ((x - 1) / 2) (by omega) (by omega))
structure Hb (R0 : List Nat) (a b : Nat) where
  k : Nat
  R : List Nat
  hk : k ≤ b - a
  so : SO a b R0 R
  hp : Hp R a k (b - a)
structure Hs (R0 : List Nat) (a b : Nat) where
  k : Nat
  R : List Nat
  hk : k ≤ b - a
  so : SO a b R0 R
  hp : Hp R a 0 k
  hs : SI (a + k) b R
  hc : ∀ x y, x < k → a + k ≤ y → y < b → atN R (a + x) ≤ atN R y
theorem hs_nx {R0 R R2 : List Nat} {a b k : Nat} (hab : a < b) (hb : b ≤ R0.length) (hk : k + 1 ≤ b - a) (so : SO a b R0 R) (hp : Hp R a 0 (k + 1)) (hs : SI (a + (k + 1)) b R) (hc : ∀ x y, x < k + 1 → a + (k + 1) ≤ y → y < b → atN R (a + x) ≤ atN R y) (s2 : SO (a + 0) (a + k) (swp R a (a + k)) R2) (p2 : Hp R2 a 0 k) : ∃ z : Hs R0 a b, z.k = k ∧ z.R = R2 := by
  have hl := so.len
  have haR : a < R.length := by omega
  have hkR : a + k < R.length := by omega
  have root := hp_root hp
  have a1 : ∀ y, a + k < y → atN (swp R a (a + k)) y = atN R y := fun y hy => by rw [swp_at haR hkR, if_neg (by omega), if_neg (by omega)]
  have a2 : atN (swp R a (a + k)) (a + k) = atN R a := by rw [swp_at haR hkR, if_pos rfl]
  have o1 : ∀ y, a + k ≤ y → atN R2 y = atN (swp R a (a + k)) y := fun y hy => s2.out y (.inr hy)
  have low : ∀ x, x < k → atN R2 (a + x) ≤ atN R a := fun x hx => by
    have hz : (swp R a (a + k)).length = R.length := swp_len ..
    have := s2.all (P := fun v => v ≤ atN R a) (by omega) (by omega) (fun i h1 h2 => by
      rw [swp_at haR hkR, if_neg (by omega)]
      by_cases e : i = a
      · rw [if_pos e]; exact root k (by omega)
      · rw [if_neg e]
        have := root (i - a) (by omega)
        rwa [show a + (i - a) = i by omega] at this) (a + x) (by omega) (by omega)
    exact this
  refine ⟨⟨k, R2, by omega, (so.trans (SO.swp haR hkR (by omega) (by omega))).trans (s2.wide (by omega) (by omega)), p2, fun i j h1 h2 h3 => ?_, fun x y h1 h2 h3 => ?_⟩, rfl, rfl⟩
  · rw [o1 i h1, o1 j (by omega), a1 j (by omega)]
    by_cases e : i = a + k
    · rw [e, a2]
      exact hc 0 j (by omega) (by omega) h3
    · rw [a1 i (by omega)]
      exact hs i j (by omega) h2 h3
  · refine Nat.le_trans (low x h1) ?_
    rw [o1 y h2]
    by_cases e : y = a + k
    · rw [e, a2]; exact Nat.le_refl _
    · rw [a1 y (by omega)]
      exact hc 0 y (by omega) (by omega) h3
theorem heap_ok (R0 : List Nat) (a b : Nat) (hab : a < b) (hb : b ≤ R0.length) (hn : R0.length < 1073741824) :
    ACalls Try.prog 50 [.slc 0 0 R0.length 1, i64 (a : Nat), i64 (b : Nat)] [.row (R0.map u64n)] (fun E G => ∃ R, SO a b R0 R ∧ SI a b R ∧ E = .ret (.tup []) ∧ G = [.row (R.map u64n)]) := by
  have el : wrp .i64 ((b : Int) - (a : Int)) = ((b - a : Nat) : Int) := by rw [wid (by omega)]; omega
  have em : wrp .i64 (wrp .i64 ((b : Int) - (a : Int)) - 1) = ((b - a - 1 : Nat) : Int) := by rw [el, wid (by omega)]; omega
  have eq : wrp .i64 ((wrp .i64 (wrp .i64 ((b : Int) - (a : Int)) - 1)).tdiv 2) = (((b - a - 1) / 2 + 1 : Nat) : Int) - 1 := by
    rw [em, show ((b - a - 1 : Nat) : Int).tdiv 2 = (((b - a - 1) / 2 : Nat) : Int) from rfl, wid (by omega)]
    omega
  refine acalls_of_awp hT mixed Try.func50 rfl (by kernel_rfl) (by kernel_rfl) (Nat.le_of_ble_eq_true rfl) ?_
  refine Ob.intro (show (2 : Int) ≠ 0 by decide) ?_
  refine loopI (α := Hb R0 a b) (fun z => [(0, .slc 0 0 R0.length 1), (6, i64 (a : Nat)), (7, i64 ((0 : Nat) : Int)), (8, i64 (b - a : Nat)), (9, i64 ((z.k : Nat) - 1 : Int))]) (fun z => [.row (z.R.map u64n)]) (fun z => z.k) ⟨(b - a - 1) / 2 + 1, R0, by omega, SO.refl .., fun i c h1 h2 h3 => by omega⟩ [0] ⟨⟨rfl, rfl, rfl, congrArg i64 el, congrArg i64 eq, True.intro⟩, ⟨.inl (by rw [renO_us]; rfl), True.intro⟩, rfl, rfl, rfl⟩ ?_
  clear em eq el
  rintro ⟨k, R, hk, so, hp⟩ K hK
  dsimp only at hk so hp ⊢
  have hlen := so.len
  refine forkD (fun g => ?_) (fun g => ?_)
  · obtain ⟨k, rfl⟩ : ∃ i, k = i + 1 := ⟨k - 1, by have : ((k : Nat) : Int) - 1 ≥ 0 := g; omega⟩
    have hs := sift_ok R k (b - a) a (by omega) (by omega) (by omega) hp
    rw [hlen, show ((k : Nat) : Int) = ((k + 1 : Nat) : Int) - 1 by omega] at hs
    refine callS hs [0] ⟨.inl (by rw [renO_us]; rfl), True.intro⟩ rfl ?_
    rintro E G ⟨R2, s2, p2, rfl, rfl⟩ _
    refine ⟨_, [.row (R2.map u64n)], rfl, by simp only [renH, renO_us]; rfl, ?_⟩
    have ek : wrp .i64 (((k + 1 : Nat) : Int) - 1 - 1) = ((k : Nat) : Int) - 1 := by rw [wid (by omega)]; omega
    exact hK ⟨k, R2, by omega, so.trans (s2.wide (by omega) (by omega)), p2⟩ [0] _ rfl ⟨⟨rfl, rfl, rfl, rfl, congrArg i64 ek, True.intro⟩, ⟨.inl (by rw [renO_us]; rfl), True.intro⟩, rfl, rfl, rfl⟩
  have hk0 : k = 0 := by have : ¬ ((k : Nat) : Int) - 1 ≥ 0 := g; omega
  subst hk0
  have em : wrp .i64 (((b - a : Nat) : Int) - 1) = ((b - a : Nat) : Int) - 1 := by rw [wid (by omega)]
  refine loopI (α := Hs R0 a b) (fun z => [(0, .slc 0 0 R0.length 1), (6, i64 (a : Nat)), (7, i64 ((0 : Nat) : Int)), (10, i64 ((z.k : Nat) - 1 : Int))]) (fun z => [.row (z.R.map u64n)]) (fun z => z.k) ⟨b - a, R, Nat.le_refl _, so, hp, fun i j h1 h2 h3 => by omega, fun x y h1 h2 h3 => by omega⟩ [0] ⟨⟨rfl, rfl, rfl, congrArg i64 em, True.intro⟩, ⟨.inl (by rw [renO_us]; rfl), True.intro⟩, rfl, rfl, rfl⟩ ?_
  clear hp so hlen hK g em hk R
  rintro ⟨k, R, hk, so, hp, hs, hc⟩ K hK
  dsimp only at hk so hp hs hc ⊢
  have hlen := so.len
  refine forkD (fun g => ?_) (fun g => ?_)
  · obtain ⟨k, rfl⟩ : ∃ i, k = i + 1 := ⟨k - 1, by have : ((k : Nat) : Int) - 1 ≥ 0 := g; omega⟩
    have haR : a < R.length := by omega
    have hkR : a + k < R.length := by omega
    have ek2 : wrp .i64 ((a : Int) + (((k + 1 : Nat) : Int) - 1)) = ((a + k : Nat) : Int) := by rw [wid (by omega)]; omega
    have ba : (0 : Int) ≤ (a : Nat) ∧ ((a : Nat) : Int) < (R0.length : Nat) := by omega
    have bk : (0 : Int) ≤ wrp .i64 ((a : Int) + (((k + 1 : Nat) : Int) - 1)) ∧ wrp .i64 ((a : Int) + (((k + 1 : Nat) : Int) - 1)) < (R0.length : Nat) := by rw [ek2]; omega
    refine ⟨[0, 0, 0, 0, 0, 0, 0, 0, 0, 0, 0, 0, 0, 0, 0, 0, 0, 1, 1, 2], [[], [], [], [], [], [3, 4], [], [], [], [7, 8], [6, 7, 8, 9], [6, 7, 8, 9, 10], [], [], [12, 13], [12, 13, 14], [0, 1, 6, 7, 8, 9, 10, 11, 12, 13, 14, 15], [0, 1, 6, 7, 8, 9, 10, 11, 12, 13, 14, 15, 16], [0, 1, 2, 3, 4, 5, 6, 7, 8, 9, 10, 11, 12, 13, 14, 15, 16, 17], [0, 1, 2, 3, 4, 5, 6, 7, 8, 9, 10, 11, 12, 13, 14, 15, 16, 17, 18]], [0, 0, 0, 0, 0, 0, 0, 0, 0, 0, 0, 0, 0, 0, 0, 0, 0, 0, 0, 0], [17, 19], [[0], [6], [0], [6], [10], [36, 37], [0], [6], [10], [40, 41], [39, 42], [43], [0], [6], [45, 46], [47], [33, 34], [49, 44], [35, 38], [50, 48]], Ob.intro (by kernel_rfl) ?_⟩
    repeat first | refine same ?_ | refine Ob.intro ba ?_ | refine Ob.intro bk ?_ | refine optK_intro (rd_us rfl (ofsW rfl) (atN_some haR)) ?_ | refine optK_intro (rd_us rfl (ofsW ek2) (atN_some hkR)) ?_
    refine wr_us (k := a) (x := _) rfl rfl (ofsW rfl) haR ?_
    repeat first | refine same ?_ | refine Ob.intro ba ?_ | refine Ob.intro bk ?_
    refine wr_us (k := a + k) (x := _) rfl rfl (ofsW ek2) (by rw [List.length_set]; exact hkR) ?_
    repeat first | refine same ?_ | refine Ob.intro ba ?_ | refine Ob.intro bk ?_
    have hl2 : (swp R a (a + k)).length = R0.length := by rw [swp_len, hlen]
    have hsf := sift_ok (swp R a (a + k)) 0 k a (by omega) (by omega) (by omega) (fun i c h1 h2 h3 => by
      rw [swp_at haR hkR, swp_at haR hkR, if_neg (by omega), if_neg (by omega), if_neg (by omega), if_neg (by omega)]
      exact hp i c (by omega) h2 (by omega))
    rw [hl2, show ((k : Nat) : Int) = ((k + 1 : Nat) : Int) - 1 by omega] at hsf
    refine callS (H := [.row ((swp R a (a + k)).map u64n)]) hsf [0] ⟨.inl (by rw [renO_us]; rfl), True.intro⟩ rfl ?_
    rintro E G ⟨R2, s2, p2, rfl, rfl⟩ _
    refine ⟨_, [.row (R2.map u64n)], rfl, by simp only [renH, renO_us]; rfl, ?_⟩
    obtain ⟨z, z1, z2⟩ := hs_nx hab hb hk so hp hs hc s2 p2
    have ek : wrp .i64 (((k + 1 : Nat) : Int) - 1 - 1) = ((z.k : Nat) : Int) - 1 := by rw [wid (by omega), z1]; omega
    exact hK z [0] _ (by show k + 1 = z.k + 1; rw [z1]) ⟨⟨rfl, rfl, rfl, congrArg i64 ek, True.intro⟩, ⟨.inl (by rw [renO_us, z2]; rfl), True.intro⟩, rfl, rfl, rfl⟩
  have hk0 : k = 0 := by have : ¬ ((k : Nat) : Int) - 1 ≥ 0 := g; omega
  subst hk0
  exact ⟨rfl, [.row (R.map u64n)], .tup [], ⟨⟨_, rfl, rfl⟩, ⟨.inl rfl, True.intro⟩, Nat.le_refl _, belowH_us _⟩, R, so, hs, rfl, rfl⟩
end Go.Proofs.Ytmfifbclldnpkaa.A
