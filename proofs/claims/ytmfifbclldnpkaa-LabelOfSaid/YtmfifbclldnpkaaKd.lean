/- sorting many: equals parted; patterns broken. No condition. -/
import Derived.Test.YtmfifbclldnpkaaKc
namespace Go.Proofs.Ytmfifbclldnpkaa.A
open Go
set_option linter.unusedVariables false
set_option linter.unusedSimpArgs false
set_option maxRecDepth 100000
set_option pp.maxSteps 600

structure Qt (R0 : List Nat) (a b v f : Nat) where
  i : Nat
  j : Nat
  R : List Nat
  h1 : a < i
  h2 : i ≤ j + 1
  h3 : j < b
  so : SO a b R0 R
  lo : ∀ k, a < k → k < i → atN R k ≤ atN R a
  hi : ∀ k, j < k → k < b → atN R a < atN R k
  hf : j + 1 - i ≤ f
  pa : atN R a = v
structure QtL (R0 : List Nat) (a b v f : Nat) extends Qt R0 a b v f where
  e1 : i ≤ j → atN R a < atN R i
structure QtR (R0 : List Nat) (a b v f : Nat) extends QtL R0 a b v f where
  e2 : i ≤ j → atN R j ≤ atN R a
def QtR.nx {R0 : List Nat} {a b v f : Nat} (z : QtR R0 a b v f) (h : z.i ≤ z.j) (hab : a < b) (hb : b ≤ R0.length) : Qt R0 a b v (f - 1) :=
  have e1 := z.e1 h
  have e2 := z.e2 h
  have hne : z.i ≠ z.j := fun e => by rw [e] at e1; omega
  have h1 := z.h1
  have h3 := z.h3
  have hf := z.hf
  have hl := z.so.len
  have hiR : z.i < z.R.length := by omega
  have hjR : z.j < z.R.length := by omega
  ⟨z.i + 1, z.j - 1, swp z.R z.i z.j, by omega, by omega, by omega, z.so.trans (SO.swp hiR hjR (by omega) (by omega)), fun k k1 k2 => by
    rw [swp_at hiR hjR, swp_at hiR hjR, if_neg (show ¬ a = z.j by omega), if_neg (show ¬ a = z.i by omega)]
    by_cases ek : k = z.i
    · rw [if_neg (by omega), if_pos ek]; exact e2
    · rw [if_neg (by omega), if_neg ek]; exact z.lo k k1 (by omega), fun k k1 k2 => by
    rw [swp_at hiR hjR, swp_at hiR hjR, if_neg (show ¬ a = z.j by omega), if_neg (show ¬ a = z.i by omega)]
    by_cases ek : k = z.j
    · rw [if_pos ek]; exact e1
    · rw [if_neg ek, if_neg (by omega)]; exact z.hi k (by omega) k2, by omega, by rw [swp_at hiR hjR, if_neg (by omega), if_neg (by omega)]; exact z.pa⟩
def EqR (R0 : List Nat) (a b v : Nat) : AEnd → Heap → Prop := fun E G => ∃ (m : Nat) (R : List Nat), (a < m ∧ m ≤ b) ∧ SO a b R0 R ∧ (∀ k, a ≤ k → k < m → atN R k ≤ atN R a) ∧ (∀ k, m ≤ k → k < b → atN R a < atN R k) ∧ atN R a = v ∧ E = .ret (i64 (m : Nat)) ∧ G = [.row (R.map u64n)]
theorem parteq_ok (R0 : List Nat) (a b pv : Nat) (hab : a < b) (hb : b ≤ R0.length) (hpv : a ≤ pv ∧ pv < b) (hn : R0.length < 4611686018427387904) :
    ACalls Try.prog 56 [.slc 0 0 R0.length 1, i64 (a : Nat), i64 (b : Nat), i64 (pv : Nat)] [.row (R0.map u64n)] (EqR R0 a b (atN R0 pv)) := by
  have ba : (0 : Int) ≤ (a : Nat) ∧ ((a : Nat) : Int) < (R0.length : Nat) := by omega
  have bp : (0 : Int) ≤ (pv : Nat) ∧ ((pv : Nat) : Int) < (R0.length : Nat) := by omega
  have haR : a < R0.length := by omega
  have hpR : pv < R0.length := by omega
  have ea : wrp .i64 ((a : Int) + 1) = ((a + 1 : Nat) : Int) := by rw [wid (by omega)]; omega
  have eb : wrp .i64 ((b : Int) - 1) = ((b - 1 : Nat) : Int) := by rw [wid (by omega)]; omega
  refine acalls_of_awpC [5, 7] hT mixed Try.func56 rfl (by kernel_rfl) (by kernel_rfl) (Nat.le_of_ble_eq_true rfl) ?_
  refine ⟨[0, 0, 0, 0, 0, 0, 0, 0, 0, 0, 0, 0, 0, 1, 1, 2], [[], [], [], [], [], [], [4, 5], [4, 5, 6], [], [], [8, 9], [8, 9, 10], [0, 1, 4, 5, 6, 7, 8, 9, 10, 11], [0, 1, 4, 5, 6, 7, 8, 9, 10, 11, 12], [0, 1, 2, 3, 4, 5, 6, 7, 8, 9, 10, 11, 12, 13], [0, 1, 2, 3, 4, 5, 6, 7, 8, 9, 10, 11, 12, 13, 14]], [0, 0, 0, 0, 0, 0, 0, 0, 0, 0, 0, 0, 0, 0, 0, 0], [13, 15], [[0], [1], [0], [3], [0], [3], [15, 16], [17], [0], [1], [19, 20], [21], [11, 12], [23, 18], [13, 14], [24, 22]], Ob.intro (by kernel_rfl) ?_⟩
  repeat first | refine same ?_ | refine Ob.intro ba ?_ | refine Ob.intro bp ?_ | refine optK_intro (rd_us rfl (ofsW rfl) (atN_some haR)) ?_ | refine optK_intro (rd_us rfl (ofsW rfl) (atN_some hpR)) ?_
  refine wr_us (k := a) (x := _) rfl rfl (ofsW rfl) haR ?_
  repeat first | refine same ?_ | refine Ob.intro ba ?_ | refine Ob.intro bp ?_
  refine wr_us (k := pv) (x := _) rfl rfl (ofsW rfl) (by rw [List.length_set]; exact hpR) ?_
  repeat first | refine same ?_ | refine Ob.intro ba ?_ | refine Ob.intro bp ?_
  refine loopI (α := (f : Nat) × Qt R0 a b (atN R0 pv) f) (fun z => [(0, .slc 0 0 R0.length 1), (1, i64 (a : Nat)), (9, i64 (z.2.i : Nat)), (10, i64 (z.2.j : Nat))]) (fun z => [.row (z.2.R.map u64n)]) (fun z => z.1) ⟨b, ⟨a + 1, b - 1, swp R0 a pv, by omega, by omega, by omega, SO.swp haR hpR (by omega) (by omega), (fun k k1 k2 => by omega), (fun k k1 k2 => by omega), by omega, by rw [swp_at haR hpR]; split; rename_i e; rw [e]; rw [if_pos rfl]⟩⟩ [0] ⟨⟨rfl, rfl, congrArg i64 ea, congrArg i64 eb, True.intro⟩, ⟨.inl (by rw [renO_us]; rfl), True.intro⟩, rfl, rfl, rfl⟩ ?_
  clear haR hpR ea eb bp ba
  rintro ⟨f, z0⟩ K hK
  refine cutI (α := QtL R0 a b (atN R0 pv) f) (fun z => [(0, .slc 0 0 R0.length 1), (1, i64 (a : Nat)), (9, i64 (z.i : Nat)), (10, i64 (z.j : Nat))]) (fun z => [.row (z.R.map u64n)]) [] (fun K1 hK1 => ?_) (fun zL => ?_)
  · clear hK
    refine loopI (α := Qt R0 a b (atN R0 pv) f) (fun z => [(0, .slc 0 0 R0.length 1), (1, i64 (a : Nat)), (9, i64 (z.i : Nat)), (10, i64 (z.j : Nat))]) (fun z => [.row (z.R.map u64n)]) (fun z => z.j + 1 - z.i) z0 [0] ⟨⟨rfl, rfl, rfl, rfl, True.intro⟩, ⟨.inl (by rw [renO_us]; rfl), True.intro⟩, rfl, rfl, rfl⟩ ?_
    rintro ⟨i, j, R, h1, h2, h3, so, lo, hi, hf, pa⟩ K hK
    dsimp only at h1 h2 h3 so lo hi hf pa ⊢
    have hlen := so.len
    have ba : (0 : Int) ≤ (a : Nat) ∧ ((a : Nat) : Int) < (R0.length : Nat) := by omega
    have haR : a < R.length := by omega
    refine ⟨[0, 0, 0, 0, 0, 0, 0, 0, 0, 0, 0, 0, 1, 1, 1], [[], [], [0, 1], [0, 1, 2], [0, 1, 2, 3], [0, 1, 2, 3], [0, 1, 2, 3, 4, 5], [0, 1, 2, 3, 4, 5, 6], [0, 1, 2, 3], [0, 1, 2, 3], [0, 1, 2, 3, 8, 9], [0, 1, 2, 3, 8, 9, 10], [0, 1, 2, 3, 4, 5, 6, 7, 8, 9, 10, 11], [0, 1, 2, 3, 4, 5, 6, 7, 8, 9, 10, 11, 12], [0, 1, 2, 3, 4, 5, 6, 7, 8, 9, 10, 11, 12, 13]], [0, 0, 0, 0, 0, 0, 0, 0, 0, 0, 0, 0, 0, 0, 0], [12], [[9], [10], [29, 30], [31], [0, 32], [1, 32], [33, 34, 32], [35, 32], [0, 32], [9, 32], [37, 38, 32], [39, 32], [36, 40, 32], [41, 32], [32, 42]], Ob.intro (by kernel_rfl) ?_⟩
    refine forkD (fun g => ?_) (fun g => ?_)
    · have g' : i ≤ j := by have : (i : Int) ≤ (j : Int) := g; omega
      have bi : (0 : Int) ≤ (i : Nat) ∧ ((i : Nat) : Int) < (R0.length : Nat) := by omega
      have hiR : i < R.length := by omega
      repeat first | refine same ?_ | refine Ob.intro ba ?_ | refine Ob.intro bi ?_ | refine optK_intro (rd_us rfl (ofs a) (atN_some haR)) ?_ | refine optK_intro (rd_us rfl (ofs i) (atN_some hiR)) ?_
      refine callP (lessU_ok _ _) rfl rfl ?_
      refine forkD (fun q => ?_) (fun q => ?_)
      · have q' : atN R a < atN R i := by have : ((atN R a : Nat) : Int) < ((atN R i : Nat) : Int) := q; omega
        repeat refine same ?_
        exact hK1 ⟨⟨i, j, R, h1, h2, h3, so, lo, hi, hf, pa⟩, fun _ => q'⟩ [] [0] _ ⟨⟨rfl, rfl, rfl, rfl, True.intro⟩, ⟨.inl (by rw [renO_us]; rfl), True.intro⟩, rfl, rfl, rfl⟩
      · have q' : atN R i ≤ atN R a := by have : ¬ ((atN R a : Nat) : Int) < ((atN R i : Nat) : Int) := q; omega
        have ei : wrp .i64 ((i : Int) + 1) = ((i + 1 : Nat) : Int) := by rw [wid (by omega)]; omega
        repeat refine same ?_
        exact hK ⟨i + 1, j, R, by omega, by omega, h3, so, fun k k1 k2 => if e : k = i then by rw [e]; exact q' else lo k k1 (by omega), hi, by omega, pa⟩ [0] _ (show j + 1 - i = j + 1 - (i + 1) + 1 by omega) ⟨⟨rfl, rfl, congrArg i64 ei, rfl, True.intro⟩, ⟨.inl (by rw [renO_us]; rfl), True.intro⟩, rfl, rfl, rfl⟩
    · repeat refine same ?_
      exact hK1 ⟨⟨i, j, R, h1, h2, h3, so, lo, hi, hf, pa⟩, fun h => absurd (Int.ofNat_le.2 h) g⟩ [] [0] _ ⟨⟨rfl, rfl, rfl, rfl, True.intro⟩, ⟨.inl (by rw [renO_us]; rfl), True.intro⟩, rfl, rfl, rfl⟩
  refine cutI (α := QtR R0 a b (atN R0 pv) f) (fun z => [(0, .slc 0 0 R0.length 1), (1, i64 (a : Nat)), (9, i64 (z.i : Nat)), (10, i64 (z.j : Nat))]) (fun z => [.row (z.R.map u64n)]) [] (fun K1 hK1 => ?_) (fun zR => ?_)
  · clear hK
    refine loopI (α := QtL R0 a b (atN R0 pv) f) (fun z => [(0, .slc 0 0 R0.length 1), (1, i64 (a : Nat)), (9, i64 (z.i : Nat)), (10, i64 (z.j : Nat))]) (fun z => [.row (z.R.map u64n)]) (fun z => z.j + 1 - z.i) zL [0] ⟨⟨rfl, rfl, rfl, rfl, True.intro⟩, ⟨.inl (by rw [renO_us]; rfl), True.intro⟩, rfl, rfl, rfl⟩ ?_
    rintro ⟨⟨i, j, R, h1, h2, h3, so, lo, hi, hf, pa⟩, e1⟩ K hK
    dsimp only at h1 h2 h3 so lo hi hf pa e1 ⊢
    have hlen := so.len
    have ba : (0 : Int) ≤ (a : Nat) ∧ ((a : Nat) : Int) < (R0.length : Nat) := by omega
    have haR : a < R.length := by omega
    refine ⟨[0, 0, 0, 0, 0, 0, 0, 0, 0, 0, 0, 0, 1, 1], [[], [], [0, 1], [0, 1, 2], [0, 1, 2, 3], [0, 1, 2, 3], [0, 1, 2, 3, 4, 5], [0, 1, 2, 3, 4, 5, 6], [0, 1, 2, 3], [0, 1, 2, 3], [0, 1, 2, 3, 8, 9], [0, 1, 2, 3, 8, 9, 10], [0, 1, 2, 3, 4, 5, 6, 7, 8, 9, 10, 11], [0, 1, 2, 3, 4, 5, 6, 7, 8, 9, 10, 11, 12]], [0, 0, 0, 0, 0, 0, 0, 0, 0, 0, 0, 0, 0, 0], [12], [[9], [10], [46, 47], [48], [0, 49], [1, 49], [50, 51, 49], [52, 49], [0, 49], [10, 49], [54, 55, 49], [56, 49], [53, 57, 49], [49, 58]], Ob.intro (by kernel_rfl) ?_⟩
    refine forkD (fun g => ?_) (fun g => ?_)
    · have g' : i ≤ j := by have : (i : Int) ≤ (j : Int) := g; omega
      have bj : (0 : Int) ≤ (j : Nat) ∧ ((j : Nat) : Int) < (R0.length : Nat) := by omega
      have hjR : j < R.length := by omega
      repeat first | refine same ?_ | refine Ob.intro ba ?_ | refine Ob.intro bj ?_ | refine optK_intro (rd_us rfl (ofs a) (atN_some haR)) ?_ | refine optK_intro (rd_us rfl (ofs j) (atN_some hjR)) ?_
      refine callP (lessU_ok _ _) rfl rfl ?_
      refine forkD (fun q => ?_) (fun q => ?_)
      · have q' : atN R a < atN R j := by have : ((atN R a : Nat) : Int) < ((atN R j : Nat) : Int) := q; omega
        have ej : wrp .i64 ((j : Int) - 1) = ((j - 1 : Nat) : Int) := by rw [wid (by omega)]; omega
        repeat refine same ?_
        exact hK ⟨⟨i, j - 1, R, by omega, by omega, by omega, so, lo, fun k k1 k2 => if e : k = j then by rw [e]; exact q' else hi k (by omega) k2, by omega, pa⟩, fun h => e1 (by omega)⟩ [0] _ (show j + 1 - i = j - 1 + 1 - i + 1 by omega) ⟨⟨rfl, rfl, rfl, congrArg i64 ej, True.intro⟩, ⟨.inl (by rw [renO_us]; rfl), True.intro⟩, rfl, rfl, rfl⟩
      · have q' : atN R j ≤ atN R a := by have : ¬ ((atN R a : Nat) : Int) < ((atN R j : Nat) : Int) := q; omega
        repeat refine same ?_
        exact hK1 ⟨⟨⟨i, j, R, h1, h2, h3, so, lo, hi, hf, pa⟩, e1⟩, fun _ => q'⟩ [] [0] _ ⟨⟨rfl, rfl, rfl, rfl, True.intro⟩, ⟨.inl (by rw [renO_us]; rfl), True.intro⟩, rfl, rfl, rfl⟩
    · repeat refine same ?_
      exact hK1 ⟨⟨⟨i, j, R, h1, h2, h3, so, lo, hi, hf, pa⟩, e1⟩, fun h => absurd (Int.ofNat_le.2 h) g⟩ [] [0] _ ⟨⟨rfl, rfl, rfl, rfl, True.intro⟩, ⟨.inl (by rw [renO_us]; rfl), True.intro⟩, rfl, rfl, rfl⟩
  have hlen := zR.so.len
  have h3 := zR.h3
  have h1 := zR.h1
  have h2 := zR.h2
  have hf := zR.hf
  refine forkD (fun g => ?_) (fun g => ?_)
  · have g' : ¬ zR.i ≤ zR.j := by have : (zR.i : Int) > (zR.j : Int) := g; omega
    refine ⟨rfl, [.row (zR.R.map u64n)], i64 (zR.i : Nat), ⟨⟨_, rfl, rfl⟩, ⟨.inl rfl, True.intro⟩, Nat.le_refl _, belowH_us _⟩, zR.i, zR.R, by omega, zR.so, fun k k1 k2 => ?_, fun k k1 k2 => zR.hi k (by omega) k2, zR.pa, rfl, rfl⟩
    by_cases e : k = a
    · rw [e]; exact Nat.le_refl _
    · exact zR.lo k (by omega) k2
  have g' : zR.i ≤ zR.j := by have : ¬ (zR.i : Int) > (zR.j : Int) := g; omega
  have hiR : zR.i < zR.R.length := by omega
  have hjR : zR.j < zR.R.length := by omega
  have bi : (0 : Int) ≤ (zR.i : Nat) ∧ ((zR.i : Nat) : Int) < (R0.length : Nat) := by omega
  have bj : (0 : Int) ≤ (zR.j : Nat) ∧ ((zR.j : Nat) : Int) < (R0.length : Nat) := by omega
  have ei : wrp .i64 ((zR.i : Int) + 1) = ((zR.i + 1 : Nat) : Int) := by rw [wid (by omega)]; omega
  have ej : wrp .i64 ((zR.j : Int) - 1) = ((zR.j - 1 : Nat) : Int) := by rw [wid (by omega)]; omega
  refine ⟨[0, 0, 0, 0, 0, 0, 0, 0, 0, 0, 0, 0, 0, 1, 1, 2], [[], [], [], [], [], [], [4, 5], [4, 5, 6], [], [], [8, 9], [8, 9, 10], [0, 1, 4, 5, 6, 7, 8, 9, 10, 11], [0, 1, 4, 5, 6, 7, 8, 9, 10, 11, 12], [0, 1, 2, 3, 4, 5, 6, 7, 8, 9, 10, 11, 12, 13], [0, 1, 2, 3, 4, 5, 6, 7, 8, 9, 10, 11, 12, 13, 14]], [0, 0, 0, 0, 0, 0, 0, 0, 0, 0, 0, 0, 0, 0, 0, 0], [13, 15], [[0], [9], [0], [10], [0], [10], [69, 70], [71], [0], [9], [73, 74], [75], [65, 66], [77, 72], [67, 68], [78, 76]], Ob.intro (by kernel_rfl) ?_⟩
  repeat first | refine same ?_ | refine Ob.intro bi ?_ | refine Ob.intro bj ?_ | refine optK_intro (rd_us rfl (ofsW rfl) (atN_some hiR)) ?_ | refine optK_intro (rd_us rfl (ofsW rfl) (atN_some hjR)) ?_
  refine wr_us (k := zR.i) (x := _) rfl rfl (ofsW rfl) hiR ?_
  repeat first | refine same ?_ | refine Ob.intro bi ?_ | refine Ob.intro bj ?_
  refine wr_us (k := zR.j) (x := _) rfl rfl (ofsW rfl) (by rw [List.length_set]; exact hjR) ?_
  repeat first | refine same ?_ | refine Ob.intro bi ?_ | refine Ob.intro bj ?_
  exact hK ⟨f - 1, zR.nx g' hab hb⟩ [0] _ (show f = f - 1 + 1 by omega) ⟨⟨rfl, rfl, congrArg i64 ei, congrArg i64 ej, True.intro⟩, ⟨.inl (by rw [renO_us]; rfl), True.intro⟩, rfl, rfl, rfl⟩
/-! ### Patterns broken -/
structure BkSt (R0 : List Nat) (a b q : Nat) where
  x : Nat
  R : List Nat
  y : Int
  h1 : a + q * 2 ≤ x + 1
  h2 : x ≤ a + q * 2 + 2
  so : SO a b R0 R
theorem and_lt (y : Int) {m : Nat} (h0 : 0 < m) (hm : m ≤ 64) : ∃ o : Nat, o < m ∧ wrp .i64 (wrp .u64 (((BitVec.ofInt IntKind.u64.bits y &&& BitVec.ofInt IntKind.u64.bits (wrp .u64 ((m : Int) - 1))).toNat : Nat) : Int)) = ((o : Nat) : Int) := by
  have hw : wrp .u64 ((m : Int) - 1) = ((m - 1 : Nat) : Int) := by rw [wrpE, wu64]; omega
  have hb : IntKind.u64.bits = 64 := rfl
  refine ⟨(BitVec.ofInt IntKind.u64.bits y &&& BitVec.ofInt IntKind.u64.bits (wrp .u64 ((m : Int) - 1))).toNat, ?_, ?_⟩
  · rw [BitVec.toNat_and]
    have h1 := Nat.and_le_right (n := (BitVec.ofInt IntKind.u64.bits y).toNat) (m := (BitVec.ofInt IntKind.u64.bits (wrp .u64 ((m : Int) - 1))).toNat)
    have h2 : (BitVec.ofInt IntKind.u64.bits (wrp .u64 ((m : Int) - 1))).toNat = m - 1 := by
      rw [hw, hb, BitVec.toNat_ofInt]
      show (((m - 1 : Nat) : Int) % ((2 ^ 64 : Nat) : Int)).toNat = m - 1
      have : ((2 ^ 64 : Nat) : Int) = 18446744073709551616 := rfl
      omega
    omega
  · have h1 : (BitVec.ofInt IntKind.u64.bits y &&& BitVec.ofInt IntKind.u64.bits (wrp .u64 ((m : Int) - 1))).toNat ≤ m - 1 := by
      rw [BitVec.toNat_and]
      have h1 := Nat.and_le_right (n := (BitVec.ofInt IntKind.u64.bits y).toNat) (m := (BitVec.ofInt IntKind.u64.bits (wrp .u64 ((m : Int) - 1))).toNat)
      have h2 : (BitVec.ofInt IntKind.u64.bits (wrp .u64 ((m : Int) - 1))).toNat = m - 1 := by
        rw [hw, hb, BitVec.toNat_ofInt]
        show (((m - 1 : Nat) : Int) % ((2 ^ 64 : Nat) : Int)).toNat = m - 1
        have : ((2 ^ 64 : Nat) : Int) = 18446744073709551616 := rfl
        omega
      omega
    generalize (BitVec.ofInt IntKind.u64.bits y &&& BitVec.ofInt IntKind.u64.bits (wrp .u64 ((m : Int) - 1))).toNat = z at h1
    have hz : wrp .u64 ((z : Nat) : Int) = ((z : Nat) : Int) := by rw [wrpE, wu64]; omega
    rw [hz, wid (by omega)]
theorem break_ok (R0 : List Nat) (a b : Nat) (hab : a + 8 ≤ b) (hb : b ≤ R0.length) (hn : R0.length ≤ 63) :
    ACalls Try.prog 51 [.slc 0 0 R0.length 1, i64 (a : Nat), i64 (b : Nat)] [.row (R0.map u64n)] (fun E G => ∃ R, SO a b R0 R ∧ E = .ret (.tup []) ∧ G = [.row (R.map u64n)]) := by
  have el : wrp .i64 ((b : Int) - (a : Int)) = ((b - a : Nat) : Int) := by rw [wid (by omega)]; omega
  have hnp := npt_ok (b - a) (by omega)
  rw [← el] at hnp
  have hp0 : b - a < 2 ^ lenT (b - a) ∧ 2 ^ lenT (b - a) ≤ 2 * (b - a) ∧ 2 ^ lenT (b - a) ≤ 64 := by
    have : ∀ n, n ≤ 63 → 0 < n → n < 2 ^ lenT n ∧ 2 ^ lenT n ≤ 2 * n ∧ 2 ^ lenT n ≤ 64 := by decide
    exact this _ (by omega) (by omega)
  obtain ⟨q, hq⟩ : ∃ q, q = (b - a) / 4 := ⟨_, rfl⟩
  have e4 : wrp .i64 ((((b - a : Nat) : Int)).tdiv 4) = ((q : Nat) : Int) := by
    rw [show ((b - a : Nat) : Int).tdiv 4 = (((b - a) / 4 : Nat) : Int) from rfl, ← hq, wid (by omega)]
  have f2 : wrp .i64 ((a : Int) + wrp .i64 (wrp .i64 ((((b - a : Nat) : Int)).tdiv 4) * 2)) = ((a + q * 2 : Nat) : Int) := by rw [e4, wid (z := ((q : Nat) : Int) * 2) (by omega), wid (by omega)]; omega
  have fm : wrp .i64 (wrp .i64 ((a : Int) + wrp .i64 (wrp .i64 ((((b - a : Nat) : Int)).tdiv 4) * 2)) - 1) = ((a + q * 2 - 1 : Nat) : Int) := by rw [f2, wid (by omega)]; omega
  have fp : wrp .i64 (wrp .i64 ((a : Int) + wrp .i64 (wrp .i64 ((((b - a : Nat) : Int)).tdiv 4) * 2)) + 1) = ((a + q * 2 + 1 : Nat) : Int) := by rw [f2, wid (by omega)]; omega
  rw [← el] at fm
  refine acalls_of_awp hT mixed Try.func51 rfl (by kernel_rfl) (by kernel_rfl) (Nat.le_of_ble_eq_true rfl) ?_
  refine forkD (fun _ => ?_) (fun g => absurd (show wrp .i64 ((b : Int) - (a : Int)) ≥ 8 by rw [el]; omega) g)
  refine callP hnp rfl rfl ?_
  refine Ob.intro (show (4 : Int) ≠ 0 by decide) ?_
  refine loopI (α := BkSt R0 a b q) (fun z => [(0, .slc 0 0 R0.length 1), (1, i64 (a : Nat)), (6, i64 (b - a : Nat)), (7, .ptr 1 0), (8, u64 (2 ^ lenT (b - a) : Nat)), (9, i64 (z.x : Nat))]) (fun z => [.row (z.R.map u64n), .row [u64 z.y]]) (fun z => a + q * 2 + 2 - z.x) ⟨a + q * 2 - 1, R0, _, by omega, by omega, SO.refl ..⟩ [0, 1] ⟨⟨rfl, rfl, congrArg i64 el, rfl, rfl, congrArg i64 fm, True.intro⟩, ⟨.inl (by rw [renO_us]; rfl), .inl rfl, True.intro⟩, rfl, rfl, rfl⟩ ?_
  rintro ⟨x, R, y, h1, h2, so⟩ K hK
  dsimp only at h1 h2 so ⊢
  have hlen := so.len
  refine Ob.intro (show (4 : Int) ≠ 0 by decide) ?_
  refine forkD (fun g => ?_) (fun g => ?_)
  · have g' : x ≤ a + q * 2 + 1 := by
      have : (x : Int) ≤ wrp .i64 (wrp .i64 ((a : Int) + wrp .i64 (wrp .i64 ((((b - a : Nat) : Int)).tdiv 4) * 2)) + 1) := g
      rw [fp] at this
      omega
    refine callS (next_ok y) [1] ⟨.inl rfl, True.intro⟩ rfl ?_
    rintro E G ⟨y2, rfl, rfl⟩ _
    refine ⟨_, [.row (R.map u64n), .row [u64 y2]], rfl, rfl, ?_⟩
    obtain ⟨o, ho, hoe⟩ := and_lt y2 (m := 2 ^ lenT (b - a)) (by omega) hp0.2.2
    have bx : (0 : Int) ≤ (x : Nat) ∧ ((x : Nat) : Int) < (R0.length : Nat) := by omega
    have hxR : x < R.length := by omega
    have ex : wrp .i64 ((x : Int) + 1) = ((x + 1 : Nat) : Int) := by rw [wid (by omega)]; omega
    refine forkD (fun g2 => ?_) (fun g2 => ?_)
    · have g2' : b - a ≤ o := by
        have : (wrp .i64 (wrp .u64 (((BitVec.ofInt IntKind.u64.bits y2 &&& BitVec.ofInt IntKind.u64.bits (wrp .u64 (((2 ^ lenT (b - a) : Nat) : Int) - 1))).toNat : Nat) : Int))) ≥ ((b - a : Nat) : Int) := g2
        rw [hoe] at this
        omega
      have eo : wrp .i64 ((wrp .i64 (wrp .u64 (((BitVec.ofInt IntKind.u64.bits y2 &&& BitVec.ofInt IntKind.u64.bits (wrp .u64 (((2 ^ lenT (b - a) : Nat) : Int) - 1))).toNat : Nat) : Int))) - ((b - a : Nat) : Int)) = ((o - (b - a) : Nat) : Int) := by rw [hoe, wid (by omega)]; omega
      have eJ : wrp .i64 ((a : Int) + wrp .i64 ((wrp .i64 (wrp .u64 (((BitVec.ofInt IntKind.u64.bits y2 &&& BitVec.ofInt IntKind.u64.bits (wrp .u64 (((2 ^ lenT (b - a) : Nat) : Int) - 1))).toNat : Nat) : Int))) - ((b - a : Nat) : Int))) = ((a + (o - (b - a)) : Nat) : Int) := by rw [eo, wid (by omega)]; omega
      have bj : (0 : Int) ≤ wrp .i64 ((a : Int) + wrp .i64 ((wrp .i64 (wrp .u64 (((BitVec.ofInt IntKind.u64.bits y2 &&& BitVec.ofInt IntKind.u64.bits (wrp .u64 (((2 ^ lenT (b - a) : Nat) : Int) - 1))).toNat : Nat) : Int))) - ((b - a : Nat) : Int))) ∧ wrp .i64 ((a : Int) + wrp .i64 ((wrp .i64 (wrp .u64 (((BitVec.ofInt IntKind.u64.bits y2 &&& BitVec.ofInt IntKind.u64.bits (wrp .u64 (((2 ^ lenT (b - a) : Nat) : Int) - 1))).toNat : Nat) : Int))) - ((b - a : Nat) : Int))) < (R0.length : Nat) := by rw [eJ]; omega
      have hjR : a + (o - (b - a)) < R.length := by omega
      refine ⟨[0, 0, 0, 0, 0, 0, 0, 0, 0, 0, 0, 0, 0, 0, 0, 0, 0, 1, 1, 2], [[], [], [], [], [], [3, 4], [], [], [], [7, 8], [6, 7, 8, 9], [6, 7, 8, 9, 10], [], [], [12, 13], [12, 13, 14], [0, 1, 6, 7, 8, 9, 10, 11, 12, 13, 14, 15], [0, 1, 6, 7, 8, 9, 10, 11, 12, 13, 14, 15, 16], [0, 1, 2, 3, 4, 5, 6, 7, 8, 9, 10, 11, 12, 13, 14, 15, 16, 17], [0, 1, 2, 3, 4, 5, 6, 7, 8, 9, 10, 11, 12, 13, 14, 15, 16, 17, 18]], [0, 0, 0, 0, 0, 0, 0, 0, 0, 0, 0, 0, 0, 0, 0, 0, 0, 0, 0, 0], [17, 19], [[0], [9], [0], [1], [10], [50, 51], [0], [1], [10], [54, 55], [53, 56], [57], [0], [9], [59, 60], [61], [47, 48], [63, 58], [49, 52], [64, 62]], Ob.intro (by kernel_rfl) ?_⟩
      repeat first | refine same ?_ | refine Ob.intro bx ?_ | refine Ob.intro bj ?_ | refine optK_intro (rd_us rfl (ofsW rfl) (atN_some hxR)) ?_ | refine optK_intro (rd_us rfl (ofsW eJ) (atN_some hjR)) ?_
      refine wr_us (k := x) (x := _) rfl rfl (ofsW rfl) hxR ?_
      repeat first | refine same ?_ | refine Ob.intro bx ?_ | refine Ob.intro bj ?_
      refine wr_us (k := a + (o - (b - a))) (x := _) rfl rfl (ofsW eJ) (by rw [List.length_set]; exact hjR) ?_
      repeat first | refine same ?_ | refine Ob.intro bx ?_ | refine Ob.intro bj ?_
      exact hK ⟨x + 1, swp R x (a + (o - (b - a))), y2, by omega, by omega, so.trans (SO.swp hxR hjR (by omega) (by omega))⟩ [0, 1] _ (show a + q * 2 + 2 - x = a + q * 2 + 2 - (x + 1) + 1 by omega) ⟨⟨rfl, rfl, rfl, rfl, rfl, congrArg i64 ex, True.intro⟩, ⟨.inl (by rw [renO_us]; rfl), .inl rfl, True.intro⟩, rfl, rfl, rfl⟩
    · have g2' : o < b - a := by
        have : ¬ (wrp .i64 (wrp .u64 (((BitVec.ofInt IntKind.u64.bits y2 &&& BitVec.ofInt IntKind.u64.bits (wrp .u64 (((2 ^ lenT (b - a) : Nat) : Int) - 1))).toNat : Nat) : Int))) ≥ ((b - a : Nat) : Int) := g2
        rw [hoe] at this
        omega
      have eJ : wrp .i64 ((a : Int) + (wrp .i64 (wrp .u64 (((BitVec.ofInt IntKind.u64.bits y2 &&& BitVec.ofInt IntKind.u64.bits (wrp .u64 (((2 ^ lenT (b - a) : Nat) : Int) - 1))).toNat : Nat) : Int)))) = ((a + o : Nat) : Int) := by rw [hoe, wid (by omega)]; omega
      have bj : (0 : Int) ≤ wrp .i64 ((a : Int) + (wrp .i64 (wrp .u64 (((BitVec.ofInt IntKind.u64.bits y2 &&& BitVec.ofInt IntKind.u64.bits (wrp .u64 (((2 ^ lenT (b - a) : Nat) : Int) - 1))).toNat : Nat) : Int)))) ∧ wrp .i64 ((a : Int) + (wrp .i64 (wrp .u64 (((BitVec.ofInt IntKind.u64.bits y2 &&& BitVec.ofInt IntKind.u64.bits (wrp .u64 (((2 ^ lenT (b - a) : Nat) : Int) - 1))).toNat : Nat) : Int)))) < (R0.length : Nat) := by rw [eJ]; omega
      have hjR : a + o < R.length := by omega
      refine ⟨[0, 0, 0, 0, 0, 0, 0, 0, 0, 0, 0, 0, 0, 0, 0, 0, 0, 1, 1, 2], [[], [], [], [], [], [3, 4], [], [], [], [7, 8], [6, 7, 8, 9], [6, 7, 8, 9, 10], [], [], [12, 13], [12, 13, 14], [0, 1, 6, 7, 8, 9, 10, 11, 12, 13, 14, 15], [0, 1, 6, 7, 8, 9, 10, 11, 12, 13, 14, 15, 16], [0, 1, 2, 3, 4, 5, 6, 7, 8, 9, 10, 11, 12, 13, 14, 15, 16, 17], [0, 1, 2, 3, 4, 5, 6, 7, 8, 9, 10, 11, 12, 13, 14, 15, 16, 17, 18]], [0, 0, 0, 0, 0, 0, 0, 0, 0, 0, 0, 0, 0, 0, 0, 0, 0, 0, 0, 0], [17, 19], [[0], [9], [0], [1], [10], [50, 51], [0], [1], [10], [54, 55], [53, 56], [57], [0], [9], [59, 60], [61], [47, 48], [63, 58], [49, 52], [64, 62]], Ob.intro (by kernel_rfl) ?_⟩
      repeat first | refine same ?_ | refine Ob.intro bx ?_ | refine Ob.intro bj ?_ | refine optK_intro (rd_us rfl (ofsW rfl) (atN_some hxR)) ?_ | refine optK_intro (rd_us rfl (ofsW eJ) (atN_some hjR)) ?_
      refine wr_us (k := x) (x := _) rfl rfl (ofsW rfl) hxR ?_
      repeat first | refine same ?_ | refine Ob.intro bx ?_ | refine Ob.intro bj ?_
      refine wr_us (k := a + o) (x := _) rfl rfl (ofsW eJ) (by rw [List.length_set]; exact hjR) ?_
      repeat first | refine same ?_ | refine Ob.intro bx ?_ | refine Ob.intro bj ?_
      exact hK ⟨x + 1, swp R x (a + o), y2, by omega, by omega, so.trans (SO.swp hxR hjR (by omega) (by omega))⟩ [0, 1] _ (show a + q * 2 + 2 - x = a + q * 2 + 2 - (x + 1) + 1 by omega) ⟨⟨rfl, rfl, rfl, rfl, rfl, congrArg i64 ex, True.intro⟩, ⟨.inl (by rw [renO_us]; rfl), .inl rfl, True.intro⟩, rfl, rfl, rfl⟩
  · exact ⟨rfl, [.row (R.map u64n)], .tup [], ⟨⟨_, rfl, rfl⟩, ⟨.inl rfl, True.intro⟩, Nat.le_refl _, belowH_us R⟩, R, so, rfl, rfl⟩
end Go.Proofs.Ytmfifbclldnpkaa.A
