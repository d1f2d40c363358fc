/- sorting many: partitions. No condition. -/
import Derived.Test.YtmfifbclldnpkaaKb
namespace Go.Proofs.Ytmfifbclldnpkaa.A
open Go
set_option linter.unusedVariables false
set_option linter.unusedSimpArgs false
set_option maxRecDepth 100000
set_option pp.maxSteps 600

/-- A partition under way: the pivot stands at a. -/
structure Pt (R0 : List Nat) (a b f : Nat) where
  i : Nat
  j : Nat
  R : List Nat
  h1 : a < i
  h2 : i ≤ j + 1
  h3 : j < b
  so : SO a b R0 R
  lo : ∀ k, a < k → k < i → atN R k < atN R a
  hi : ∀ k, j < k → k < b → atN R a ≤ atN R k
  hf : j + 1 - i ≤ f
structure PtL (R0 : List Nat) (a b f : Nat) extends Pt R0 a b f where
  e1 : i ≤ j → atN R a ≤ atN R i
structure PtR (R0 : List Nat) (a b f : Nat) extends PtL R0 a b f where
  e2 : i ≤ j → atN R j < atN R a
def PtR.nx {R0 : List Nat} {a b f : Nat} (z : PtR R0 a b f) (h : z.i ≤ z.j) (hab : a < b) (hb : b ≤ R0.length) : Pt R0 a b (f - 1) :=
  have e1 := z.e1 h
  have e2 := z.e2 h
  have hne : z.i ≠ z.j := fun e => by rw [e] at e1; omega
  have h1 := z.h1
  have h3 := z.h3
  have hf := z.hf
  have hl := z.so.len
  have hiR : z.i < z.R.length := by omega
  have hjR : z.j < z.R.length := by omega
  ⟨z.i + 1, z.j - 1, swp z.R z.i z.j, by omega, by omega, by omega, z.so.trans (SO.swp hiR hjR (by omega) (by omega)), fun k k1 k2 => by
    rw [swp_at hiR hjR, swp_at hiR hjR, if_neg (show ¬ a = z.j by omega), if_neg (show ¬ a = z.i by omega)]
    by_cases ek : k = z.i
    · rw [if_neg (by omega), if_pos ek]; exact e2
    · rw [if_neg (by omega), if_neg ek]; exact z.lo k k1 (by omega), fun k k1 k2 => by
    rw [swp_at hiR hjR, swp_at hiR hjR, if_neg (show ¬ a = z.j by omega), if_neg (show ¬ a = z.i by omega)]
    by_cases ek : k = z.j
    · rw [if_pos ek]; exact e1
    · rw [if_neg ek, if_neg (by omega)]; exact z.hi k (by omega) k2, by omega⟩
def PartR (R0 : List Nat) (a b : Nat) : AEnd → Heap → Prop := fun E G => ∃ (m : Nat) (q : Bool) (R : List Nat), (a ≤ m ∧ m < b) ∧ SO a b R0 R ∧ (∀ k, a ≤ k → k < m → atN R k < atN R m) ∧ (∀ k, m < k → k < b → atN R m ≤ atN R k) ∧ E = .ret (.tup [i64 (m : Nat), bo q]) ∧ G = [.row (R.map u64n)]
theorem pt_end {R0 : List Nat} {a b f : Nat} (z : PtR R0 a b f) (h : ¬ z.i ≤ z.j) (hab : a < b) (hb : b ≤ R0.length) : (a ≤ z.j ∧ z.j < b) ∧ SO a b R0 (swp z.R z.j a) ∧ (∀ k, a ≤ k → k < z.j → atN (swp z.R z.j a) k < atN (swp z.R z.j a) z.j) ∧ (∀ k, z.j < k → k < b → atN (swp z.R z.j a) z.j ≤ atN (swp z.R z.j a) k) := by
  have h1 := z.h1
  have h2 := z.h2
  have h3 := z.h3
  have hl := z.so.len
  have hjR : z.j < z.R.length := by omega
  have haR : a < z.R.length := by omega
  refine ⟨⟨by omega, h3⟩, z.so.trans (SO.swp hjR haR (by omega) (by omega)), fun k k1 k2 => ?_, fun k k1 k2 => ?_⟩
  · rw [swp_at hjR haR, swp_at hjR haR, if_neg (show ¬ z.j = a by omega), if_pos rfl]
    by_cases ek : k = a
    · rw [if_pos ek]
      exact z.lo z.j (by omega) (by omega)
    · rw [if_neg ek, if_neg (by omega)]
      exact z.lo k (by omega) (by omega)
  · rw [swp_at hjR haR, swp_at hjR haR, if_neg (show ¬ k = a by omega), if_neg (show ¬ k = z.j by omega)]
    have := z.hi k k1 k2
    by_cases ej : z.j = a
    · rw [if_pos ej, ej]; exact this
    · rw [if_neg ej, if_pos rfl]; exact this
theorem part_ok (R0 : List Nat) (a b pv : Nat) (hab : a < b) (hb : b ≤ R0.length) (hpv : a ≤ pv ∧ pv < b) (hn : R0.length < 4611686018427387904) :
    ACalls Try.prog 57 [.slc 0 0 R0.length 1, i64 (a : Nat), i64 (b : Nat), i64 (pv : Nat)] [.row (R0.map u64n)] (PartR R0 a b) := by
  have ba : (0 : Int) ≤ (a : Nat) ∧ ((a : Nat) : Int) < (R0.length : Nat) := by omega
  have bp : (0 : Int) ≤ (pv : Nat) ∧ ((pv : Nat) : Int) < (R0.length : Nat) := by omega
  have haR : a < R0.length := by omega
  have hpR : pv < R0.length := by omega
  have ea : wrp .i64 ((a : Int) + 1) = ((a + 1 : Nat) : Int) := by rw [wid (by omega)]; omega
  have eb : wrp .i64 ((b : Int) - 1) = ((b - 1 : Nat) : Int) := by rw [wid (by omega)]; omega
  refine acalls_of_awpC [5, 7, 15, 17] hT mixed Try.func57 rfl (by kernel_rfl) (by kernel_rfl) (Nat.le_of_ble_eq_true rfl) ?_
  refine ⟨[0, 0, 0, 0, 0, 0, 0, 0, 0, 0, 0, 0, 0, 1, 1, 2], [[], [], [], [], [], [], [4, 5], [4, 5, 6], [], [], [8, 9], [8, 9, 10], [0, 1, 4, 5, 6, 7, 8, 9, 10, 11], [0, 1, 4, 5, 6, 7, 8, 9, 10, 11, 12], [0, 1, 2, 3, 4, 5, 6, 7, 8, 9, 10, 11, 12, 13], [0, 1, 2, 3, 4, 5, 6, 7, 8, 9, 10, 11, 12, 13, 14]], [0, 0, 0, 0, 0, 0, 0, 0, 0, 0, 0, 0, 0, 0, 0, 0], [13, 15], [[0], [1], [0], [3], [0], [3], [16, 17], [18], [0], [1], [20, 21], [22], [12, 13], [24, 19], [14, 15], [25, 23]], Ob.intro (by kernel_rfl) ?_⟩
  repeat first | refine same ?_ | refine Ob.intro ba ?_ | refine Ob.intro bp ?_ | refine optK_intro (rd_us rfl (ofsW rfl) (atN_some haR)) ?_ | refine optK_intro (rd_us rfl (ofsW rfl) (atN_some hpR)) ?_
  refine wr_us (k := a) (x := _) rfl rfl (ofsW rfl) haR ?_
  repeat first | refine same ?_ | refine Ob.intro ba ?_ | refine Ob.intro bp ?_
  refine wr_us (k := pv) (x := _) rfl rfl (ofsW rfl) (by rw [List.length_set]; exact hpR) ?_
  repeat first | refine same ?_ | refine Ob.intro ba ?_ | refine Ob.intro bp ?_
  refine cutI (α := PtL R0 a b b) (fun z => [(0, .slc 0 0 R0.length 1), (1, i64 (a : Nat)), (10, i64 (z.i : Nat)), (11, i64 (z.j : Nat))]) (fun z => [.row (z.R.map u64n)]) [] (fun K1 hK1 => ?_) (fun zL => ?_)
  · refine loopI (α := Pt R0 a b b) (fun z => [(0, .slc 0 0 R0.length 1), (1, i64 (a : Nat)), (10, i64 (z.i : Nat)), (11, i64 (z.j : Nat))]) (fun z => [.row (z.R.map u64n)]) (fun z => z.j + 1 - z.i) ⟨a + 1, b - 1, swp R0 a pv, by omega, by omega, by omega, SO.swp haR hpR (by omega) (by omega), (fun k k1 k2 => by omega), (fun k k1 k2 => by omega), by omega⟩ [0] ⟨⟨rfl, rfl, congrArg i64 ea, congrArg i64 eb, True.intro⟩, ⟨.inl (by rw [renO_us]; rfl), True.intro⟩, rfl, rfl, rfl⟩ ?_
    rintro ⟨i, j, R, h1, h2, h3, so, lo, hi, hf⟩ K hK
    dsimp only at h1 h2 h3 so lo hi hf ⊢
    have hlen := so.len
    have ba : (0 : Int) ≤ (a : Nat) ∧ ((a : Nat) : Int) < (R0.length : Nat) := by omega
    have haR : a < R.length := by omega
    refine ⟨[0, 0, 0, 0, 0, 0, 0, 0, 0, 0, 0, 0, 1, 1], [[], [], [0, 1], [0, 1, 2], [0, 1, 2, 3], [0, 1, 2, 3], [0, 1, 2, 3, 4, 5], [0, 1, 2, 3, 4, 5, 6], [0, 1, 2, 3], [0, 1, 2, 3], [0, 1, 2, 3, 8, 9], [0, 1, 2, 3, 8, 9, 10], [0, 1, 2, 3, 4, 5, 6, 7, 8, 9, 10, 11], [0, 1, 2, 3, 4, 5, 6, 7, 8, 9, 10, 11, 12]], [0, 0, 0, 0, 0, 0, 0, 0, 0, 0, 0, 0, 0, 0], [12], [[10], [11], [30, 31], [32], [0, 33], [10, 33], [34, 35, 33], [36, 33], [0, 33], [1, 33], [38, 39, 33], [40, 33], [37, 41, 33], [33, 42]], Ob.intro (by kernel_rfl) ?_⟩
    refine forkD (fun g => ?_) (fun g => ?_)
    · have g' : i ≤ j := by have : (i : Int) ≤ (j : Int) := g; omega
      have bi : (0 : Int) ≤ (i : Nat) ∧ ((i : Nat) : Int) < (R0.length : Nat) := by omega
      have hiR : i < R.length := by omega
      repeat first | refine same ?_ | refine Ob.intro bi ?_ | refine Ob.intro ba ?_ | refine optK_intro (rd_us rfl (ofs i) (atN_some hiR)) ?_ | refine optK_intro (rd_us rfl (ofs a) (atN_some haR)) ?_
      refine callP (lessU_ok _ _) rfl rfl ?_
      refine forkD (fun q => ?_) (fun q => ?_)
      · have q' : atN R i < atN R a := by have : ((atN R i : Nat) : Int) < ((atN R a : Nat) : Int) := q; omega
        have ei : wrp .i64 ((i : Int) + 1) = ((i + 1 : Nat) : Int) := by rw [wid (by omega)]; omega
        repeat refine same ?_
        exact hK ⟨i + 1, j, R, by omega, by omega, h3, so, fun k k1 k2 => if e : k = i then by rw [e]; exact q' else lo k k1 (by omega), hi, by omega⟩ [0] _ (show j + 1 - i = j + 1 - (i + 1) + 1 by omega) ⟨⟨rfl, rfl, congrArg i64 ei, rfl, True.intro⟩, ⟨.inl (by rw [renO_us]; rfl), True.intro⟩, rfl, rfl, rfl⟩
      · have q' : atN R a ≤ atN R i := by have : ¬ ((atN R i : Nat) : Int) < ((atN R a : Nat) : Int) := q; omega
        repeat refine same ?_
        exact hK1 ⟨⟨i, j, R, h1, h2, h3, so, lo, hi, hf⟩, fun _ => q'⟩ [] [0] _ ⟨⟨rfl, rfl, rfl, rfl, True.intro⟩, ⟨.inl (by rw [renO_us]; rfl), True.intro⟩, rfl, rfl, rfl⟩
    · repeat refine same ?_
      exact hK1 ⟨⟨i, j, R, h1, h2, h3, so, lo, hi, hf⟩, fun h => absurd (Int.ofNat_le.2 h) g⟩ [] [0] _ ⟨⟨rfl, rfl, rfl, rfl, True.intro⟩, ⟨.inl (by rw [renO_us]; rfl), True.intro⟩, rfl, rfl, rfl⟩
  refine cutI (α := PtR R0 a b b) (fun z => [(0, .slc 0 0 R0.length 1), (1, i64 (a : Nat)), (10, i64 (z.i : Nat)), (11, i64 (z.j : Nat))]) (fun z => [.row (z.R.map u64n)]) [] (fun K1 hK1 => ?_) (fun zR => ?_)
  · refine loopI (α := PtL R0 a b b) (fun z => [(0, .slc 0 0 R0.length 1), (1, i64 (a : Nat)), (10, i64 (z.i : Nat)), (11, i64 (z.j : Nat))]) (fun z => [.row (z.R.map u64n)]) (fun z => z.j + 1 - z.i) zL [0] ⟨⟨rfl, rfl, rfl, rfl, True.intro⟩, ⟨.inl (by rw [renO_us]; rfl), True.intro⟩, rfl, rfl, rfl⟩ ?_
    rintro ⟨⟨i, j, R, h1, h2, h3, so, lo, hi, hf⟩, e1⟩ K hK
    dsimp only at h1 h2 h3 so lo hi hf e1 ⊢
    have hlen := so.len
    have ba : (0 : Int) ≤ (a : Nat) ∧ ((a : Nat) : Int) < (R0.length : Nat) := by omega
    have haR : a < R.length := by omega
    refine ⟨[0, 0, 0, 0, 0, 0, 0, 0, 0, 0, 0, 0, 1, 1, 1], [[], [], [0, 1], [0, 1, 2], [0, 1, 2, 3], [0, 1, 2, 3], [0, 1, 2, 3, 4, 5], [0, 1, 2, 3, 4, 5, 6], [0, 1, 2, 3], [0, 1, 2, 3], [0, 1, 2, 3, 8, 9], [0, 1, 2, 3, 8, 9, 10], [0, 1, 2, 3, 4, 5, 6, 7, 8, 9, 10, 11], [0, 1, 2, 3, 4, 5, 6, 7, 8, 9, 10, 11, 12], [0, 1, 2, 3, 4, 5, 6, 7, 8, 9, 10, 11, 12, 13]], [0, 0, 0, 0, 0, 0, 0, 0, 0, 0, 0, 0, 0, 0, 0], [12], [[10], [11], [46, 47], [48], [0, 49], [11, 49], [50, 51, 49], [52, 49], [0, 49], [1, 49], [54, 55, 49], [56, 49], [53, 57, 49], [58, 49], [49, 59]], Ob.intro (by kernel_rfl) ?_⟩
    refine forkD (fun g => ?_) (fun g => ?_)
    · have g' : i ≤ j := by have : (i : Int) ≤ (j : Int) := g; omega
      have bj : (0 : Int) ≤ (j : Nat) ∧ ((j : Nat) : Int) < (R0.length : Nat) := by omega
      have hjR : j < R.length := by omega
      repeat first | refine same ?_ | refine Ob.intro bj ?_ | refine Ob.intro ba ?_ | refine optK_intro (rd_us rfl (ofs j) (atN_some hjR)) ?_ | refine optK_intro (rd_us rfl (ofs a) (atN_some haR)) ?_
      refine callP (lessU_ok _ _) rfl rfl ?_
      refine forkD (fun q => ?_) (fun q => ?_)
      · have q' : atN R j < atN R a := by have : ((atN R j : Nat) : Int) < ((atN R a : Nat) : Int) := q; omega
        repeat refine same ?_
        exact hK1 ⟨⟨⟨i, j, R, h1, h2, h3, so, lo, hi, hf⟩, e1⟩, fun _ => q'⟩ [] [0] _ ⟨⟨rfl, rfl, rfl, rfl, True.intro⟩, ⟨.inl (by rw [renO_us]; rfl), True.intro⟩, rfl, rfl, rfl⟩
      · have q' : atN R a ≤ atN R j := by have : ¬ ((atN R j : Nat) : Int) < ((atN R a : Nat) : Int) := q; omega
        have ej : wrp .i64 ((j : Int) - 1) = ((j - 1 : Nat) : Int) := by rw [wid (by omega)]; omega
        repeat refine same ?_
        exact hK ⟨⟨i, j - 1, R, by omega, by omega, by omega, so, lo, fun k k1 k2 => if e : k = j then by rw [e]; exact q' else hi k (by omega) k2, by omega⟩, fun h => e1 (by omega)⟩ [0] _ (show j + 1 - i = j - 1 + 1 - i + 1 by omega) ⟨⟨rfl, rfl, rfl, congrArg i64 ej, True.intro⟩, ⟨.inl (by rw [renO_us]; rfl), True.intro⟩, rfl, rfl, rfl⟩
    · repeat refine same ?_
      exact hK1 ⟨⟨⟨i, j, R, h1, h2, h3, so, lo, hi, hf⟩, e1⟩, fun h => absurd (Int.ofNat_le.2 h) g⟩ [] [0] _ ⟨⟨rfl, rfl, rfl, rfl, True.intro⟩, ⟨.inl (by rw [renO_us]; rfl), True.intro⟩, rfl, rfl, rfl⟩
  have hend := fun h => pt_end zR h hab hb
  have hlen := zR.so.len
  have h3 := zR.h3
  have h1 := zR.h1
  have h2 := zR.h2
  have bj : (0 : Int) ≤ (zR.j : Nat) ∧ ((zR.j : Nat) : Int) < (R0.length : Nat) := by omega
  have hjR : zR.j < zR.R.length := by omega
  have haR2 : a < zR.R.length := by omega
  refine forkD (fun g => ?_) (fun g => ?_)
  · have g' : ¬ zR.i ≤ zR.j := by have : (zR.i : Int) > (zR.j : Int) := g; omega
    obtain ⟨f1, f2, f3, f4⟩ := hend g'
    refine ⟨[0, 0, 0, 0, 0, 0, 0, 0, 0, 0, 0, 0, 0, 1, 1, 2], [[], [], [], [], [], [], [4, 5], [4, 5, 6], [], [], [8, 9], [8, 9, 10], [0, 1, 4, 5, 6, 7, 8, 9, 10, 11], [0, 1, 4, 5, 6, 7, 8, 9, 10, 11, 12], [0, 1, 2, 3, 4, 5, 6, 7, 8, 9, 10, 11, 12, 13], [0, 1, 2, 3, 4, 5, 6, 7, 8, 9, 10, 11, 12, 13, 14]], [0, 0, 0, 0, 0, 0, 0, 0, 0, 0, 0, 0, 0, 0, 0, 0], [13, 15], [[0], [11], [0], [1], [0], [1], [70, 71], [72], [0], [11], [74, 75], [76], [66, 67], [78, 73], [68, 69], [79, 77]], Ob.intro (by kernel_rfl) ?_⟩
    repeat first | refine same ?_ | refine Ob.intro bj ?_ | refine Ob.intro ba ?_ | refine optK_intro (rd_us rfl (ofsW rfl) (atN_some hjR)) ?_ | refine optK_intro (rd_us rfl (ofsW rfl) (atN_some haR2)) ?_
    refine wr_us (k := zR.j) (x := _) rfl rfl (ofsW rfl) hjR ?_
    repeat first | refine same ?_ | refine Ob.intro bj ?_ | refine Ob.intro ba ?_
    refine wr_us (k := a) (x := _) rfl rfl (ofsW rfl) (by rw [List.length_set]; exact haR2) ?_
    repeat first | refine same ?_ | refine Ob.intro bj ?_ | refine Ob.intro ba ?_
    exact ⟨rfl, [.row ((swp zR.R zR.j a).map u64n)], .tup [i64 (zR.j : Nat), bo true], ⟨⟨_, rfl, rfl⟩, ⟨.inl rfl, True.intro⟩, Nat.le_refl _, belowH_us _⟩, zR.j, true, _, f1, f2, f3, f4, rfl, rfl⟩
  have g' : zR.i ≤ zR.j := by have : ¬ (zR.i : Int) > (zR.j : Int) := g; omega
  have hiR : zR.i < zR.R.length := by omega
  have bi : (0 : Int) ≤ (zR.i : Nat) ∧ ((zR.i : Nat) : Int) < (R0.length : Nat) := by omega
  have ei : wrp .i64 ((zR.i : Int) + 1) = ((zR.i + 1 : Nat) : Int) := by rw [wid (by omega)]; omega
  have ej : wrp .i64 ((zR.j : Int) - 1) = ((zR.j - 1 : Nat) : Int) := by rw [wid (by omega)]; omega
  refine ⟨[0, 0, 0, 0, 0, 0, 0, 0, 0, 0, 0, 0, 0, 1, 1, 2], [[], [], [], [], [], [], [4, 5], [4, 5, 6], [], [], [8, 9], [8, 9, 10], [0, 1, 4, 5, 6, 7, 8, 9, 10, 11], [0, 1, 4, 5, 6, 7, 8, 9, 10, 11, 12], [0, 1, 2, 3, 4, 5, 6, 7, 8, 9, 10, 11, 12, 13], [0, 1, 2, 3, 4, 5, 6, 7, 8, 9, 10, 11, 12, 13, 14]], [0, 0, 0, 0, 0, 0, 0, 0, 0, 0, 0, 0, 0, 0, 0, 0], [13, 15], [[0], [10], [0], [11], [0], [11], [85, 86], [87], [0], [10], [89, 90], [91], [81, 82], [93, 88], [83, 84], [94, 92]], Ob.intro (by kernel_rfl) ?_⟩
  repeat first | refine same ?_ | refine Ob.intro bi ?_ | refine Ob.intro bj ?_ | refine optK_intro (rd_us rfl (ofsW rfl) (atN_some hiR)) ?_ | refine optK_intro (rd_us rfl (ofsW rfl) (atN_some hjR)) ?_
  refine wr_us (k := zR.i) (x := _) rfl rfl (ofsW rfl) hiR ?_
  repeat first | refine same ?_ | refine Ob.intro bi ?_ | refine Ob.intro bj ?_
  refine wr_us (k := zR.j) (x := _) rfl rfl (ofsW rfl) (by rw [List.length_set]; exact hjR) ?_
  repeat first | refine same ?_ | refine Ob.intro bi ?_ | refine Ob.intro bj ?_
  refine loopI (α := (f : Nat) × Pt R0 a b f) (fun z => [(0, .slc 0 0 R0.length 1), (1, i64 (a : Nat)), (10, i64 (z.2.i : Nat)), (11, i64 (z.2.j : Nat))]) (fun z => [.row (z.2.R.map u64n)]) (fun z => z.1) ⟨b - 1, zR.nx g' hab hb⟩ [0] ⟨⟨rfl, rfl, congrArg i64 ei, congrArg i64 ej, True.intro⟩, ⟨.inl (by rw [renO_us]; rfl), True.intro⟩, rfl, rfl, rfl⟩ ?_
  clear hend hlen h3 h1 h2 bi bj hjR haR2 g g' hiR ei ej zR zL
  rintro ⟨f, z0⟩ K hK
  refine cutI (α := PtL R0 a b f) (fun z => [(0, .slc 0 0 R0.length 1), (1, i64 (a : Nat)), (10, i64 (z.i : Nat)), (11, i64 (z.j : Nat))]) (fun z => [.row (z.R.map u64n)]) [] (fun K1 hK1 => ?_) (fun zL => ?_)
  · clear hK
    refine loopI (α := Pt R0 a b f) (fun z => [(0, .slc 0 0 R0.length 1), (1, i64 (a : Nat)), (10, i64 (z.i : Nat)), (11, i64 (z.j : Nat))]) (fun z => [.row (z.R.map u64n)]) (fun z => z.j + 1 - z.i) z0 [0] ⟨⟨rfl, rfl, rfl, rfl, True.intro⟩, ⟨.inl (by rw [renO_us]; rfl), True.intro⟩, rfl, rfl, rfl⟩ ?_
    rintro ⟨i, j, R, h1, h2, h3, so, lo, hi, hf⟩ K hK
    dsimp only at h1 h2 h3 so lo hi hf ⊢
    have hlen := so.len
    have ba : (0 : Int) ≤ (a : Nat) ∧ ((a : Nat) : Int) < (R0.length : Nat) := by omega
    have haR : a < R.length := by omega
    refine ⟨[0, 0, 0, 0, 0, 0, 0, 0, 0, 0, 0, 0, 1, 1], [[], [], [0, 1], [0, 1, 2], [0, 1, 2, 3], [0, 1, 2, 3], [0, 1, 2, 3, 4, 5], [0, 1, 2, 3, 4, 5, 6], [0, 1, 2, 3], [0, 1, 2, 3], [0, 1, 2, 3, 8, 9], [0, 1, 2, 3, 8, 9, 10], [0, 1, 2, 3, 4, 5, 6, 7, 8, 9, 10, 11], [0, 1, 2, 3, 4, 5, 6, 7, 8, 9, 10, 11, 12]], [0, 0, 0, 0, 0, 0, 0, 0, 0, 0, 0, 0, 0, 0], [12], [[10], [11], [99, 100], [101], [0, 102], [10, 102], [103, 104, 102], [105, 102], [0, 102], [1, 102], [107, 108, 102], [109, 102], [106, 110, 102], [102, 111]], Ob.intro (by kernel_rfl) ?_⟩
    refine forkD (fun g => ?_) (fun g => ?_)
    · have g' : i ≤ j := by have : (i : Int) ≤ (j : Int) := g; omega
      have bi : (0 : Int) ≤ (i : Nat) ∧ ((i : Nat) : Int) < (R0.length : Nat) := by omega
      have hiR : i < R.length := by omega
      repeat first | refine same ?_ | refine Ob.intro bi ?_ | refine Ob.intro ba ?_ | refine optK_intro (rd_us rfl (ofs i) (atN_some hiR)) ?_ | refine optK_intro (rd_us rfl (ofs a) (atN_some haR)) ?_
      refine callP (lessU_ok _ _) rfl rfl ?_
      refine forkD (fun q => ?_) (fun q => ?_)
      · have q' : atN R i < atN R a := by have : ((atN R i : Nat) : Int) < ((atN R a : Nat) : Int) := q; omega
        have ei : wrp .i64 ((i : Int) + 1) = ((i + 1 : Nat) : Int) := by rw [wid (by omega)]; omega
        repeat refine same ?_
        exact hK ⟨i + 1, j, R, by omega, by omega, h3, so, fun k k1 k2 => if e : k = i then by rw [e]; exact q' else lo k k1 (by omega), hi, by omega⟩ [0] _ (show j + 1 - i = j + 1 - (i + 1) + 1 by omega) ⟨⟨rfl, rfl, congrArg i64 ei, rfl, True.intro⟩, ⟨.inl (by rw [renO_us]; rfl), True.intro⟩, rfl, rfl, rfl⟩
      · have q' : atN R a ≤ atN R i := by have : ¬ ((atN R i : Nat) : Int) < ((atN R a : Nat) : Int) := q; omega
        repeat refine same ?_
        exact hK1 ⟨⟨i, j, R, h1, h2, h3, so, lo, hi, hf⟩, fun _ => q'⟩ [] [0] _ ⟨⟨rfl, rfl, rfl, rfl, True.intro⟩, ⟨.inl (by rw [renO_us]; rfl), True.intro⟩, rfl, rfl, rfl⟩
    · repeat refine same ?_
      exact hK1 ⟨⟨i, j, R, h1, h2, h3, so, lo, hi, hf⟩, fun h => absurd (Int.ofNat_le.2 h) g⟩ [] [0] _ ⟨⟨rfl, rfl, rfl, rfl, True.intro⟩, ⟨.inl (by rw [renO_us]; rfl), True.intro⟩, rfl, rfl, rfl⟩
  refine cutI (α := PtR R0 a b f) (fun z => [(0, .slc 0 0 R0.length 1), (1, i64 (a : Nat)), (10, i64 (z.i : Nat)), (11, i64 (z.j : Nat))]) (fun z => [.row (z.R.map u64n)]) [] (fun K1 hK1 => ?_) (fun zR => ?_)
  · clear hK
    refine loopI (α := PtL R0 a b f) (fun z => [(0, .slc 0 0 R0.length 1), (1, i64 (a : Nat)), (10, i64 (z.i : Nat)), (11, i64 (z.j : Nat))]) (fun z => [.row (z.R.map u64n)]) (fun z => z.j + 1 - z.i) zL [0] ⟨⟨rfl, rfl, rfl, rfl, True.intro⟩, ⟨.inl (by rw [renO_us]; rfl), True.intro⟩, rfl, rfl, rfl⟩ ?_
    rintro ⟨⟨i, j, R, h1, h2, h3, so, lo, hi, hf⟩, e1⟩ K hK
    dsimp only at h1 h2 h3 so lo hi hf e1 ⊢
    have hlen := so.len
    have ba : (0 : Int) ≤ (a : Nat) ∧ ((a : Nat) : Int) < (R0.length : Nat) := by omega
    have haR : a < R.length := by omega
    refine ⟨[0, 0, 0, 0, 0, 0, 0, 0, 0, 0, 0, 0, 1, 1, 1], [[], [], [0, 1], [0, 1, 2], [0, 1, 2, 3], [0, 1, 2, 3], [0, 1, 2, 3, 4, 5], [0, 1, 2, 3, 4, 5, 6], [0, 1, 2, 3], [0, 1, 2, 3], [0, 1, 2, 3, 8, 9], [0, 1, 2, 3, 8, 9, 10], [0, 1, 2, 3, 4, 5, 6, 7, 8, 9, 10, 11], [0, 1, 2, 3, 4, 5, 6, 7, 8, 9, 10, 11, 12], [0, 1, 2, 3, 4, 5, 6, 7, 8, 9, 10, 11, 12, 13]], [0, 0, 0, 0, 0, 0, 0, 0, 0, 0, 0, 0, 0, 0, 0], [12], [[10], [11], [115, 116], [117], [0, 118], [11, 118], [119, 120, 118], [121, 118], [0, 118], [1, 118], [123, 124, 118], [125, 118], [122, 126, 118], [127, 118], [118, 128]], Ob.intro (by kernel_rfl) ?_⟩
    refine forkD (fun g => ?_) (fun g => ?_)
    · have g' : i ≤ j := by have : (i : Int) ≤ (j : Int) := g; omega
      have bj : (0 : Int) ≤ (j : Nat) ∧ ((j : Nat) : Int) < (R0.length : Nat) := by omega
      have hjR : j < R.length := by omega
      repeat first | refine same ?_ | refine Ob.intro bj ?_ | refine Ob.intro ba ?_ | refine optK_intro (rd_us rfl (ofs j) (atN_some hjR)) ?_ | refine optK_intro (rd_us rfl (ofs a) (atN_some haR)) ?_
      refine callP (lessU_ok _ _) rfl rfl ?_
      refine forkD (fun q => ?_) (fun q => ?_)
      · have q' : atN R j < atN R a := by have : ((atN R j : Nat) : Int) < ((atN R a : Nat) : Int) := q; omega
        repeat refine same ?_
        exact hK1 ⟨⟨⟨i, j, R, h1, h2, h3, so, lo, hi, hf⟩, e1⟩, fun _ => q'⟩ [] [0] _ ⟨⟨rfl, rfl, rfl, rfl, True.intro⟩, ⟨.inl (by rw [renO_us]; rfl), True.intro⟩, rfl, rfl, rfl⟩
      · have q' : atN R a ≤ atN R j := by have : ¬ ((atN R j : Nat) : Int) < ((atN R a : Nat) : Int) := q; omega
        have ej : wrp .i64 ((j : Int) - 1) = ((j - 1 : Nat) : Int) := by rw [wid (by omega)]; omega
        repeat refine same ?_
        exact hK ⟨⟨i, j - 1, R, by omega, by omega, by omega, so, lo, fun k k1 k2 => if e : k = j then by rw [e]; exact q' else hi k (by omega) k2, by omega⟩, fun h => e1 (by omega)⟩ [0] _ (show j + 1 - i = j - 1 + 1 - i + 1 by omega) ⟨⟨rfl, rfl, rfl, congrArg i64 ej, True.intro⟩, ⟨.inl (by rw [renO_us]; rfl), True.intro⟩, rfl, rfl, rfl⟩
    · repeat refine same ?_
      exact hK1 ⟨⟨⟨i, j, R, h1, h2, h3, so, lo, hi, hf⟩, e1⟩, fun h => absurd (Int.ofNat_le.2 h) g⟩ [] [0] _ ⟨⟨rfl, rfl, rfl, rfl, True.intro⟩, ⟨.inl (by rw [renO_us]; rfl), True.intro⟩, rfl, rfl, rfl⟩
  have hend := fun h => pt_end zR h hab hb
  have hlen := zR.so.len
  have h3 := zR.h3
  have h1 := zR.h1
  have h2 := zR.h2
  have hf := zR.hf
  have bj : (0 : Int) ≤ (zR.j : Nat) ∧ ((zR.j : Nat) : Int) < (R0.length : Nat) := by omega
  have hjR : zR.j < zR.R.length := by omega
  have haR2 : a < zR.R.length := by omega
  refine forkD (fun g => ?_) (fun g => ?_)
  · have g' : ¬ zR.i ≤ zR.j := by have : (zR.i : Int) > (zR.j : Int) := g; omega
    obtain ⟨f1, f2, f3, f4⟩ := hend g'
    refine ⟨[0, 0, 0, 0, 0, 0, 0, 0, 0, 0, 0, 0, 0, 1, 1, 2], [[], [], [], [], [], [], [4, 5], [4, 5, 6], [], [], [8, 9], [8, 9, 10], [0, 1, 4, 5, 6, 7, 8, 9, 10, 11], [0, 1, 4, 5, 6, 7, 8, 9, 10, 11, 12], [0, 1, 2, 3, 4, 5, 6, 7, 8, 9, 10, 11, 12, 13], [0, 1, 2, 3, 4, 5, 6, 7, 8, 9, 10, 11, 12, 13, 14]], [0, 0, 0, 0, 0, 0, 0, 0, 0, 0, 0, 0, 0, 0, 0, 0], [13, 15], [[0], [11], [0], [1], [0], [1], [157, 158], [159], [0], [11], [161, 162], [163], [153, 154], [165, 160], [155, 156], [166, 164]], Ob.intro (by kernel_rfl) ?_⟩
    repeat first | refine same ?_ | refine Ob.intro bj ?_ | refine Ob.intro ba ?_ | refine optK_intro (rd_us rfl (ofsW rfl) (atN_some hjR)) ?_ | refine optK_intro (rd_us rfl (ofsW rfl) (atN_some haR2)) ?_
    refine wr_us (k := zR.j) (x := _) rfl rfl (ofsW rfl) hjR ?_
    repeat first | refine same ?_ | refine Ob.intro bj ?_ | refine Ob.intro ba ?_
    refine wr_us (k := a) (x := _) rfl rfl (ofsW rfl) (by rw [List.length_set]; exact haR2) ?_
    repeat first | refine same ?_ | refine Ob.intro bj ?_ | refine Ob.intro ba ?_
    exact ⟨rfl, [.row ((swp zR.R zR.j a).map u64n)], .tup [i64 (zR.j : Nat), bo false], ⟨⟨_, rfl, rfl⟩, ⟨.inl rfl, True.intro⟩, Nat.le_refl _, belowH_us _⟩, zR.j, false, _, f1, f2, f3, f4, rfl, rfl⟩
  have g' : zR.i ≤ zR.j := by have : ¬ (zR.i : Int) > (zR.j : Int) := g; omega
  have hiR : zR.i < zR.R.length := by omega
  have bi : (0 : Int) ≤ (zR.i : Nat) ∧ ((zR.i : Nat) : Int) < (R0.length : Nat) := by omega
  have ei : wrp .i64 ((zR.i : Int) + 1) = ((zR.i + 1 : Nat) : Int) := by rw [wid (by omega)]; omega
  have ej : wrp .i64 ((zR.j : Int) - 1) = ((zR.j - 1 : Nat) : Int) := by rw [wid (by omega)]; omega
  refine ⟨[0, 0, 0, 0, 0, 0, 0, 0, 0, 0, 0, 0, 0, 1, 1, 2], [[], [], [], [], [], [], [4, 5], [4, 5, 6], [], [], [8, 9], [8, 9, 10], [0, 1, 4, 5, 6, 7, 8, 9, 10, 11], [0, 1, 4, 5, 6, 7, 8, 9, 10, 11, 12], [0, 1, 2, 3, 4, 5, 6, 7, 8, 9, 10, 11, 12, 13], [0, 1, 2, 3, 4, 5, 6, 7, 8, 9, 10, 11, 12, 13, 14]], [0, 0, 0, 0, 0, 0, 0, 0, 0, 0, 0, 0, 0, 0, 0, 0], [13, 15], [[0], [10], [0], [11], [0], [11], [139, 140], [141], [0], [10], [143, 144], [145], [135, 136], [147, 142], [137, 138], [148, 146]], Ob.intro (by kernel_rfl) ?_⟩
  repeat first | refine same ?_ | refine Ob.intro bi ?_ | refine Ob.intro bj ?_ | refine optK_intro (rd_us rfl (ofsW rfl) (atN_some hiR)) ?_ | refine optK_intro (rd_us rfl (ofsW rfl) (atN_some hjR)) ?_
  refine wr_us (k := zR.i) (x := _) rfl rfl (ofsW rfl) hiR ?_
  repeat first | refine same ?_ | refine Ob.intro bi ?_ | refine Ob.intro bj ?_
  refine wr_us (k := zR.j) (x := _) rfl rfl (ofsW rfl) (by rw [List.length_set]; exact hjR) ?_
  repeat first | refine same ?_ | refine Ob.intro bi ?_ | refine Ob.intro bj ?_
  exact hK ⟨f - 1, zR.nx g' hab hb⟩ [0] _ (show f = f - 1 + 1 by omega) ⟨⟨rfl, rfl, congrArg i64 ei, congrArg i64 ej, True.intro⟩, ⟨.inl (by rw [renO_us]; rfl), True.intro⟩, rfl, rfl, rfl⟩
end Go.Proofs.Ytmfifbclldnpkaa.A
