/- sorting numbers: rows that are written, insertion. No condition. -/
import Derived.Test.YtmfifbclldnpkaaLb
namespace Go.Proofs.Ytmfifbclldnpkaa.A
open Go
set_option linter.unusedVariables false
set_option maxRecDepth 100000
set_option pp.maxSteps 1500

theorem rd_us {H : Heap} {p off k x : Nat} {R : List Nat} (h : nth H p = some (.row (R.map u64n))) (hk : off = k) (hx : R[k]? = some x) : rd1 H p off = some (u64n x) := by
  subst hk
  unfold rd1
  rw [h]
  show nth (R.map u64n) off = _
  rw [nth_eq, List.getElem?_map, hx]
  rfl
theorem wr_us {K : Heap → Prop} {H : Heap} {p off k : Nat} {l : List AV} {R : List Nat} {x : Nat} (h : nth H p = some (.row (R.map u64n))) (hx : l = [u64n x]) (hk : off = k) (hl : k < R.length) (q : K (H.set p (.row ((R.set k x).map u64n)))) : optK (wr H p off l) K := by
  subst hx hk
  refine optK_intro (wr_eq h (by rw [List.length_map]; exact hl)) ?_
  have e : setAll (R.map u64n) off [u64n x] = (R.set off x).map u64n := by
    rw [List.map_set]
    rfl
  rw [e]
  exact q
/-- The number at a place. -/
def atN (R : List Nat) (k : Nat) : Nat := R.getD k 0
theorem atN_some {R : List Nat} {k : Nat} (h : k < R.length) : R[k]? = some (atN R k) := by
  unfold atN
  rw [List.getD_eq_getElem?_getD, List.getElem?_eq_getElem h]
  rfl
/-- Two places changed for one another. -/
def swp (R : List Nat) (i j : Nat) : List Nat := (R.set i (atN R j)).set j (atN R i)
theorem swp_len (R : List Nat) (i j : Nat) : (swp R i j).length = R.length := by unfold swp; rw [List.length_set, List.length_set]
theorem swp_at {R : List Nat} {i j : Nat} (hi : i < R.length) (hj : j < R.length) (k : Nat) : atN (swp R i j) k = if k = j then atN R i else if k = i then atN R j else atN R k := by
  unfold swp
  show List.getD _ k 0 = _
  rw [List.getD_eq_getElem?_getD, List.getElem?_set]
  by_cases h1 : k = j
  · subst h1
    rw [if_pos rfl, if_pos rfl, if_pos (by rw [List.length_set]; exact hj)]
    rfl
  · rw [if_neg (Ne.symm h1), if_neg h1, List.getElem?_set]
    by_cases h2 : k = i
    · subst h2
      rw [if_pos rfl, if_pos rfl, if_pos hi]
      rfl
    · rw [if_neg (Ne.symm h2), if_neg h2]
      rw [← List.getD_eq_getElem?_getD]
      rfl
theorem swp_perm {R : List Nat} {i j : Nat} (hi : i < R.length) (hj : j < R.length) : (swp R i j).Perm R := by
  have h1 : atN R i = R[i] := by unfold atN; rw [List.getD_eq_getElem?_getD, List.getElem?_eq_getElem hi]; rfl
  have h2 : atN R j = R[j] := by unfold atN; rw [List.getD_eq_getElem?_getD, List.getElem?_eq_getElem hj]; rfl
  unfold swp
  rw [h1, h2]
  exact List.set_set_perm hi hj
/-- As many of each, and as it was outside of a, b. -/
structure SO (a b : Nat) (R R' : List Nat) : Prop where
  len : R'.length = R.length
  perm : R'.Perm R
  out : ∀ k, k < a ∨ b ≤ k → atN R' k = atN R k
theorem SO.refl (a b : Nat) (R : List Nat) : SO a b R R := ⟨rfl, .refl _, fun _ _ => rfl⟩
theorem SO.trans {a b : Nat} {R S T : List Nat} (h : SO a b R S) (k : SO a b S T) : SO a b R T := ⟨k.len.trans h.len, k.perm.trans h.perm, fun i hi => (k.out i hi).trans (h.out i hi)⟩
theorem SO.wide {a b c d : Nat} {R S : List Nat} (h : SO a b R S) (h1 : c ≤ a) (h2 : b ≤ d) : SO c d R S := ⟨h.len, h.perm, fun k hk => h.out k (by omega)⟩
theorem SO.swp {a b i j : Nat} {R : List Nat} (hi : i < R.length) (hj : j < R.length) (h1 : a ≤ i ∧ i < b) (h2 : a ≤ j ∧ j < b) : SO a b R (swp R i j) :=
  ⟨swp_len R i j, swp_perm hi hj, fun k hk => by rw [swp_at hi hj, if_neg (by omega), if_neg (by omega)]⟩
/-- It doesn't fall in a, b. -/
def SI (a b : Nat) (R : List Nat) : Prop := ∀ i j, a ≤ i → i < j → j < b → atN R i ≤ atN R j
structure InsO (R0 : List Nat) (a b : Nat) where
  i : Nat
  R : List Nat
  h1 : a + 1 ≤ i
  h2 : i ≤ b ∨ i = a + 1
  so : SO a b R0 R
  si : SI a i R
structure InsI (R0 : List Nat) (a b i : Nat) where
  j : Nat
  R : List Nat
  h1 : a ≤ j
  h2 : j ≤ i
  so : SO a b R0 R
  si : ∀ p q, a ≤ p → p < q → q ≤ i → q ≠ j → atN R p ≤ atN R q
theorem belowH_us (R : List Nat) : belowH 1 [.row (R.map u64n)] = true := by
  have h : ∀ l : List Nat, belowL 1 (l.map u64n) = true := fun l => by
    induction l with
    | nil => rfl
    | cons x l ih => show (bif below 1 (u64n x) then belowL 1 (l.map u64n) else false) = true; rw [ih]; rfl
  simp only [belowH, belowO, h]
  rfl
theorem insert_ok (R0 : List Nat) (a b : Nat) (hab : a ≤ b) (hb : b ≤ R0.length) (hn : R0.length < 4611686018427387904) :
    ACalls Try.prog 49 [.slc 0 0 R0.length 1, i64 (a : Nat), i64 (b : Nat)] [.row (R0.map u64n)] (fun E G => ∃ R, SO a b R0 R ∧ SI a b R ∧ E = .ret (.tup []) ∧ G = [.row (R.map u64n)]) := by
  have hinca : wrp .i64 ((a : Int) + 1) = ((a + 1 : Nat) : Int) := by rw [wrpE, wi64]; omega
  refine acalls_of_awp hT mixed Try.func49 rfl (by kernel_rfl) (by kernel_rfl) (Nat.le_of_ble_eq_true rfl) ?_
  refine loopI (α := InsO R0 a b) (fun z => [(0, .slc 0 0 R0.length 1), (1, i64 (a : Nat)), (2, i64 (b : Nat)), (6, i64 (z.i : Nat))]) (fun z => [.row (z.R.map u64n)]) (fun z => b - z.i) ⟨a + 1, R0, Nat.le_refl _, .inr rfl, SO.refl .., fun i j _ _ _ => by omega⟩ [0]
    ⟨⟨rfl, rfl, rfl, congrArg i64 hinca, True.intro⟩, ⟨.inl (by rw [renO_us]; rfl), True.intro⟩, rfl, rfl, rfl⟩ ?_
  rintro ⟨i, R, h1, h2, so, si⟩ K hK
  have hlen := so.len
  have hinc : i < b → wrp .i64 ((i : Int) + 1) = ((i + 1 : Nat) : Int) := fun h => by rw [wrpE, wi64]; omega
  refine forkD (fun h => ?_) (fun h => ?_)
  · have h' : i < b := by have : (i : Int) < (b : Int) := h; omega
    refine loopI (α := InsI R0 a b i) (fun z => [(0, .slc 0 0 R0.length 1), (1, i64 (a : Nat)), (2, i64 (b : Nat)), (6, i64 (i : Nat)), (7, i64 (z.j : Nat))]) (fun z => [.row (z.R.map u64n)]) (fun z => z.j - a) ⟨i, R, by omega, Nat.le_refl _, so, fun p q h1 h2 h3 h4 => si p q h1 h2 (by omega)⟩ [0]
      ⟨⟨rfl, rfl, rfl, rfl, rfl, True.intro⟩, ⟨.inl (by rw [renO_us]; rfl), True.intro⟩, rfl, rfl, rfl⟩ ?_
    rintro ⟨j, R2, j1, j2, so2, si2⟩ K2 hK2
    have hlen2 := so2.len
    have hdec : a < j → wrp .i64 ((j : Int) - 1) = ((j - 1 : Nat) : Int) := fun h => by rw [wrpE, wi64]; omega
    have hxj := atN_some (show j < R2.length by omega)
    have hxp := atN_some (show j - 1 < R2.length by omega)
    have exit : (∀ p q, a ≤ p → p < q → q < i + 1 → atN R2 p ≤ atN R2 q) → SI a (i + 1) R2 := fun h p q h1 h2 h3 => h p q h1 h2 h3
    refine ⟨[0, 0, 0, 0, 0, 0, 0, 0, 0, 0, 0, 0, 0, 1, 1], [[], [], [0, 1], [0, 1, 2], [0, 1, 2, 3], [0, 1, 2, 3], [0, 1, 2, 3, 4, 5], [0, 1, 2, 3, 4, 5, 6], [0, 1, 2, 3], [0, 1, 2, 3], [0, 1, 2, 3, 9], [0, 1, 2, 3, 8, 9, 10], [0, 1, 2, 3, 8, 9, 10, 11], [0, 1, 2, 3, 4, 5, 6, 7, 8, 9, 10, 11, 12], [0, 1, 2, 3, 4, 5, 6, 7, 8, 9, 10, 11, 12, 13]], [0, 0, 0, 0, 0, 0, 0, 0, 0, 0, 0, 0, 0, 0, 0], [13], [[7], [1], [16, 17], [18], [0, 19], [7, 19], [20, 21, 19], [22, 19], [0, 19], [7, 19], [25, 19], [24, 26, 19], [27, 19], [23, 28, 19], [19, 29]], Ob.intro (by kernel_rfl) ?_⟩
    refine forkD (fun g => ?_) (fun g => ?_)
    · have g' : a < j := by have : (j : Int) > (a : Int) := g; omega
      have hb1 : (0 : Int) ≤ (j : Nat) ∧ ((j : Nat) : Int) < (R0.length : Nat) := by omega
      have hb2 : (0 : Int) ≤ wrp .i64 ((j : Int) - 1) ∧ wrp .i64 ((j : Int) - 1) < (R0.length : Nat) := by rw [hdec g']; omega
      refine Ob.intro hb1 ?_
      refine optK_intro (rd_us rfl (ofs j) hxj) ?_
      refine Ob.intro hb2 ?_
      refine optK_intro (rd_us rfl (ofsW (hdec g')) hxp) ?_
      repeat first | refine same ?_ | refine optK_intro (rd_us rfl (ofs j) hxj) ?_ | refine optK_intro (rd_us rfl (ofsW (hdec g')) hxp) ?_
      refine callP (lessU_ok _ _) rfl rfl ?_
      refine forkD (fun q => ?_) (fun q => ?_)
      · have q' : atN R2 j < atN R2 (j - 1) := by have : ((atN R2 j : Nat) : Int) < ((atN R2 (j - 1) : Nat) : Int) := q; omega
        repeat first | refine same ?_ | refine optK_intro (rd_us rfl (ofs j) hxj) ?_ | refine optK_intro (rd_us rfl (ofsW (hdec g')) hxp) ?_
        refine ⟨[0, 0, 0, 0, 0, 0, 0, 0, 0, 0, 0, 0, 0, 0, 0, 1, 1, 2], [[], [], [], [], [3], [], [], [6], [5, 6, 7], [5, 6, 7, 8], [], [], [10, 11], [10, 11, 12], [0, 1, 5, 6, 7, 8, 9, 10, 11, 12, 13], [0, 1, 5, 6, 7, 8, 9, 10, 11, 12, 13, 14], [0, 1, 2, 3, 4, 5, 6, 7, 8, 9, 10, 11, 12, 13, 14, 15], [0, 1, 2, 3, 4, 5, 6, 7, 8, 9, 10, 11, 12, 13, 14, 15, 16]], [0, 0, 0, 0, 0, 0, 0, 0, 0, 0, 0, 0, 0, 0, 0, 0, 0, 0], [15, 17], [[0], [7], [0], [7], [36], [0], [7], [39], [38, 40], [41], [0], [7], [43, 44], [45], [33, 34], [47, 42], [35, 37], [48, 46]], Ob.intro (by kernel_rfl) ?_⟩
        repeat first | refine same ?_ | refine Ob.intro hb1 ?_ | refine Ob.intro hb2 ?_ | refine optK_intro (rd_us rfl (ofs j) hxj) ?_ | refine optK_intro (rd_us rfl (ofsW (hdec g')) hxp) ?_
        refine wr_us (k := j) (x := atN R2 (j - 1)) rfl rfl (ofs j) (show j < R2.length by omega) ?_
        repeat first | refine same ?_ | refine Ob.intro hb1 ?_ | refine Ob.intro hb2 ?_
        refine wr_us (k := j - 1) (x := atN R2 j) rfl rfl (ofsW (hdec g')) (show j - 1 < (R2.set j (atN R2 (j - 1))).length by rw [List.length_set]; omega) ?_
        repeat first | refine same ?_ | refine Ob.intro hb1 ?_ | refine Ob.intro hb2 ?_
        have hj : j < R2.length := by omega
        have hj1 : j - 1 < R2.length := by omega
        refine hK2 ⟨j - 1, swp R2 j (j - 1), by omega, by omega, so2.trans (SO.swp hj hj1 (by omega) (by omega)), fun u v p1 p2 p3 p4 => ?_⟩ [0] _ (show j - a = j - 1 - a + 1 by omega) ⟨⟨rfl, rfl, rfl, rfl, congrArg i64 (hdec g'), True.intro⟩, ⟨.inl (by rw [renO_us]; rfl), True.intro⟩, rfl, rfl, rfl⟩
        rw [swp_at hj hj1, swp_at hj hj1]
        have s1 := si2 u v p1 p2 p3
        have s2 := si2 u (j - 1) p1
        have s3 := si2 j v (by omega)
        have s4 := si2 (j - 1) v (by omega)
        by_cases e1 : v = j
        · subst e1
          rw [if_neg (show ¬ v = v - 1 by omega), if_pos rfl]
          by_cases e2 : u = v - 1
          · rw [if_pos e2]; omega
          · rw [if_neg e2, if_neg (by omega)]
            exact s2 (by omega) (by omega) (by omega)
        · rw [if_neg p4, if_neg e1]
          by_cases e2 : u = j - 1
          · rw [if_pos e2]
            exact s3 (by omega) p3 e1
          · rw [if_neg e2]
            by_cases e3 : u = j
            · rw [if_pos e3]
              exact s4 (by omega) p3 e1
            · rw [if_neg e3]
              exact s1 e1
      · have q' : ¬ atN R2 j < atN R2 (j - 1) := by have : ¬ ((atN R2 j : Nat) : Int) < ((atN R2 (j - 1) : Nat) : Int) := q; omega
        repeat first | refine same ?_ | refine optK_intro (rd_us rfl (ofs j) hxj) ?_ | refine optK_intro (rd_us rfl (ofsW (hdec g')) hxp) ?_
        refine hK ⟨i + 1, R2, by omega, .inl h', so2, fun u v p1 p2 p3 => ?_⟩ [0] _ (show b - i = b - (i + 1) + 1 by omega) ⟨⟨rfl, rfl, rfl, congrArg i64 (hinc h'), True.intro⟩, ⟨.inl (by rw [renO_us]; rfl), True.intro⟩, rfl, rfl, rfl⟩
        by_cases e1 : v = j
        · subst e1
          by_cases e2 : u = v - 1
          · rw [e2]; omega
          · exact Nat.le_trans (si2 u (v - 1) p1 (by omega) (by omega) (by omega)) (by omega)
        · exact si2 u v p1 p2 (by omega) e1
    · have g' : j = a := by have : ¬ (j : Int) > (a : Int) := g; omega
      repeat refine same ?_
      refine hK ⟨i + 1, R2, by omega, .inl h', so2, fun p q p1 p2 p3 => si2 p q p1 p2 (by omega) (by omega)⟩ [0] _ (show b - i = b - (i + 1) + 1 by omega) ⟨⟨rfl, rfl, rfl, congrArg i64 (hinc h'), True.intro⟩, ⟨.inl (by rw [renO_us]; rfl), True.intro⟩, rfl, rfl, rfl⟩
  · have h' : ¬ i < b := by have : ¬ (i : Int) < (b : Int) := h; omega
    refine ⟨rfl, [.row (R.map u64n)], .tup [], ⟨⟨_, rfl, rfl⟩, ⟨.inl rfl, True.intro⟩, Nat.le_refl _, belowH_us R⟩, R, so, fun p q p1 p2 p3 => si p q p1 p2 (by omega), rfl, rfl⟩
end Go.Proofs.Ytmfifbclldnpkaa.A
