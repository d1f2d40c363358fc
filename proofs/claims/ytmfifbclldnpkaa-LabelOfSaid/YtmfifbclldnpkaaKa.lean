/- sorting many: plain law of rows; reversing, pivots, patterns. No condition. -/
import Derived.Test.YtmfifbclldnpkaaLm
namespace Go.Proofs.Ytmfifbclldnpkaa.A
open Go
set_option linter.unusedVariables false
set_option linter.unusedSimpArgs false
set_option maxRecDepth 100000
set_option pp.maxSteps 600

theorem wid {z : Int} (h : -9223372036854775808 ≤ z ∧ z ≤ 9223372036854775807) : wrp .i64 z = z := by rw [wrpE, wi64]; omega
theorem ext_atN {R S : List Nat} (hl : R.length = S.length) (h : ∀ k, k < R.length → atN R k = atN S k) : R = S := by
  refine List.ext_getElem? fun k => ?_
  by_cases hk : k < R.length
  · rw [atN_some hk, atN_some (by omega), h k hk]
  · rw [List.getElem?_eq_none (by omega), List.getElem?_eq_none (by omega)]
theorem atN_drop (R : List Nat) (a k : Nat) : atN (R.drop a) k = atN R (a + k) := by
  unfold atN
  rw [List.getD_eq_getElem?_getD, List.getD_eq_getElem?_getD, List.getElem?_drop]
theorem atN_take {R : List Nat} {b k : Nat} (h : k < b) : atN (R.take b) k = atN R k := by
  unfold atN
  rw [List.getD_eq_getElem?_getD, List.getD_eq_getElem?_getD, List.getElem?_take_of_lt h]
/-- What stands between, of a row that was changed there alone. -/
theorem SO.mid {a b : Nat} {R S : List Nat} (h : SO a b R S) (hab : a ≤ b) (hb : b ≤ R.length) : ((S.drop a).take (b - a)).Perm ((R.drop a).take (b - a)) := by
  have hl := h.len
  have e1 : S.take a = R.take a := ext_atN (by rw [List.length_take, List.length_take, hl]) fun k hk => by
    rw [List.length_take] at hk
    rw [atN_take (by omega), atN_take (by omega), h.out k (.inl (by omega))]
  have e2 : S.drop b = R.drop b := ext_atN (by rw [List.length_drop, List.length_drop, hl]) fun k hk => by
    rw [atN_drop, atN_drop, h.out (b + k) (.inr (by omega))]
  have sp : ∀ T : List Nat, T = T.take a ++ ((T.drop a).take (b - a) ++ T.drop b) := fun T => by
    have : T.drop b = (T.drop a).drop (b - a) := by rw [List.drop_drop]; congr 1; omega
    rw [this, List.take_append_drop, List.take_append_drop]
  have hp := h.perm
  rw [sp S, sp R, e1, e2] at hp
  exact (List.perm_append_right_iff _).1 ((List.perm_append_left_iff _).1 hp)
theorem mem_mid {R : List Nat} {a b x : Nat} (hb : b ≤ R.length) : x ∈ (R.drop a).take (b - a) ↔ ∃ k, a ≤ k ∧ k < b ∧ atN R k = x := by
  rw [List.mem_iff_getElem?]
  constructor
  · rintro ⟨i, hi⟩
    obtain ⟨h1, _⟩ := List.getElem?_eq_some_iff.1 hi
    rw [List.length_take, List.length_drop] at h1
    rw [List.getElem?_take_of_lt (by omega), List.getElem?_drop, atN_some (by omega)] at hi
    cases hi
    exact ⟨a + i, by omega, by omega, rfl⟩
  · rintro ⟨k, h1, h2, rfl⟩
    refine ⟨k - a, ?_⟩
    rw [List.getElem?_take_of_lt (by omega), List.getElem?_drop, show a + (k - a) = k by omega, atN_some (by omega)]
theorem SO.all {a b : Nat} {R S : List Nat} (h : SO a b R S) (hab : a ≤ b) (hb : b ≤ R.length) {P : Nat → Prop} (hP : ∀ k, a ≤ k → k < b → P (atN R k)) : ∀ k, a ≤ k → k < b → P (atN S k) := by
  intro k h1 h2
  have hm : atN S k ∈ (S.drop a).take (b - a) := (mem_mid (by rw [h.len]; exact hb)).2 ⟨k, h1, h2, rfl⟩
  obtain ⟨j, h3, h4, h5⟩ := (mem_mid hb).1 ((h.mid hab hb).mem_iff.1 hm)
  rw [← h5]
  exact hP j h3 h4
/-- Of any two in c, d, of which not both stand in a, b, the first is no greater. -/
def Crs (c d a b : Nat) (R : List Nat) : Prop := ∀ i j, c ≤ i → i < j → j < d → (i < a ∨ b ≤ j) → atN R i ≤ atN R j
/-- None in a, b is less than the one ahead of it. -/
def Low (a b : Nat) (R : List Nat) : Prop := 0 < a → ∀ i, a ≤ i → i < b → atN R (a - 1) ≤ atN R i
theorem Low.so {a b : Nat} {R S : List Nat} (h : Low a b R) (s : SO a b R S) (hab : a ≤ b) (hb : b ≤ R.length) : Low a b S := fun h0 => by
  rw [s.out (a - 1) (.inl (by omega))]
  exact s.all hab hb (P := fun x => atN R (a - 1) ≤ x) (h h0)
theorem Crs.so {c d a b : Nat} {R S : List Nat} (h : Crs c d a b R) (s : SO a b R S) (hab : a ≤ b) (hb : b ≤ R.length) (hca : c ≤ a) (hbd : b ≤ d) : Crs c d a b S := by
  intro i j h1 h2 h3 h4
  have out : ∀ k, k < a ∨ b ≤ k → atN S k = atN R k := s.out
  by_cases hi : i < a
  · rw [out i (.inl hi)]
    by_cases hj : a ≤ j ∧ j < b
    · exact s.all hab hb (P := fun x => atN R i ≤ x) (fun k k1 k2 => h i k h1 (by omega) (by omega) (.inl hi)) j hj.1 hj.2
    · rw [out j (by omega)]
      exact h i j h1 h2 h3 (.inl hi)
  · have hj : b ≤ j := by omega
    rw [out j (.inr hj)]
    by_cases hib : i < b
    · exact s.all hab hb (P := fun x => x ≤ atN R j) (fun k k1 k2 => h k j (by omega) (by omega) h3 (.inr hj)) i (by omega) hib
    · rw [out i (.inr (by omega))]
      exact h i j h1 h2 h3 (.inr hj)
theorem Crs.inn {c d a b a' b' : Nat} {R : List Nat} (h : Crs c d a b R) (k : Crs a b a' b' R) : Crs c d a' b' R := by
  intro i j h1 h2 h3 h4
  by_cases hin : i < a ∨ b ≤ j
  · exact h i j h1 h2 h3 hin
  · exact k i j (by omega) h2 (by omega) h4
theorem Crs.si {c d a b : Nat} {R : List Nat} (h : Crs c d a b R) (k : SI a b R) : SI c d R := by
  intro i j h1 h2 h3
  by_cases hin : i < a ∨ b ≤ j
  · exact h i j h1 h2 h3 hin
  · exact k i j (by omega) h2 (by omega)
theorem Crs.refl (a b : Nat) (R : List Nat) : Crs a b a b R := fun i j h1 h2 h3 h4 => by omega
structure RvSt (R0 : List Nat) (a b : Nat) where
  i : Nat
  j : Nat
  R : List Nat
  h1 : a ≤ i
  h2 : j < b
  h3 : i + j + 1 = a + b
  so : SO a b R0 R
theorem reverse_ok (R0 : List Nat) (a b : Nat) (hab : a < b) (hb : b ≤ R0.length) (hn : R0.length < 4611686018427387904) :
    ACalls Try.prog 53 [.slc 0 0 R0.length 1, i64 (a : Nat), i64 (b : Nat)] [.row (R0.map u64n)] (fun E G => ∃ R, SO a b R0 R ∧ E = .ret (.tup []) ∧ G = [.row (R.map u64n)]) := by
  have hdb : wrp .i64 ((b : Int) - 1) = ((b - 1 : Nat) : Int) := by rw [wid (by omega)]; omega
  refine acalls_of_awp hT mixed Try.func53 rfl (by kernel_rfl) (by kernel_rfl) (Nat.le_of_ble_eq_true rfl) ?_
  refine loopI (α := RvSt R0 a b) (fun z => [(0, .slc 0 0 R0.length 1), (6, i64 (z.i : Nat)), (7, i64 (z.j : Nat))]) (fun z => [.row (z.R.map u64n)]) (fun z => b - z.i) ⟨a, b - 1, R0, Nat.le_refl _, by omega, by omega, SO.refl ..⟩ [0] ⟨⟨rfl, rfl, congrArg i64 hdb, True.intro⟩, ⟨.inl (by rw [renO_us]; rfl), True.intro⟩, rfl, rfl, rfl⟩ ?_
  rintro ⟨i, j, R, h1, h2, h3, so⟩ K hK
  have hlen := so.len
  refine forkD (fun h => ?_) (fun h => ?_)
  · have h' : i < j := by have : (i : Int) < (j : Int) := h; omega
    have hiR : i < R.length := by omega
    have hjR : j < R.length := by omega
    have bi : (0 : Int) ≤ (i : Nat) ∧ ((i : Nat) : Int) < (R0.length : Nat) := by omega
    have bj : (0 : Int) ≤ (j : Nat) ∧ ((j : Nat) : Int) < (R0.length : Nat) := by omega
    have ei : wrp .i64 ((i : Int) + 1) = ((i + 1 : Nat) : Int) := by rw [wid (by omega)]; omega
    have ej : wrp .i64 ((j : Int) - 1) = ((j - 1 : Nat) : Int) := by rw [wid (by omega)]; omega
    refine ⟨[0, 0, 0, 0, 0, 0, 0, 0, 0, 0, 0, 0, 0, 1, 1, 2], [[], [], [], [], [], [], [4, 5], [4, 5, 6], [], [], [8, 9], [8, 9, 10], [0, 1, 4, 5, 6, 7, 8, 9, 10, 11], [0, 1, 4, 5, 6, 7, 8, 9, 10, 11, 12], [0, 1, 2, 3, 4, 5, 6, 7, 8, 9, 10, 11, 12, 13], [0, 1, 2, 3, 4, 5, 6, 7, 8, 9, 10, 11, 12, 13, 14]], [0, 0, 0, 0, 0, 0, 0, 0, 0, 0, 0, 0, 0, 0, 0, 0], [13, 15], [[0], [6], [0], [7], [0], [7], [18, 19], [20], [0], [6], [22, 23], [24], [14, 15], [26, 21], [16, 17], [27, 25]], Ob.intro (by kernel_rfl) ?_⟩
    repeat first | refine same ?_ | refine Ob.intro bi ?_ | refine Ob.intro bj ?_ | refine optK_intro (rd_us rfl (ofsW rfl) (atN_some hiR)) ?_ | refine optK_intro (rd_us rfl (ofsW rfl) (atN_some hjR)) ?_
    refine wr_us (k := i) (x := _) rfl rfl (ofsW rfl) hiR ?_
    repeat first | refine same ?_ | refine Ob.intro bi ?_ | refine Ob.intro bj ?_
    refine wr_us (k := j) (x := _) rfl rfl (ofsW rfl) (by rw [List.length_set]; exact hjR) ?_
    repeat first | refine same ?_ | refine Ob.intro bi ?_ | refine Ob.intro bj ?_
    refine hK ⟨i + 1, j - 1, swp R i j, by omega, by omega, by omega, so.trans (SO.swp hiR hjR (by omega) (by omega))⟩ [0] _ (show b - i = b - (i + 1) + 1 by omega) ⟨⟨rfl, congrArg i64 ei, congrArg i64 ej, True.intro⟩, ⟨.inl (by rw [renO_us]; rfl), True.intro⟩, rfl, rfl, rfl⟩
  · exact ⟨rfl, [.row (R.map u64n)], .tup [], ⟨⟨_, rfl, rfl⟩, ⟨.inl rfl, True.intro⟩, Nat.le_refl _, belowH_us R⟩, R, so, rfl, rfl⟩
def Ord2 (x y : Nat) (R : List Nat) : AEnd → Heap → Prop := fun E G => ∃ (x' y' : Nat) (s : Int), ((x' = x ∧ y' = y) ∨ (x' = y ∧ y' = x)) ∧ E = .ret (.tup [i64 (x' : Nat), i64 (y' : Nat)]) ∧ G = [.row (R.map u64n), .row [i64 s]]
theorem belowH_us2 (R : List Nat) (s : Int) : belowH 2 [.row (R.map u64n), .row [i64 s]] = true := by
  have h : ∀ l : List Nat, belowL 2 (l.map u64n) = true := fun l => by
    induction l with
    | nil => rfl
    | cons x l ih => show (bif below 2 (u64n x) then belowL 2 (l.map u64n) else false) = true; rw [ih]; rfl
  simp only [belowH, belowO, h]
  rfl
theorem order2_ok (R : List Nat) (x y : Nat) (s : Int) (hx : x < R.length) (hy : y < R.length) (hn : R.length < 4611686018427387904) :
    ACalls Try.prog 66 [.slc 0 0 R.length 1, i64 (x : Nat), i64 (y : Nat), .ptr 1 0] [.row (R.map u64n), .row [i64 s]] (Ord2 x y R) := by
  have bx : (0 : Int) ≤ (x : Nat) ∧ ((x : Nat) : Int) < (R.length : Nat) := by omega
  have by' : (0 : Int) ≤ (y : Nat) ∧ ((y : Nat) : Int) < (R.length : Nat) := by omega
  refine acalls_of_awp hT mixed Try.func66 rfl (by kernel_rfl) (by kernel_rfl) (Nat.le_of_ble_eq_true rfl) ?_
  refine ⟨[0, 0, 0, 0, 0, 0, 0, 0, 1], [[], [], [0, 1], [0, 1, 2], [], [], [4, 5], [4, 5, 6], [0, 1, 2, 3, 4, 5, 6, 7]], [0, 0, 0, 0, 0, 0, 0, 0, 0], [8], [[0], [2], [10, 11], [12], [0], [1], [14, 15], [16], [13, 17]], Ob.intro (by kernel_rfl) ?_⟩
  repeat first | refine same ?_ | refine Ob.intro bx ?_ | refine Ob.intro by' ?_ | refine optK_intro (rd_us rfl (ofs x) (atN_some hx)) ?_ | refine optK_intro (rd_us rfl (ofs y) (atN_some hy)) ?_
  refine callP (lessU_ok _ _) rfl rfl ?_
  repeat refine same ?_
  refine forkD (fun _ => ?_) (fun _ => ?_)
  · exact ⟨rfl, [.row (R.map u64n), .row [i64 _]], .tup [i64 (y : Nat), i64 (x : Nat)], ⟨⟨_, rfl, rfl⟩, ⟨.inl rfl, .inl rfl, True.intro⟩, Nat.le_refl _, belowH_us2 R _⟩, y, x, _, .inr ⟨rfl, rfl⟩, rfl, rfl⟩
  · exact ⟨rfl, [.row (R.map u64n), .row [i64 s]], .tup [i64 (x : Nat), i64 (y : Nat)], ⟨⟨_, rfl, rfl⟩, ⟨.inl rfl, .inl rfl, True.intro⟩, Nat.le_refl _, belowH_us2 R _⟩, x, y, s, .inl ⟨rfl, rfl⟩, rfl, rfl⟩
def MedR (x y w : Nat) (R : List Nat) : AEnd → Heap → Prop := fun E G => ∃ (z : Nat) (s : Int), (z = x ∨ z = y ∨ z = w) ∧ E = .ret (i64 (z : Nat)) ∧ G = [.row (R.map u64n), .row [i64 s]]
theorem median_ok (R : List Nat) (x y w : Nat) (s : Int) (hx : x < R.length) (hy : y < R.length) (hw : w < R.length) (hn : R.length < 4611686018427387904) :
    ACalls Try.prog 65 [.slc 0 0 R.length 1, i64 (x : Nat), i64 (y : Nat), i64 (w : Nat), .ptr 1 0] [.row (R.map u64n), .row [i64 s]] (MedR x y w R) := by
  refine acalls_of_awp hT mixed Try.func65 rfl (by kernel_rfl) (by kernel_rfl) (Nat.le_of_ble_eq_true rfl) ?_
  refine callS (order2_ok R x y s (by omega) (by omega) hn) [0, 1] ⟨.inl (by rw [renO_us]; rfl), .inl rfl, True.intro⟩ rfl ?_
  rintro E G ⟨x1, y1, s1, h1, rfl, rfl⟩ _
  refine ⟨_, [.row (R.map u64n), .row [i64 s1]], rfl, by simp only [renH, renO_us]; rfl, ?_⟩
  refine callS (order2_ok R y1 w s1 (by omega) (by omega) hn) [0, 1] ⟨.inl (by rw [renO_us]; rfl), .inl rfl, True.intro⟩ rfl ?_
  rintro E G ⟨y2, w2, s2, h2, rfl, rfl⟩ _
  refine ⟨_, [.row (R.map u64n), .row [i64 s2]], rfl, by simp only [renH, renO_us]; rfl, ?_⟩
  refine callS (order2_ok R x1 y2 s2 (by omega) (by omega) hn) [0, 1] ⟨.inl (by rw [renO_us]; rfl), .inl rfl, True.intro⟩ rfl ?_
  rintro E G ⟨x3, y3, s3, h3, rfl, rfl⟩ _
  refine ⟨_, [.row (R.map u64n), .row [i64 s3]], rfl, by simp only [renH, renO_us]; rfl, ?_⟩
  exact ⟨rfl, [.row (R.map u64n), .row [i64 s3]], i64 (y3 : Nat), ⟨⟨_, rfl, rfl⟩, ⟨.inl rfl, .inl rfl, True.intro⟩, Nat.le_refl _, belowH_us2 R _⟩, y3, s3, by omega, rfl, rfl⟩
theorem medianA_ok (R : List Nat) (x : Nat) (s : Int) (h1 : 1 ≤ x) (h2 : x + 1 < R.length) (hn : R.length < 4611686018427387904) :
    ACalls Try.prog 64 [.slc 0 0 R.length 1, i64 (x : Nat), .ptr 1 0] [.row (R.map u64n), .row [i64 s]] (MedR (x - 1) x (x + 1) R) := by
  have e1 : wrp .i64 ((x : Int) - 1) = ((x - 1 : Nat) : Int) := by rw [wid (by omega)]; omega
  have e2 : wrp .i64 ((x : Int) + 1) = ((x + 1 : Nat) : Int) := by rw [wid (by omega)]; omega
  have hm := median_ok R (x - 1) x (x + 1) s (by omega) (by omega) h2 hn
  rw [← e1, ← e2] at hm
  refine acalls_of_awp hT mixed Try.func64 rfl (by kernel_rfl) (by kernel_rfl) (Nat.le_of_ble_eq_true rfl) ?_
  refine callS hm [0, 1] ⟨.inl (by rw [renO_us]; rfl), .inl rfl, True.intro⟩ rfl ?_
  rintro E G ⟨z, s1, hz, rfl, rfl⟩ _
  refine ⟨_, [.row (R.map u64n), .row [i64 s1]], rfl, by simp only [renH, renO_us]; rfl, ?_⟩
  exact ⟨rfl, [.row (R.map u64n), .row [i64 s1]], i64 (z : Nat), ⟨⟨_, rfl, rfl⟩, ⟨.inl rfl, .inl rfl, True.intro⟩, Nat.le_refl _, belowH_us2 R _⟩, z, s1, hz, rfl, rfl⟩
end Go.Proofs.Ytmfifbclldnpkaa.A
