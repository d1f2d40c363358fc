/- Rows; the law AggRows. No condition. -/
import Derived.Test.YtihjhigckomapaaGf
import Derived.Test.YtihjhigckomapaaVb
namespace Go.Proofs.Ytihjhigckomapaa.A
open Go
set_option linter.unusedVariables false
set_option maxRecDepth 100000
set_option pp.maxSteps 1500

theorem renO_fls (r : Nat → Nat) (m : List Nat) : renO r (.row (m.map fl)) = .row (m.map fl) := by
  simp only [renO]
  rw [renL_map (fun _ _ => rfl)]
/-- A row: two cells, and a value. -/
structure Rw where
  a : Int
  k : ByteArray
  n : Bool
  t : ByteArray
  b : Nat
def rowC (r : Rw) : List AV := [i64 r.a, str r.k, bo r.n, str r.t, u64 r.b]
def rowsC (L : List Rw) : List AV := (L.map rowC).flatten
theorem rowsC_drop : ∀ (L : List Rw) (k : Nat) (r : Rw), L[k]? = some r → (rowsC L).drop (k * 5) = rowC r ++ rowsC (L.drop (k + 1))
  | [], k, r, h => by simp at h
  | x :: L, 0, r, h => by
    simp at h
    subst h
    rfl
  | x :: L, k + 1, r, h => by
    have := rowsC_drop L k r (by simpa using h)
    show (rowC x ++ rowsC L).drop ((k + 1) * 5) = _
    rw [show (k + 1) * 5 = (rowC x).length + k * 5 by show _ = 5 + k * 5; omega, ← List.drop_drop, List.drop_left, this]
    rfl
theorem row_at {L : List Rw} {k : Nat} {r : Rw} (h : L[k]? = some r) (j : Nat) (c : AV) (hj : (rowC r)[j]? = some c) : ((rowsC L).drop (k * 5))[j]? = some c := by
  rw [rowsC_drop L k r h, List.getElem?_append_left (List.getElem?_eq_some_iff.1 hj).1]
  exact hj
theorem row_take {L : List Rw} {k : Nat} {r : Rw} (h : L[k]? = some r) : takeN ((rowsC L).drop ((k : Int).toNat * 5)) 5 = some (rowC r) := by
  rw [Int.toNat_natCast, rowsC_drop L k r h, takeN_eq (by rw [List.length_append]; show 5 ≤ 5 + _; omega)]
  rw [List.take_append_of_le_length (by show 5 ≤ 5; omega)]
  rfl
theorem row_txt {L : List Rw} {k : Nat} {r : Rw} (h : L[k]? = some r) : nth ((((rowsC L).drop ((k : Int).toNat * 5)).drop 2).drop 1) 0 = some (str r.t) := by
  rw [nth_eq, Int.toNat_natCast, List.getElem?_drop, List.getElem?_drop]
  exact row_at h 3 _ rfl
theorem row_num {L : List Rw} {k : Nat} {r : Rw} (h : L[k]? = some r) : nth ((((rowsC L).drop ((k : Int).toNat * 5)).drop 2).drop 0) 0 = some (bo r.n) := by
  rw [nth_eq, Int.toNat_natCast, List.getElem?_drop, List.getElem?_drop]
  exact row_at h 2 _ rfl
theorem row_bits {L : List Rw} {k : Nat} {r : Rw} (h : L[k]? = some r) : nth ((((rowsC L).drop ((k : Int).toNat * 5)).drop 2).drop 2) 0 = some (u64 r.b) := by
  rw [nth_eq, Int.toNat_natCast, List.getElem?_drop, List.getElem?_drop]
  exact row_at h 4 _ rfl
theorem row_val {L : List Rw} {k : Nat} {r : Rw} (h : L[k]? = some r) : takeN (((rowsC L).drop ((k : Int).toNat * 5)).drop 2) 3 = some [bo r.n, str r.t, u64 r.b] := by
  rw [Int.toNat_natCast, rowsC_drop L k r h]
  show takeN ([bo r.n, str r.t, u64 r.b] ++ rowsC (L.drop (k + 1))) 3 = _
  rw [takeN_eq (by rw [List.length_append]; show 3 ≤ 3 + _; omega)]
  rw [List.take_append_of_le_length (by show 3 ≤ 3; omega)]
  rfl
/-- The numbers of rows. -/
def isN (r : Rw) : Bool := r.n && rightV r.n r.t r.b
def nums (L : List Rw) : List Nat := (L.filter isN).map (·.b)
theorem nums_snoc (L : List Rw) (r : Rw) : nums (L ++ [r]) = nums L ++ (if isN r = true then [r.b] else []) := by
  unfold nums
  rw [List.filter_append, List.map_append]
  congr 1
  cases h : isN r <;> simp [h]
theorem nums_le (L : List Rw) : (nums L).length ≤ L.length := by
  unfold nums
  rw [List.length_map]
  exact List.length_filter_le _ _
theorem take_snocR {l : List Rw} {i : Nat} {x : Rw} (h : l[i]? = some x) : l.take (i + 1) = l.take i ++ [x] := by
  obtain ⟨hi, rfl⟩ := List.getElem?_eq_some_iff.1 h
  exact List.take_succ_eq_append_getElem hi
theorem isN_bits {r : Rw} (h : isN r = true) : r.n = true ∧ bitsB r.b = r.b := by
  unfold isN at h
  cases hn : r.n with
  | false => rw [hn] at h; cases h
  | true =>
    rw [hn] at h
    exact ⟨rfl, (right_bits (t := r.t) h).2⟩
def zRes : AObj := .row [i64 0, u64 0, u64 0, u64 0, u64 0]
def RowSt (L : List Rw) : Type := { x : Nat × Acc × Nat // x.1 ≤ L.length ∧ x.2.1 = accA (nums (L.take x.1)) ∧ AccOk x.2.1 ∧ x.2.2 + (nums (L.take x.1)).length = x.1 }
theorem rowsA_ok (L : List Rw) (hn : L.length ≤ 1000) (hl : ∀ r ∈ L, r.b < 18446744073709551616) : ACalls Try.prog 15 [.view L.length (rowsC L)] [] (Ret (.tup [talA (accA (nums L)), i64 ((L.length - (nums L).length : Nat) : Int)])) := by
  refine acalls_of_awp hT mixed Try.func15 rfl (by kernel_rfl) (by kernel_rfl) (Nat.le_of_ble_eq_true rfl) ?_
  refine callH new_ok [] rfl True.intro rfl rfl (H' := [zRes, adrA (0, some 0, 0, 0)]) rfl ?_
  refine loopI (α := RowSt L) (fun x => [(2, .ptr 0 0), (4, .ptr 1 0), (5, i64 (x.val.2.2 : Nat)), (11, .view L.length (rowsC L)), (12, i64 L.length), (13, i64 (x.val.1 : Nat))]) (fun x => [zRes, adrA x.val.2.1]) (fun x => L.length - x.val.1)
    ⟨(0, (0, some 0, 0, 0), 0), Nat.zero_le _, rfl, ⟨by decide, by decide, by decide⟩, rfl⟩ [0, 1] ⟨⟨rfl, rfl, rfl, rfl, rfl, rfl, True.intro⟩, ⟨.inl rfl, .inl rfl, True.intro⟩, rfl, rfl, rfl⟩ ?_
  intro x K hK
  obtain ⟨⟨k, a, o⟩, hst⟩ := x
  replace hst : k ≤ L.length ∧ a = accA (nums (L.take k)) ∧ AccOk a ∧ o + (nums (L.take k)).length = k := hst
  have hinc : wrp .i64 ((k : Int) + 1) = ((k + 1 : Nat) : Int) := by rw [wrpE, wi64]; have := hst.1; omega
  have hinco : wrp .i64 ((o : Int) + 1) = ((o + 1 : Nat) : Int) := by rw [wrpE, wi64]; have := hst.1; have := hst.2.2.2; omega
  refine forkD (fun h => ?_) (fun h => ?_)
  · have h' : k < L.length := by have : (k : Int) < (L.length : Int) := h; omega
    obtain ⟨r, hr⟩ : ∃ r, L[k]? = some r := ⟨_, List.getElem?_eq_getElem h'⟩
    have hrb := hl r (List.mem_of_getElem? hr)
    have hik : (0 : Int) ≤ (k : Nat) ∧ ((k : Nat) : Int) < (L.length : Nat) := by omega
    have hdec : L.length - k = L.length - (k + 1) + 1 := by omega
    have hfl := float_ok r.n r.t r.b
    have hsn := nums_snoc (L.take k) r
    have hlen := accA_len (nums (L.take k))
    refine Ob.intro hik ?_
    refine optK_intro (row_take hr) ?_
    by_cases hN : isN r = true
    · have hb := (isN_bits hN).2
      rw [if_pos hN] at hsn
      have hst' : k + 1 ≤ L.length ∧ stepA a r.b = accA (nums (L.take (k + 1))) ∧ AccOk (stepA a r.b) ∧ o + (nums (L.take (k + 1))).length = k + 1 := by
        rw [take_snocR hr, hsn, accA_snoc, List.length_append, ← hst.2.1]
        refine ⟨h', rfl, ⟨?_, lowS_lt hst.2.2.1.2.1 hrb, highS_lt hst.2.2.1.2.2 hrb⟩, ?_⟩
        · show a.1 + 1 < 1000000
          rw [hst.2.1, hlen]
          have := hst.2.2.2
          omega
        · have := hst.2.2.2
          show o + ((nums (L.take k)).length + 1) = k + 1
          omega
      unfold isN at hN
      rw [if_pos hN, hb] at hfl
      refine callP hfl rfl rfl ?_
      refine callH (addA_ok a r.b hst.2.2.1 hrb) [1] rfl ⟨.inl (by rw [renO_adr]; rfl), True.intro⟩ rfl rfl (H' := [zRes, adrA (stepA a r.b), .row (rowC r)]) (by simp only [renH, renO_adr]; rfl) ?_
      refine hK ⟨(k + 1, stepA a r.b, o), hst'⟩ [0, 1] _ hdec ⟨⟨rfl, rfl, rfl, rfl, rfl, congrArg i64 hinc, True.intro⟩, ⟨.inl rfl, .inl (by rw [renO_adr]; rfl), True.intro⟩, rfl, rfl, rfl⟩
    · rw [if_neg hN] at hsn
      have hst' : k + 1 ≤ L.length ∧ a = accA (nums (L.take (k + 1))) ∧ AccOk a ∧ o + 1 + (nums (L.take (k + 1))).length = k + 1 := by
        rw [take_snocR hr, hsn, List.append_nil]
        refine ⟨h', hst.2.1, hst.2.2.1, ?_⟩
        have := hst.2.2.2
        omega
      unfold isN at hN
      rw [if_neg hN] at hfl
      refine callP hfl rfl rfl ?_
      refine hK ⟨(k + 1, a, o + 1), hst'⟩ [0, 1] _ hdec ⟨⟨rfl, rfl, congrArg i64 hinco, rfl, rfl, congrArg i64 hinc, True.intro⟩, ⟨.inl rfl, .inl (by rw [renO_adr]; rfl), True.intro⟩, rfl, rfl, rfl⟩
  · have h' : k = L.length := by have : ¬ (k : Int) < (L.length : Int) := h; have := hst.1; omega
    obtain ⟨_, h2, _, h4⟩ := hst
    rw [h', List.take_length] at h2 h4
    have hta := tallyA_ok a
    have ho : o = L.length - (nums L).length := by omega
    rw [← ho, ← h2]
    obtain ⟨c1, s1, lo1, hi1, m1, hTa⟩ := tal_form a
    rw [hTa] at hta ⊢
    refine callH hta [1] rfl ⟨.inl (by rw [renO_adr]; rfl), True.intro⟩ rfl rfl (H' := [zRes, adrA a]) (by simp only [renH, renO_adr]; rfl) ?_
    refine end0 rfl rfl rfl rfl
theorem rNumbers_ok (L : List Rw) (hn : L.length ≤ 1000) (hl : ∀ r ∈ L, r.b < 18446744073709551616) : ACalls Try.prog 16 [.view L.length (rowsC L)] [] (Ret (.view (nums L).length ((nums L).map fl))) := by
  refine acalls_of_awp hT mixed Try.func16 rfl (by kernel_rfl) (by kernel_rfl) (Nat.le_of_ble_eq_true rfl) ?_
  refine loopI (α := { x : Nat × List Nat × Nat // x.1 ≤ L.length ∧ x.2.1 = nums (L.take x.1) ∧ x.2.2 = x.2.1.length }) (fun x => [(0, .view L.length (rowsC L)), (3, .slc 0 0 x.val.2.2 1), (4, i64 (x.val.1 : Nat))]) (fun x => [.row (x.val.2.1.map fl)]) (fun x => L.length - x.val.1)
    ⟨(0, [], 0), Nat.zero_le _, rfl, rfl⟩ [0] ⟨⟨rfl, rfl, rfl, True.intro⟩, ⟨.inl rfl, True.intro⟩, rfl, rfl, rfl⟩ ?_
  intro x K hK
  obtain ⟨⟨k, m, z⟩, hst⟩ := x
  replace hst : k ≤ L.length ∧ m = nums (L.take k) ∧ z = m.length := hst
  have hz : m.length = z := hst.2.2.symm
  have hmk : z ≤ k := by
    have := nums_le (L.take k)
    rw [List.length_take] at this
    rw [hst.2.2, hst.2.1]
    omega
  have hinc : wrp .i64 ((k : Int) + 1) = ((k + 1 : Nat) : Int) := by rw [wrpE, wi64]; have := hst.1; omega
  refine forkD (fun h => ?_) (fun h => ?_)
  · have h' : k < L.length := by have : (k : Int) < (L.length : Int) := h; omega
    obtain ⟨r, hr⟩ : ∃ r, L[k]? = some r := ⟨_, List.getElem?_eq_getElem h'⟩
    have hrb := hl r (List.mem_of_getElem? hr)
    have hik : (0 : Int) ≤ (k : Nat) ∧ ((k : Nat) : Int) < (L.length : Nat) := by omega
    have hdec : L.length - k = L.length - (k + 1) + 1 := by omega
    have hsn := nums_snoc (L.take k) r
    have skip : isN r = false → k + 1 ≤ L.length ∧ m = nums (L.take (k + 1)) ∧ z = m.length := fun hN => by
      rw [take_snocR hr, hsn, hN, if_neg (by decide), List.append_nil]
      exact ⟨h', hst.2⟩
    refine Ob.intro hik ?_
    refine optK_intro (row_num hr) ?_
    refine fork (fun g => ?_) (fun g => ?_)
    · refine Ob.intro hik ?_
      refine optK_intro (row_val hr) ?_
      refine callP (rRight_ok r.n r.t r.b hrb) rfl rfl ?_
      refine fork (fun g2 => ?_) (fun g2 => ?_)
      · have hN : isN r = true := by unfold isN; rw [g2, g]; rfl
        refine Ob.intro hik ?_
        refine optK_intro (row_bits hr) ?_
        refine callP (float64frombits_ok r.b) rfl rfl ?_
        refine Ob.intro rfl ?_
        refine optK_intro (rdN_all rfl (show z * 1 = (m.map fl).length by rw [List.length_map]; omega)) ?_
        refine Ob.intro (show (z + 1) * 8 ≤ 140737488355328 ∧ z + 1 ≤ 9223372036854775807 by omega) ?_
        refine hK ⟨(k + 1, m ++ [r.b], z + 1), h', ?_, ?_⟩ [2] _ hdec ?_
        · show m ++ [r.b] = _
          rw [take_snocR hr, hsn, hN, if_pos rfl, hst.2.1]
        · show z + 1 = (m ++ [r.b]).length
          rw [List.length_append, hz]
          rfl
        · refine ⟨⟨rfl, rfl, congrArg i64 hinc, True.intro⟩, ⟨.inl ?_, True.intro⟩, rfl, rfl, rfl⟩
          show some (AObj.row (m.map fl ++ [fl r.b])) = some (AObj.row (renL _ ((m ++ [r.b]).map fl)))
          rw [renL_map (fun _ _ => rfl), List.map_append]
          rfl
      · have hN : isN r = false := by unfold isN; rw [g2, g]; rfl
        refine hK ⟨(k + 1, m, z), skip hN⟩ [0] _ hdec ⟨⟨rfl, rfl, congrArg i64 hinc, True.intro⟩, ⟨.inl (by rw [renO_fls]; rfl), True.intro⟩, rfl, rfl, rfl⟩
    · have hN : isN r = false := by unfold isN; rw [g]; rfl
      refine hK ⟨(k + 1, m, z), skip hN⟩ [0] _ hdec ⟨⟨rfl, rfl, congrArg i64 hinc, True.intro⟩, ⟨.inl (by rw [renO_fls]; rfl), True.intro⟩, rfl, rfl, rfl⟩
  · have h' : k = L.length := by have : ¬ (k : Int) < (L.length : Int) := h; have := hst.1; omega
    obtain ⟨_, h2, h3⟩ := hst
    rw [h', List.take_length] at h2
    rw [← h2, hz]
    refine end0 rfl rfl (frz_map (g := fl) (L := m) rfl rfl hz.symm (fun _ => rfl)) rfl
theorem aggRows_ok (L : List Rw) (hl : ∀ r ∈ L, r.b < 18446744073709551616) : ACalls Try.prog 5 [.view L.length (rowsC L)] [] (Ret (bo true)) := by
  refine acalls_of_awp hT mixed Try.func5 rfl (by kernel_rfl) (by kernel_rfl) (Nat.le_of_ble_eq_true rfl) ?_
  refine callP awakeG_ok rfl rfl ?_
  refine forkD (fun h => end0 rfl rfl rfl rfl) (fun h0 => ?_)
  have hn : L.length ≤ 200 := by omega
  refine loopI (α := { k : Nat // k ≤ L.length }) (fun k => [(0, .view L.length (rowsC L)), (3, i64 (k.val : Nat))]) (fun _ => []) (fun k => L.length - k.val) ⟨0, Nat.zero_le _⟩ [] ⟨⟨rfl, rfl, True.intro⟩, True.intro, rfl, rfl, rfl⟩ ?_
  intro x K hK
  obtain ⟨k, hk⟩ := x
  have hinc : wrp .i64 ((k : Int) + 1) = ((k + 1 : Nat) : Int) := by rw [wrpE, wi64]; omega
  refine forkD (fun h => ?_) (fun h => ?_)
  · have h' : k < L.length := by have : (k : Int) < (L.length : Int) := h; omega
    obtain ⟨r, hr⟩ : ∃ r, L[k]? = some r := ⟨_, List.getElem?_eq_getElem h'⟩
    have hik : (0 : Int) ≤ (k : Nat) ∧ ((k : Nat) : Int) < (L.length : Nat) := by omega
    refine Ob.intro hik ?_
    refine optK_intro (row_txt hr) ?_
    refine forkD (fun g => end0 rfl rfl rfl rfl) (fun g => ?_)
    refine hK ⟨k + 1, h'⟩ [] _ (show L.length - k = L.length - (k + 1) + 1 by omega) ⟨⟨rfl, congrArg i64 hinc, True.intro⟩, True.intro, rfl, rfl, rfl⟩
  · have f1 := rowsA_ok L (by omega) hl
    have hnl := nums_le L
    have f2 := rNumbers_ok L (by omega) hl
    have f3 := rOf_ok (nums L) (by omega) (fun x hx => by
      obtain ⟨r, hr, rfl⟩ := List.mem_map.1 hx
      exact hl r (List.mem_filter.1 hr).1)
    obtain ⟨c1, s1, lo1, hi1, m1, hTa⟩ := tal_form (accA (nums L))
    rw [hTa] at f1 f3
    generalize nums L = N at *
    refine callP f1 rfl rfl ?_
    refine callP f2 rfl rfl ?_
    refine ⟨[0, 0, 1, 1, 1, 1, 1, 1, 1, 1, 1, 1, 1, 1], [[], [], [1], [0, 1, 2], [0, 1, 2, 3], [0, 1, 2, 3, 4], [0, 1, 2, 3, 4], [0, 1, 2, 3, 4, 6], [0, 1, 2, 3, 4], [0, 1, 2, 3, 4, 8], [0, 1, 2, 3, 4, 6, 7, 8, 9], [0, 1, 2, 3, 4, 5, 6, 7, 8, 9, 10], [0, 1, 2, 3, 4, 5, 6, 7, 8, 9, 10, 11], [0, 1, 2, 3, 4, 5, 6, 7, 8, 9, 10, 11, 12]], [0, 0, 0, 0, 0, 0, 0, 0, 0, 0, 0, 0, 0, 0], [2], [[4], [6], [34], [33, 35], [36], [5, 37], [0, 37], [39, 37], [6, 37], [41, 37], [40, 42, 37], [38, 43, 37], [37, 44], [45]], Ob.intro (by kernel_rfl) ?_⟩
    repeat refine same ?_
    refine callP f3 rfl rfl ?_
    refine fork (fun g => ?_) (fun g => by simp at g)
    refine fork (fun g => ?_) (fun g => ?_)
    · repeat refine same ?_
      refine end0 rfl rfl rfl rfl
    · exfalso
      rw [beq_eq_false_iff_ne] at g
      refine g ?_
      rw [wrpE, wi64]
      omega
theorem wf_rows {l : List AV} (h : Wf (.slice (.strct (.cons (.int .i64) (.cons .str (.cons (.strct (.cons .bool (.cons .str (.cons (.int .u64) .none)))) .none))))) l) : ∃ L : List Rw, l = [.view L.length (rowsC L)] ∧ ∀ r ∈ L, r.b < 18446744073709551616 := by
  obtain ⟨rows, rfl, _, hr⟩ := h
  have one : ∀ x : List AV, Wf (.strct (.cons (.int .i64) (.cons .str (.cons (.strct (.cons .bool (.cons .str (.cons (.int .u64) .none)))) .none)))) x → ∃ r : Rw, x = rowC r ∧ r.b < 18446744073709551616 := by
    intro x hx
    obtain ⟨x1, y1, rfl, ⟨a, rfl, _⟩, x2, y2, rfl, ⟨k, rfl, _⟩, x3, y3, rfl, hv, rfl⟩ := hx
    obtain ⟨x4, y4, rfl, ⟨n, rfl⟩, x5, y5, rfl, ⟨t, rfl, _⟩, x6, y6, rfl, hb, rfl⟩ := hv
    obtain ⟨b, rfl, hbb⟩ := wf_nat hb
    exact ⟨⟨a, k, n, t, b⟩, rfl, hbb⟩
  have key : ∀ rows : List (List AV), (∀ r ∈ rows, Wf (.strct (.cons (.int .i64) (.cons .str (.cons (.strct (.cons .bool (.cons .str (.cons (.int .u64) .none)))) .none)))) r) → ∃ L : List Rw, L.length = rows.length ∧ rows.flatten = rowsC L ∧ ∀ r ∈ L, r.b < 18446744073709551616 := by
    intro rows
    induction rows with
    | nil => intro _; exact ⟨[], rfl, rfl, by simp⟩
    | cons r rows ih =>
      intro hr
      obtain ⟨m, h1, h2, h3⟩ := ih fun x hx => hr x (List.mem_cons_of_mem _ hx)
      obtain ⟨x, rfl, hx⟩ := one r (hr r (List.mem_cons_self ..))
      refine ⟨x :: m, by simp [h1], by rw [List.flatten_cons, h2]; rfl, ?_⟩
      intro y hy
      rcases List.mem_cons.1 hy with rfl | hy
      · exact hx
      · exact h3 y hy
  obtain ⟨m, h1, h2, h3⟩ := key rows hr
  exact ⟨m, by rw [h1, h2], h3⟩
theorem aggRows_law (l0 : List AV) (w0 : Wf (.slice (.strct (.cons (.int .i64) (.cons .str (.cons (.strct (.cons .bool (.cons .str (.cons (.int .u64) .none)))) .none))))) l0) : ACalls Try.prog 5 [argA (.slice (.strct (.cons (.int .i64) (.cons .str (.cons (.strct (.cons .bool (.cons .str (.cons (.int .u64) .none)))) .none))))) l0] [] (Ret (.sc (.bool true))) := by
  obtain ⟨L, rfl, h⟩ := wf_rows w0
  exact aggRows_ok L h
end Go.Proofs.Ytihjhigckomapaa.A
