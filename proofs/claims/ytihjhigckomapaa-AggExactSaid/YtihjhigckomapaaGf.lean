/- The law AggTells, by the functions that it calls. No condition. -/
import Derived.Test.YtihjhigckomapaaGe
namespace Go.Proofs.Ytihjhigckomapaa.A
open Go
set_option linter.unusedVariables false
set_option maxRecDepth 100000
set_option pp.maxSteps 1500

theorem tal_form (a : Acc) : ∃ c s lo hi m, talA a = tal c s lo hi m := by
  unfold talA
  split
  · exact ⟨_, _, _, _, _, rfl⟩
  · exact ⟨_, _, _, _, _, rfl⟩
def talC (c s lo hi m : Nat) : List AV := [i64 c, u64 s, u64 lo, u64 hi, u64 m]
theorem viewTake {l : List Nat} {i : Nat} (h : i ≤ l.length) : AV.view ((i : Int).toNat - (0 : Int).toNat) ((List.drop ((0 : Int).toNat * 1) (l.map fl)).take (((i : Int).toNat - (0 : Int).toNat) * 1)) = .view (l.take i).length ((l.take i).map fl) := by
  have e : (i : Int).toNat - (0 : Int).toNat = i := by simp
  rw [e, Nat.mul_one]
  show AV.view i ((l.map fl).take i) = _
  rw [List.map_take, List.length_take, Nat.min_eq_left h]
theorem aggTells_big (l : List Nat) (n : Int) (hn : ¬ l.length ≤ 200) : ACalls Try.prog 3 [.view l.length (l.map u64n), i64 n] [] (Ret (bo true)) := by
  refine acalls_of_awp hT mixed Try.func3 rfl (by kernel_rfl) (by kernel_rfl) (Nat.le_of_ble_eq_true rfl) ?_
  refine callP awakeG_ok rfl rfl ?_
  refine forkD (fun h => end0 rfl rfl rfl rfl) (fun h => by omega)
theorem aggTells_ok (l : List Nat) (n : Int) (hn : l.length ≤ 200) (hl : ∀ x ∈ l, x < 18446744073709551616) : ACalls Try.prog 3 [.view l.length (l.map u64n), i64 n] [] (Ret (bo true)) := by
  have f1 := rOf_ok l (by omega) hl
  have f2 := ofA_ok l (by omega) hl
  obtain ⟨c, s, lo, hi, m, hT0⟩ := tal_form (accA l)
  rw [hT0] at f1 f2
  refine acalls_of_awp hT mixed Try.func3 rfl (by kernel_rfl) (by kernel_rfl) (Nat.le_of_ble_eq_true rfl) ?_
  refine callP awakeG_ok rfl rfl ?_
  refine forkD (fun h => by omega) (fun h => ?_)
  refine callP (floats_ok l (by omega)) rfl rfl ?_
  refine callP f1 rfl rfl ?_
  refine callH new_ok [] rfl True.intro rfl rfl (H' := [.row (talC c s lo hi m), adrA (0, some 0, 0, 0)]) rfl ?_
  refine forkD (fun h1 => ?_) (fun h1 => ?_)
  · refine Ob.intro (by rw [wrpE, wu64]; omega) ?_
    obtain ⟨q, hq⟩ : ∃ q : Nat, wrp .i64 (hd ((wrp .u64 n).tmod (wrp .u64 (l.length : Int)))) = (q : Int) := by
      rw [hd_eq, wrpE, wrpE, wrpE, wu64, wu64, wi64]
      have e1 : (l.length : Int) % 18446744073709551616 = ((l.length : Nat) : Int) := by omega
      obtain ⟨z, hz⟩ : ∃ z : Nat, n % 18446744073709551616 = (z : Int) := ⟨(n % 18446744073709551616).toNat, by omega⟩
      rw [e1, hz]
      have e2 : (z : Int).tmod (l.length : Int) = ((z % l.length : Nat) : Int) := rfl
      have := Nat.mod_lt z (show 0 < l.length by omega)
      rw [e2]
      exact ⟨z % l.length, by omega⟩
    refine loopI (α := AccSt l) (fun x => [(5, .view l.length (l.map fl)), (6, .ptr 0 0), (7, .ptr 1 0), (8, i64 (q : Nat)), (9, i64 (x.val.1 : Nat))]) (fun x => [.row (talC c s lo hi m), adrA x.val.2]) (fun x => l.length - x.val.1)
      ⟨(0, 0, some 0, 0, 0), Nat.zero_le _, rfl, ⟨by decide, by decide, by decide⟩, rfl⟩ [0, 1] ⟨⟨rfl, rfl, rfl, congrArg i64 hq, rfl, True.intro⟩, ⟨.inl rfl, .inl rfl, True.intro⟩, rfl, rfl, rfl⟩ ?_
    intro x K hK
    obtain ⟨⟨k, a⟩, hst⟩ := x
    replace hst : k ≤ l.length ∧ a = accA (l.take k) ∧ AccOk a ∧ a.1 = k := hst
    have hinc : wrp .i64 ((k : Int) + 1) = ((k + 1 : Nat) : Int) := by rw [wrpE, wi64]; have := hst.1; omega
    refine forkD (fun h => ?_) (fun h => ?_)
    · have h' : k < l.length := by have : (k : Int) < (l.length : Int) := h; omega
      obtain ⟨y, hy⟩ : ∃ y, l[k]? = some y := ⟨_, List.getElem?_eq_getElem h'⟩
      have hyb := hl y (List.mem_of_getElem? hy)
      have hik : (0 : Int) ≤ (k : Nat) ∧ ((k : Nat) : Int) < (l.length : Nat) := by omega
      have hdec : l.length - k = l.length - (k + 1) + 1 := by omega
      have hta := tallyA_ok a
      have hro := rOf_ok (l.take k) (by rw [List.length_take]; omega) (fun x hx => hl x (List.mem_of_mem_take hx))
      rw [← viewTake hst.1, ← hst.2.1] at hro
      obtain ⟨c1, s1, lo1, hi1, m1, hTa⟩ := tal_form a
      rw [hTa] at hta hro
      refine ⟨[0, 0, 0, 0, 0, 1, 0, 0, 0, 2, 2, 2], [[], [], [0, 1], [0, 1, 2], [0, 1, 2, 3], [0, 1, 2, 3, 4], [0, 1, 2, 3], [0, 1, 2, 3], [0, 1, 2, 3, 6, 7], [0, 1, 2, 3, 4, 5, 6, 7, 8], [0, 1, 2, 3, 4, 5, 6, 7, 8, 9], [0, 1, 2, 3, 4, 5, 6, 7, 8, 9, 10]], [0, 0, 0, 0, 0, 0, 0, 0, 0, 0, 0, 0], [5, 9], [[9], [8], [36, 37], [38], [7, 39], [40, 39], [5, 39], [8, 39], [42, 43, 39], [44, 39], [41, 45, 39], [39, 46]], Ob.intro (by kernel_rfl) ?_⟩
      refine fork (fun g => ?_) (fun g => ?_)
      · have hkq : k = q := by
          have : (k : Int) = (q : Int) := by simpa using g
          omega
        subst hkq
        have hb3 : (0 : Int) ≤ 0 ∧ (0 : Int) ≤ (k : Nat) ∧ ((k : Nat) : Int) ≤ (l.length : Nat) := by omega
        repeat first | refine same ?_ | refine Ob.intro hb3 ?_
        refine callH (H := [.row (talC c s lo hi m), adrA a]) hta [1] rfl ⟨.inl (by rw [renO_adr]; rfl), True.intro⟩ rfl rfl (H' := [.row (talC c s lo hi m), adrA a]) (by simp only [renH, renO_adr]; rfl) ?_
        repeat first | refine same ?_ | refine Ob.intro hb3 ?_
        refine callP hro rfl rfl ?_
        refine fork (fun g2 => by simp at g2) (fun g2 => ?_)
        repeat first | refine same ?_ | refine Ob.intro hb3 ?_
        refine Ob.intro hik ?_
        refine optK_intro (nth_map hy) ?_
        refine callH (addA_ok a y hst.2.2.1 hyb) [1] rfl ⟨.inl (by rw [renO_adr]; rfl), True.intro⟩ rfl rfl (H' := [.row (talC c s lo hi m), adrA (stepA a y)]) (by simp only [renH, renO_adr]; rfl) ?_
        refine hK ⟨(k + 1, stepA a y), stepOk (by omega) hy hyb hst⟩ [0, 1] _ hdec ⟨⟨rfl, rfl, rfl, rfl, congrArg i64 hinc, True.intro⟩, ⟨.inl rfl, .inl (by rw [renO_adr]; rfl), True.intro⟩, rfl, rfl, rfl⟩
      · repeat refine same ?_
        refine Ob.intro hik ?_
        refine optK_intro (nth_map hy) ?_
        refine callH (addA_ok a y hst.2.2.1 hyb) [1] rfl ⟨.inl (by rw [renO_adr]; rfl), True.intro⟩ rfl rfl (H' := [.row (talC c s lo hi m), adrA (stepA a y)]) (by simp only [renH, renO_adr]; rfl) ?_
        refine hK ⟨(k + 1, stepA a y), stepOk (by omega) hy hyb hst⟩ [0, 1] _ hdec ⟨⟨rfl, rfl, rfl, rfl, congrArg i64 hinc, True.intro⟩, ⟨.inl rfl, .inl (by rw [renO_adr]; rfl), True.intro⟩, rfl, rfl, rfl⟩
    · have h' : k = l.length := by have : ¬ (k : Int) < (l.length : Int) := h; have := hst.1; omega
      have ha : a = accA l := by rw [hst.2.1, h', List.take_length]
      have hta := tallyA_ok a
      rw [ha, hT0, ← ha] at hta
      refine ⟨[0, 1, 0, 1, 1, 1, 2, 1, 2, 2, 2], [[], [0], [], [0, 1, 2], [0, 1, 2, 3], [0, 1, 2, 3, 4], [0, 1, 2, 3, 4, 5], [0, 1, 2, 3, 4], [0, 1, 2, 3, 4, 5, 6, 7], [0, 1, 2, 3, 4, 5, 6, 7, 8], [0, 1, 2, 3, 4, 5, 6, 7, 8, 9]], [0, 0, 0, 0, 0, 0, 0, 0, 0, 0, 0], [1, 6], [[5], [55], [6], [56, 57], [58], [7, 59], [60, 59], [6, 59], [61, 62, 59], [59, 63], [64]], Ob.intro (by kernel_rfl) ?_⟩
      repeat refine same ?_
      refine callP f2 rfl rfl ?_
      refine fork (fun g => ?_) (fun g => by simp at g)
      repeat refine same ?_
      refine callH (H := [.row (talC c s lo hi m), adrA a]) hta [1] rfl ⟨.inl (by rw [renO_adr]; rfl), True.intro⟩ rfl rfl (H' := [.row (talC c s lo hi m), adrA a]) (by simp only [renH, renO_adr]; rfl) ?_
      refine fork (fun g => ?_) (fun g => by simp at g)
      repeat refine same ?_
      refine end0 rfl rfl rfl rfl
  · obtain ⟨q, hq⟩ : ∃ q : Nat, (0 : Int) = (q : Int) := ⟨0, rfl⟩
    refine loopI (α := AccSt l) (fun x => [(5, .view l.length (l.map fl)), (6, .ptr 0 0), (7, .ptr 1 0), (8, i64 (q : Nat)), (9, i64 (x.val.1 : Nat))]) (fun x => [.row (talC c s lo hi m), adrA x.val.2]) (fun x => l.length - x.val.1)
      ⟨(0, 0, some 0, 0, 0), Nat.zero_le _, rfl, ⟨by decide, by decide, by decide⟩, rfl⟩ [0, 1] ⟨⟨rfl, rfl, rfl, congrArg i64 hq, rfl, True.intro⟩, ⟨.inl rfl, .inl rfl, True.intro⟩, rfl, rfl, rfl⟩ ?_
    intro x K hK
    obtain ⟨⟨k, a⟩, hst⟩ := x
    replace hst : k ≤ l.length ∧ a = accA (l.take k) ∧ AccOk a ∧ a.1 = k := hst
    have hinc : wrp .i64 ((k : Int) + 1) = ((k + 1 : Nat) : Int) := by rw [wrpE, wi64]; have := hst.1; omega
    refine forkD (fun h => ?_) (fun h => ?_)
    · have h' : k < l.length := by have : (k : Int) < (l.length : Int) := h; omega
      obtain ⟨y, hy⟩ : ∃ y, l[k]? = some y := ⟨_, List.getElem?_eq_getElem h'⟩
      have hyb := hl y (List.mem_of_getElem? hy)
      have hik : (0 : Int) ≤ (k : Nat) ∧ ((k : Nat) : Int) < (l.length : Nat) := by omega
      have hdec : l.length - k = l.length - (k + 1) + 1 := by omega
      have hta := tallyA_ok a
      have hro := rOf_ok (l.take k) (by rw [List.length_take]; omega) (fun x hx => hl x (List.mem_of_mem_take hx))
      rw [← viewTake hst.1, ← hst.2.1] at hro
      obtain ⟨c1, s1, lo1, hi1, m1, hTa⟩ := tal_form a
      rw [hTa] at hta hro
      refine ⟨[0, 0, 0, 0, 0, 1, 0, 0, 0, 2, 2, 2], [[], [], [0, 1], [0, 1, 2], [0, 1, 2, 3], [0, 1, 2, 3, 4], [0, 1, 2, 3], [0, 1, 2, 3], [0, 1, 2, 3, 6, 7], [0, 1, 2, 3, 4, 5, 6, 7, 8], [0, 1, 2, 3, 4, 5, 6, 7, 8, 9], [0, 1, 2, 3, 4, 5, 6, 7, 8, 9, 10]], [0, 0, 0, 0, 0, 0, 0, 0, 0, 0, 0, 0], [5, 9], [[9], [8], [36, 37], [38], [7, 39], [40, 39], [5, 39], [8, 39], [42, 43, 39], [44, 39], [41, 45, 39], [39, 46]], Ob.intro (by kernel_rfl) ?_⟩
      refine fork (fun g => ?_) (fun g => ?_)
      · have hkq : k = q := by
          have : (k : Int) = (q : Int) := by simpa using g
          omega
        subst hkq
        have hb3 : (0 : Int) ≤ 0 ∧ (0 : Int) ≤ (k : Nat) ∧ ((k : Nat) : Int) ≤ (l.length : Nat) := by omega
        repeat first | refine same ?_ | refine Ob.intro hb3 ?_
        refine callH (H := [.row (talC c s lo hi m), adrA a]) hta [1] rfl ⟨.inl (by rw [renO_adr]; rfl), True.intro⟩ rfl rfl (H' := [.row (talC c s lo hi m), adrA a]) (by simp only [renH, renO_adr]; rfl) ?_
        repeat first | refine same ?_ | refine Ob.intro hb3 ?_
        refine callP hro rfl rfl ?_
        refine fork (fun g2 => by simp at g2) (fun g2 => ?_)
        repeat first | refine same ?_ | refine Ob.intro hb3 ?_
        refine Ob.intro hik ?_
        refine optK_intro (nth_map hy) ?_
        refine callH (addA_ok a y hst.2.2.1 hyb) [1] rfl ⟨.inl (by rw [renO_adr]; rfl), True.intro⟩ rfl rfl (H' := [.row (talC c s lo hi m), adrA (stepA a y)]) (by simp only [renH, renO_adr]; rfl) ?_
        refine hK ⟨(k + 1, stepA a y), stepOk (by omega) hy hyb hst⟩ [0, 1] _ hdec ⟨⟨rfl, rfl, rfl, rfl, congrArg i64 hinc, True.intro⟩, ⟨.inl rfl, .inl (by rw [renO_adr]; rfl), True.intro⟩, rfl, rfl, rfl⟩
      · repeat refine same ?_
        refine Ob.intro hik ?_
        refine optK_intro (nth_map hy) ?_
        refine callH (addA_ok a y hst.2.2.1 hyb) [1] rfl ⟨.inl (by rw [renO_adr]; rfl), True.intro⟩ rfl rfl (H' := [.row (talC c s lo hi m), adrA (stepA a y)]) (by simp only [renH, renO_adr]; rfl) ?_
        refine hK ⟨(k + 1, stepA a y), stepOk (by omega) hy hyb hst⟩ [0, 1] _ hdec ⟨⟨rfl, rfl, rfl, rfl, congrArg i64 hinc, True.intro⟩, ⟨.inl rfl, .inl (by rw [renO_adr]; rfl), True.intro⟩, rfl, rfl, rfl⟩
    · have h' : k = l.length := by have : ¬ (k : Int) < (l.length : Int) := h; have := hst.1; omega
      have ha : a = accA l := by rw [hst.2.1, h', List.take_length]
      have hta := tallyA_ok a
      rw [ha, hT0, ← ha] at hta
      refine ⟨[0, 1, 0, 1, 1, 1, 2, 1, 2, 2, 2], [[], [0], [], [0, 1, 2], [0, 1, 2, 3], [0, 1, 2, 3, 4], [0, 1, 2, 3, 4, 5], [0, 1, 2, 3, 4], [0, 1, 2, 3, 4, 5, 6, 7], [0, 1, 2, 3, 4, 5, 6, 7, 8], [0, 1, 2, 3, 4, 5, 6, 7, 8, 9]], [0, 0, 0, 0, 0, 0, 0, 0, 0, 0, 0], [1, 6], [[5], [55], [6], [56, 57], [58], [7, 59], [60, 59], [6, 59], [61, 62, 59], [59, 63], [64]], Ob.intro (by kernel_rfl) ?_⟩
      repeat refine same ?_
      refine callP f2 rfl rfl ?_
      refine fork (fun g => ?_) (fun g => by simp at g)
      repeat refine same ?_
      refine callH (H := [.row (talC c s lo hi m), adrA a]) hta [1] rfl ⟨.inl (by rw [renO_adr]; rfl), True.intro⟩ rfl rfl (H' := [.row (talC c s lo hi m), adrA a]) (by simp only [renH, renO_adr]; rfl) ?_
      refine fork (fun g => ?_) (fun g => by simp at g)
      repeat refine same ?_
      refine end0 rfl rfl rfl rfl
theorem wf_nats {l : List AV} (h : Wf (.slice (.int .u64)) l) : ∃ m : List Nat, l = [.view m.length (m.map u64n)] ∧ ∀ x ∈ m, x < 18446744073709551616 := by
  obtain ⟨rows, rfl, _, hr⟩ := h
  have key : ∀ rows : List (List AV), (∀ r ∈ rows, Wf (.int .u64) r) → ∃ m : List Nat, m.length = rows.length ∧ rows.flatten = m.map u64n ∧ ∀ x ∈ m, x < 18446744073709551616 := by
    intro rows
    induction rows with
    | nil => intro _; exact ⟨[], rfl, rfl, by simp⟩
    | cons r rows ih =>
      intro hr
      obtain ⟨m, h1, h2, h3⟩ := ih fun x hx => hr x (List.mem_cons_of_mem _ hx)
      obtain ⟨x, rfl, hx⟩ := wf_nat (hr r (List.mem_cons_self ..))
      refine ⟨x :: m, by simp [h1], by simp only [List.flatten_cons, h2, List.map_cons]; rfl, ?_⟩
      intro y hy
      rcases List.mem_cons.1 hy with rfl | hy
      · exact hx
      · exact h3 y hy
  obtain ⟨m, h1, h2, h3⟩ := key rows hr
  exact ⟨m, by rw [h1, h2], h3⟩
theorem aggTells_law (l0 : List AV) (w0 : Wf (.slice (.int .u64)) l0) (l1 : List AV) (w1 : Wf (.int .i64) l1) : ACalls Try.prog 3 [argA (.slice (.int .u64)) l0, argA (.int .i64) l1] [] (Ret (.sc (.bool true))) := by
  obtain ⟨m, rfl, hm⟩ := wf_nats w0
  obtain ⟨n, rfl, _⟩ := w1
  by_cases h : m.length ≤ 200
  · exact aggTells_ok m n h hm
  · exact aggTells_big m n h
end Go.Proofs.Ytihjhigckomapaa.A
