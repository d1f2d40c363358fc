/- The document's tally of numbers. No condition. -/
import Derived.Test.YtihjhigckomapaaGd
namespace Go.Proofs.Ytihjhigckomapaa.A
open Go
set_option linter.unusedVariables false
set_option maxRecDepth 100000
set_option pp.maxSteps 1500

/-- The sum, the least, the greatest of the first k, the first one standing for the least and the greatest of none. -/
def RefSt (l : List Nat) (x0 : Nat) : Type := { x : Nat × Option Nat × Nat × Nat // x.1 ≤ l.length ∧ x.2.1 = (accA (l.take x.1)).2.1 ∧ x.2.2.1 = (if x.1 = 0 then x0 else (accA (l.take x.1)).2.2.1) ∧ x.2.2.2 = (if x.1 = 0 then x0 else (accA (l.take x.1)).2.2.2) ∧ x.2.2.1 < 18446744073709551616 ∧ x.2.2.2 < 18446744073709551616 }
theorem accA_cnt : ∀ (l : List Nat) (a : Acc), (l.foldl stepA a).1 = a.1 + l.length
  | [], a => rfl
  | x :: l, a => by
    simp only [List.foldl, List.length_cons]
    rw [accA_cnt l]
    simp only [stepA]
    omega
theorem accA_len (l : List Nat) : (accA l).1 = l.length := by
  unfold accA
  rw [accA_cnt]
  exact Nat.zero_add _
theorem refStep {l : List Nat} {x0 k y : Nat} {s s' : Option Nat} {lo hi lo' hi' : Nat} (h0 : l[0]? = some x0) (hy : l[k]? = some y) (hb : y < 18446744073709551616)
    (h : k ≤ l.length ∧ s = (accA (l.take k)).2.1 ∧ lo = (if k = 0 then x0 else (accA (l.take k)).2.2.1) ∧ hi = (if k = 0 then x0 else (accA (l.take k)).2.2.2) ∧ lo < 18446744073709551616 ∧ hi < 18446744073709551616)
    (hs : addS s y = s') (hlo : lo' = if placeB y < placeB lo then y else lo) (hhi : hi' = if placeB hi < placeB y then y else hi) :
    k + 1 ≤ l.length ∧ s' = (accA (l.take (k + 1))).2.1 ∧ lo' = (if k + 1 = 0 then x0 else (accA (l.take (k + 1))).2.2.1) ∧ hi' = (if k + 1 = 0 then x0 else (accA (l.take (k + 1))).2.2.2) ∧ lo' < 18446744073709551616 ∧ hi' < 18446744073709551616 := by
  obtain ⟨h1, h2, h3, h4, h5, h6⟩ := h
  have hi0 := (List.getElem?_eq_some_iff.1 hy).1
  rw [take_snoc' hy, accA_snoc, if_neg (by omega), if_neg (by omega)]
  have hcnt : (accA (l.take k)).1 = k := by rw [accA_len, List.length_take]; omega
  have hk0 : k = 0 → y = x0 := fun h => by subst h; rw [hy] at h0; exact Option.some.inj h0
  refine ⟨hi0, by rw [← hs, h2]; rfl, ?_, ?_, by rw [hlo]; split <;> assumption, by rw [hhi]; split <;> assumption⟩
  · rw [hlo]
    show _ = lowS (accA (l.take k)).1 (accA (l.take k)).2.2.1 y
    unfold lowS
    rw [hcnt]
    by_cases hk : k = 0
    · rw [if_pos hk] at h3
      rw [h3, ← hk0 hk, if_neg (Nat.lt_irrefl _), if_pos (Or.inl hk)]
    · rw [if_neg hk] at h3
      rw [h3]
      simp only [hk, false_or]
  · rw [hhi]
    show _ = highS (accA (l.take k)).1 (accA (l.take k)).2.2.2 y
    unfold highS
    rw [hcnt]
    by_cases hk : k = 0
    · rw [if_pos hk] at h4
      rw [h4, ← hk0 hk, if_neg (Nat.lt_irrefl _), if_pos (Or.inl hk)]
    · rw [if_neg hk] at h4
      rw [h4]
      simp only [hk, false_or]
theorem rOf_ok (l : List Nat) (hn : l.length ≤ 1000) (hl : ∀ x ∈ l, x < 18446744073709551616) : ACalls Try.prog 9 [.view l.length (l.map fl)] [] (Ret (talA (accA l))) := by
  refine acalls_of_awp hT mixed Try.func9 rfl (by kernel_rfl) (by kernel_rfl) (Nat.le_of_ble_eq_true rfl) ?_
  have hcnt := accA_len l
  refine fork (fun h => ?_) (fun h => ?_)
  · have h0 : l.length = 0 := by
      have := beq_iff_eq.1 h
      omega
    refine end0 rfl rfl rfl ?_
    unfold talA
    rw [if_pos (by omega)]
    rfl
  · have hne : ¬ l.length = 0 := by
      have := beq_eq_false_iff_ne.1 h
      omega
    obtain ⟨x0, hx0⟩ : ∃ x0, l[0]? = some x0 := ⟨_, List.getElem?_eq_getElem (by omega)⟩
    have hb0 := hl x0 (List.mem_of_getElem? hx0)
    have hix : (0 : Int) ≤ 0 ∧ (0 : Int) < (l.length : Nat) := by omega
    have hn0 : nth (List.drop ((0 : Int).toNat * 1) (l.map fl)) 0 = some (fl x0) := nth_map hx0
    refine ⟨[0, 0, 0, 0, 0, 0, 0, 0], [[], [0], [0, 1], [], [3], [3, 4], [0, 1, 2], [0, 1, 2, 3, 4, 5, 6]], [0, 0, 0, 0, 0, 0, 0, 0], [], [[0], [12], [13], [0], [15], [16], [14], [17]], Ob.intro (by kernel_rfl) ?_⟩
    refine Ob.intro hix ?_
    refine optK_intro hn0 ?_
    refine Ob.intro hix ?_
    refine optK_intro hn0 ?_
    refine optK_intro hn0 ?_
    refine same ?_
    refine optK_intro hn0 ?_
    refine same ?_
    refine loopI (α := RefSt l x0) (fun x => [(0, .view l.length (l.map fl)), (2, .ptr 0 0), (3, flo x.val.2.1), (4, fl x.val.2.2.1), (5, fl x.val.2.2.2), (6, i64 (x.val.1 : Nat))]) (fun x => [zTal]) (fun x => l.length - x.val.1)
      ⟨(0, some 0, x0, x0), Nat.zero_le _, rfl, rfl, rfl, hb0, hb0⟩ [0] ⟨⟨rfl, rfl, rfl, rfl, rfl, rfl, True.intro⟩, ⟨.inl rfl, True.intro⟩, rfl, rfl, rfl⟩ ?_
    intro x K hK
    obtain ⟨⟨k, s, lo, hi⟩, hst⟩ := x
    replace hst : k ≤ l.length ∧ s = (accA (l.take k)).2.1 ∧ lo = (if k = 0 then x0 else (accA (l.take k)).2.2.1) ∧ hi = (if k = 0 then x0 else (accA (l.take k)).2.2.2) ∧ lo < 18446744073709551616 ∧ hi < 18446744073709551616 := hst
    have hlo := hst.2.2.2.2.1
    have hhi := hst.2.2.2.2.2
    have hinc : wrp .i64 ((k : Int) + 1) = ((k + 1 : Nat) : Int) := by rw [wrpE, wi64]; have := hst.1; omega
    refine forkD (fun h => ?_) (fun h => ?_)
    · have h' : k < l.length := by have : (k : Int) < (l.length : Int) := h; omega
      obtain ⟨y, hy⟩ : ∃ y, l[k]? = some y := ⟨_, List.getElem?_eq_getElem h'⟩
      have hyb := hl y (List.mem_of_getElem? hy)
      have hik : (0 : Int) ≤ (k : Nat) ∧ ((k : Nat) : Int) < (l.length : Nat) := by omega
      have hnk : nth (List.drop ((k : Int).toNat * 1) (l.map fl)) 0 = some (fl y) := nth_map hy
      have hdec : l.length - k = l.length - (k + 1) + 1 := by omega
      obtain ⟨s', hs'⟩ : ∃ s', addS s y = s' := ⟨_, rfl⟩
      cases s with
      | none =>
        obtain rfl : none = s' := hs'
        refine Ob.intro hik ?_
        refine optK_intro hnk ?_
        refine Ob.intro hik ?_
        refine optK_intro hnk ?_
        refine callP (less_ok y lo hyb hlo) rfl rfl ?_
        refine forkD (fun g1 => ?_) (fun g1 => ?_)
        · refine Ob.intro hik ?_
          refine optK_intro hnk ?_
          refine Ob.intro hik ?_
          refine optK_intro hnk ?_
          refine callP (less_ok hi y hhi hyb) rfl rfl ?_
          refine forkD (fun g2 => ?_) (fun g2 => ?_)
          · refine Ob.intro hik ?_
            refine optK_intro hnk ?_
            refine hK ⟨(k + 1, none, y, y), refStep hx0 hy hyb hst rfl (if_pos g1).symm (if_pos g2).symm⟩ [0] _ hdec ⟨⟨rfl, rfl, rfl, rfl, rfl, congrArg i64 hinc, True.intro⟩, ⟨.inl rfl, True.intro⟩, rfl, rfl, rfl⟩
          · refine hK ⟨(k + 1, none, y, hi), refStep hx0 hy hyb hst rfl (if_pos g1).symm (if_neg g2).symm⟩ [0] _ hdec ⟨⟨rfl, rfl, rfl, rfl, rfl, congrArg i64 hinc, True.intro⟩, ⟨.inl rfl, True.intro⟩, rfl, rfl, rfl⟩
        · refine Ob.intro hik ?_
          refine optK_intro hnk ?_
          refine callP (less_ok hi y hhi hyb) rfl rfl ?_
          refine forkD (fun g2 => ?_) (fun g2 => ?_)
          · refine Ob.intro hik ?_
            refine optK_intro hnk ?_
            refine hK ⟨(k + 1, none, lo, y), refStep hx0 hy hyb hst rfl (if_neg g1).symm (if_pos g2).symm⟩ [0] _ hdec ⟨⟨rfl, rfl, rfl, rfl, rfl, congrArg i64 hinc, True.intro⟩, ⟨.inl rfl, True.intro⟩, rfl, rfl, rfl⟩
          · refine hK ⟨(k + 1, none, lo, hi), refStep hx0 hy hyb hst rfl (if_neg g1).symm (if_neg g2).symm⟩ [0] _ hdec ⟨⟨rfl, rfl, rfl, rfl, rfl, congrArg i64 hinc, True.intro⟩, ⟨.inl rfl, True.intro⟩, rfl, rfl, rfl⟩
      | some z =>
        have hz : fari .add .f64 z y = s' := hs'
        cases s' with
        | none =>
          refine Ob.intro hik ?_
          refine optK_intro hnk ?_
          refine forO (fun hq => ?_) (fun r hq => by rw [hz] at hq; cases hq)
          refine Ob.intro hik ?_
          refine optK_intro hnk ?_
          refine callP (less_ok y lo hyb hlo) rfl rfl ?_
          refine forkD (fun g1 => ?_) (fun g1 => ?_)
          · refine Ob.intro hik ?_
            refine optK_intro hnk ?_
            refine Ob.intro hik ?_
            refine optK_intro hnk ?_
            refine callP (less_ok hi y hhi hyb) rfl rfl ?_
            refine forkD (fun g2 => ?_) (fun g2 => ?_)
            · refine Ob.intro hik ?_
              refine optK_intro hnk ?_
              refine hK ⟨(k + 1, none, y, y), refStep hx0 hy hyb hst hs' (if_pos g1).symm (if_pos g2).symm⟩ [0] _ hdec ⟨⟨rfl, rfl, rfl, rfl, rfl, congrArg i64 hinc, True.intro⟩, ⟨.inl rfl, True.intro⟩, rfl, rfl, rfl⟩
            · refine hK ⟨(k + 1, none, y, hi), refStep hx0 hy hyb hst hs' (if_pos g1).symm (if_neg g2).symm⟩ [0] _ hdec ⟨⟨rfl, rfl, rfl, rfl, rfl, congrArg i64 hinc, True.intro⟩, ⟨.inl rfl, True.intro⟩, rfl, rfl, rfl⟩
          · refine Ob.intro hik ?_
            refine optK_intro hnk ?_
            refine callP (less_ok hi y hhi hyb) rfl rfl ?_
            refine forkD (fun g2 => ?_) (fun g2 => ?_)
            · refine Ob.intro hik ?_
              refine optK_intro hnk ?_
              refine hK ⟨(k + 1, none, lo, y), refStep hx0 hy hyb hst hs' (if_neg g1).symm (if_pos g2).symm⟩ [0] _ hdec ⟨⟨rfl, rfl, rfl, rfl, rfl, congrArg i64 hinc, True.intro⟩, ⟨.inl rfl, True.intro⟩, rfl, rfl, rfl⟩
            · refine hK ⟨(k + 1, none, lo, hi), refStep hx0 hy hyb hst hs' (if_neg g1).symm (if_neg g2).symm⟩ [0] _ hdec ⟨⟨rfl, rfl, rfl, rfl, rfl, congrArg i64 hinc, True.intro⟩, ⟨.inl rfl, True.intro⟩, rfl, rfl, rfl⟩
        | some r =>
          refine Ob.intro hik ?_
          refine optK_intro hnk ?_
          refine forO (fun hq => by rw [hz] at hq; cases hq) (fun r2 hq => ?_)
          obtain rfl : r = r2 := by rw [hz] at hq; exact Option.some.inj hq
          refine Ob.intro hik ?_
          refine optK_intro hnk ?_
          refine callP (less_ok y lo hyb hlo) rfl rfl ?_
          refine forkD (fun g1 => ?_) (fun g1 => ?_)
          · refine Ob.intro hik ?_
            refine optK_intro hnk ?_
            refine Ob.intro hik ?_
            refine optK_intro hnk ?_
            refine callP (less_ok hi y hhi hyb) rfl rfl ?_
            refine forkD (fun g2 => ?_) (fun g2 => ?_)
            · refine Ob.intro hik ?_
              refine optK_intro hnk ?_
              refine hK ⟨(k + 1, some r, y, y), refStep hx0 hy hyb hst hs' (if_pos g1).symm (if_pos g2).symm⟩ [0] _ hdec ⟨⟨rfl, rfl, rfl, rfl, rfl, congrArg i64 hinc, True.intro⟩, ⟨.inl rfl, True.intro⟩, rfl, rfl, rfl⟩
            · refine hK ⟨(k + 1, some r, y, hi), refStep hx0 hy hyb hst hs' (if_pos g1).symm (if_neg g2).symm⟩ [0] _ hdec ⟨⟨rfl, rfl, rfl, rfl, rfl, congrArg i64 hinc, True.intro⟩, ⟨.inl rfl, True.intro⟩, rfl, rfl, rfl⟩
          · refine Ob.intro hik ?_
            refine optK_intro hnk ?_
            refine callP (less_ok hi y hhi hyb) rfl rfl ?_
            refine forkD (fun g2 => ?_) (fun g2 => ?_)
            · refine Ob.intro hik ?_
              refine optK_intro hnk ?_
              refine hK ⟨(k + 1, some r, lo, y), refStep hx0 hy hyb hst hs' (if_neg g1).symm (if_pos g2).symm⟩ [0] _ hdec ⟨⟨rfl, rfl, rfl, rfl, rfl, congrArg i64 hinc, True.intro⟩, ⟨.inl rfl, True.intro⟩, rfl, rfl, rfl⟩
            · refine hK ⟨(k + 1, some r, lo, hi), refStep hx0 hy hyb hst hs' (if_neg g1).symm (if_neg g2).symm⟩ [0] _ hdec ⟨⟨rfl, rfl, rfl, rfl, rfl, congrArg i64 hinc, True.intro⟩, ⟨.inl rfl, True.intro⟩, rfl, rfl, rfl⟩
    · have h' : k = l.length := by have := hst.1; have : ¬ (k : Int) < (l.length : Int) := h; omega
      obtain ⟨_, h2, h3, h4, _, _⟩ := hst
      rw [h', List.take_length] at h2 h3 h4
      rw [if_neg hne] at h3 h4
      obtain ⟨m, hm⟩ : ∃ m, meanS s l.length = m := ⟨_, rfl⟩
      have bs := rBitsO_ok s
      have bm := rBitsO_ok m
      have hend : tal l.length (bitsO s) (bitsB lo) (bitsB hi) (bitsO m) = talA (accA l) := by
        unfold talA
        rw [if_neg (by omega), hcnt, ← h2, ← h3, ← h4, hm]
      clear h2 h3 h4
      generalize bitsO s = sb at *
      generalize bitsO m = mb at *
      cases s with
      | none =>
        obtain rfl : none = m := hm
        refine callP bs rfl rfl ?_
        refine callP (rBits_any lo) rfl rfl ?_
        refine callP (rBits_any hi) rfl rfl ?_
        refine callP bm rfl rfl ?_
        refine end0 rfl rfl rfl ?_
        exact hend
      | some z =>
        have hz : fari .quo .f64 z (FloatKind.f64.nearest (l.length : Int)) = m := hm
        cases m with
        | none =>
          refine forO (fun hq => ?_) (fun r hq => by rw [hz] at hq; cases hq)
          refine callP bs rfl rfl ?_
          refine callP (rBits_any lo) rfl rfl ?_
          refine callP (rBits_any hi) rfl rfl ?_
          refine callP bm rfl rfl ?_
          refine end0 rfl rfl rfl ?_
          exact hend
        | some r =>
          refine forO (fun hq => by rw [hz] at hq; cases hq) (fun r2 hq => ?_)
          obtain rfl : r = r2 := by rw [hz] at hq; exact Option.some.inj hq
          refine callP bs rfl rfl ?_
          refine callP (rBits_any lo) rfl rfl ?_
          refine callP (rBits_any hi) rfl rfl ?_
          refine callP bm rfl rfl ?_
          refine end0 rfl rfl rfl ?_
          exact hend
end Go.Proofs.Ytihjhigckomapaa.A
