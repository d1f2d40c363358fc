/- The law AggExact, by the functions that it calls. No condition. -/
import Derived.Test.YtihjhigckomapaaHc
namespace Go.Proofs.Ytihjhigckomapaa.A
open Go
set_option linter.unusedVariables false
set_option maxRecDepth 100000
set_option pp.maxSteps 1500

theorem aggExact_big (l : List Nat) (hn : ¬ l.length ≤ 600) : ACalls Try.prog 6 [.view l.length (l.map u64n)] [] (Ret (bo true)) := by
  refine acalls_of_awp hT mixed Try.func6 rfl (by kernel_rfl) (by kernel_rfl) (Nat.le_of_ble_eq_true rfl) ?_
  refine callP awakeG_ok rfl rfl ?_
  refine forkD (fun h => end0 rfl rfl rfl rfl) (fun h => by omega)
theorem exV_form (l : List Nat) : (∃ b i, exV l = .tup [fl b, i64 i] ∧ i ≠ 0) ∨ ((∀ b ∈ l, smallB b) ∧ l.length ≤ 512 ∧ exV l = .tup [fl (wN (sumB l)), i64 0]) := by
  unfold exV
  by_cases h : ∀ b ∈ l, smallB b
  · rw [if_pos h]
    by_cases hl : l.length ≤ 512
    · rw [if_pos hl]
      exact .inr ⟨h, hl, rfl⟩
    · rw [if_neg hl]
      exact .inl ⟨_, _, rfl, by decide⟩
  · rw [if_neg h]
    exact .inl ⟨_, _, rfl, by decide⟩
structure WaySt (l : List Nat) : Type where
  k : Nat
  hk : k ≤ l.length
  sm : ∀ j, j ≤ k → (sumB (l.take j)).natAbs ≤ 9007199254740992
theorem wN_sum_eq {l : List Nat} (hs : (sumB l).natAbs ≤ 9007199254740992) : Rep (wN (sumB l)) (sumB l) := by
  by_cases h0 : sumB l = 0
  · rw [h0]
    exact rep_zero
  · exact rep_small h0 hs
theorem aggExact_ok (l : List Nat) (hn : l.length ≤ 600) (hl : ∀ x ∈ l, x < 18446744073709551616) : ACalls Try.prog 6 [.view l.length (l.map u64n)] [] (Ret (bo true)) := by
  have f1 := exact_ok l (by omega)
  have f2 := rExact_ok l (by omega) hl
  rcases exV_form l with ⟨b, i, hv, hi⟩ | ⟨hsm, h512, hv⟩
  · rw [hv] at f1 f2
    refine acalls_of_awp hT mixed Try.func6 rfl (by kernel_rfl) (by kernel_rfl) (Nat.le_of_ble_eq_true rfl) ?_
    refine callP awakeG_ok rfl rfl ?_
    refine forkD (fun h => by omega) (fun h => ?_)
    refine callP (floats_ok l (by omega)) rfl rfl ?_
    refine callP f1 rfl rfl ?_
    refine callP f2 rfl rfl ?_
    refine fork (fun h => absurd rfl (bne_iff_ne.1 h)) (fun h => ?_)
    refine callP (float64bits_ok b) rfl rfl ?_
    refine callP (float64bits_ok b) rfl rfl ?_
    refine fork (fun h => absurd rfl (bne_iff_ne.1 h)) (fun h => ?_)
    refine fork (fun h => end0 rfl rfl rfl rfl) (fun h => absurd (bne_eq_false_iff_eq.1 h) hi)
  · rw [hv] at f1 f2
    generalize hx : wN (sumB l) = x at *
    have f3 := ofA_ok l (by omega) hl
    refine acalls_of_awp hT mixed Try.func6 rfl (by kernel_rfl) (by kernel_rfl) (Nat.le_of_ble_eq_true rfl) ?_
    refine callP awakeG_ok rfl rfl ?_
    refine forkD (fun h => by omega) (fun h => ?_)
    refine callP (floats_ok l (by omega)) rfl rfl ?_
    refine callP f1 rfl rfl ?_
    refine callP f2 rfl rfl ?_
    refine callP (float64bits_ok x) rfl rfl ?_
    refine callP (float64bits_ok x) rfl rfl ?_
    refine fork (fun h => absurd rfl (bne_iff_ne.1 h)) (fun h => ?_)
    refine loopI (α := WaySt l) (fun z => [(3, .view l.length (l.map fl)), (4, fl x), (8, i64 (sumB (l.take z.k))), (9, i64 (z.k : Nat))]) (fun _ => []) (fun z => l.length - z.k) ⟨0, Nat.zero_le _, fun j hj => by rw [Nat.le_zero.1 hj, List.take_zero]; decide⟩ [] ⟨⟨rfl, rfl, rfl, rfl, True.intro⟩, True.intro, rfl, rfl, rfl⟩ ?_
    rintro ⟨k, hk, hsum⟩ K hK
    have hinc : wrp .i64 ((k : Int) + 1) = ((k + 1 : Nat) : Int) := by rw [wrpE, wi64]; omega
    refine forkD (fun h => ?_) (fun h => ?_)
    · have h' : k < l.length := by have : (k : Int) < (l.length : Int) := h; omega
      obtain ⟨y, hy⟩ : ∃ y, l[k]? = some y := ⟨_, List.getElem?_eq_getElem h'⟩
      have hmem := List.mem_of_getElem? hy
      have hwh := rWhole_ok y (hl y hmem)
      obtain ⟨hw1, hw2⟩ := rw_wh (hl y hmem)
      have hsy := hsm y hmem
      rw [hw1.2 hsy.1, hw2 hsy.1] at hwh
      have hs0 := hsum k (Nat.le_refl _)
      have hadd : wrp .i64 (sumB (l.take k) + intB y) = sumB (l.take (k + 1)) := by
        rw [take_snocA hy, sumB_snoc, wrpE, wi64]
        have := hsy.2
        omega
      refine Ob.intro (show (0 : Int) ≤ (k : Nat) ∧ ((k : Nat) : Int) < (l.length : Nat) by omega) ?_
      refine optK_intro (nth_map hy) ?_
      refine callP hwh rfl rfl ?_
      refine forkD (fun h1 => end0 rfl rfl rfl rfl) (fun h1 => ?_)
      refine forkD (fun h2 => end0 rfl rfl rfl rfl) (fun h2 => ?_)
      rw [hadd] at h1 h2
      refine hK ⟨k + 1, h', fun j hj => ?_⟩ [] _ (show l.length - k = l.length - (k + 1) + 1 by omega) ⟨⟨rfl, rfl, congrArg i64 hadd, congrArg i64 hinc, True.intro⟩, True.intro, rfl, rfl, rfl⟩
      by_cases hjk : j ≤ k
      · exact hsum j hjk
      · obtain rfl : j = k + 1 := by omega
        omega
    · have h' : k = l.length := by have : ¬ (k : Int) < (l.length : Int) := h; omega
      subst h'
      by_cases h0 : l.length = 0
      · obtain rfl := List.eq_nil_of_length_eq_zero h0
        refine callP f3 rfl rfl ?_
        refine end0 rfl rfl rfl rfl
      · obtain ⟨c, hc1, hc2⟩ := acc_rep l (fun b hb => (hsm b hb).1) hsum
        have htal : ∃ n lo hi m, talA (accA l) = tal n c lo hi m := by
          unfold talA
          rw [if_neg (by rw [accA_len]; exact h0), hc1]
          have : bitsO (some c) = c := by
            show bitsB c = c
            unfold bitsB
            rw [rep_notNan hc2]
            rfl
          rw [this]
          exact ⟨_, _, _, _, rfl⟩
        obtain ⟨n, lo, hi, m, ht⟩ := htal
        rw [ht] at f3
        have hs := hsum l.length (Nat.le_refl _)
        rw [List.take_length] at hs
        have hord := order_rep hc2 (hx ▸ wN_sum_eq hs)
        refine callP f3 rfl rfl ?_
        refine fork (fun h1 => absurd (beq_iff_eq.1 h1) (by omega)) (fun h1 => ?_)
        refine callP (float64frombits_ok (c : Nat)) rfl rfl ?_
        refine fork (fun h2 => end0 rfl rfl rfl rfl) (fun h2 => ?_)
        have h2 : (ordr .f64 c x == some .eq) = false := h2
        rw [ordr_eq, hord] at h2
        cases h2
theorem aggExact_law (l0 : List AV) (w0 : Wf (.slice (.int .u64)) l0) : ACalls Try.prog 6 [argA (.slice (.int .u64)) l0] [] (Ret (.sc (.bool true))) := by
  obtain ⟨l, rfl, hl⟩ := wf_nats w0
  by_cases hn : l.length ≤ 600
  · exact aggExact_ok l hn hl
  · exact aggExact_big l hn
end Go.Proofs.Ytihjhigckomapaa.A
