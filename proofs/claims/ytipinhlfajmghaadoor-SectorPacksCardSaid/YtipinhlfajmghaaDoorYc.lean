/- sector: Trim; Right; stamps. No condition. -/
import Derived.Test.YtipinhlfajmghaaDoorYb
namespace Go.Proofs.YtipinhlfajmghaaDoor.A
open Go
set_option linter.unusedVariables false
set_option maxRecDepth 100000
set_option pp.maxSteps 1500

theorem strEq_nilB (t : ByteArray) : strEq t ⟨#[]⟩ = decide (t.size = 0) := by
  rw [strEq_eq]
  show (t.data.toList == []) = decide (t.data.size = 0)
  rw [Bool.eq_iff_iff, beq_iff_eq, decide_eq_true_eq, ← Array.length_toList]
  exact List.length_eq_zero_iff.symm
theorem trim_var (s z : ByteArray) (hs : s.size ≤ 4611686018427387904) (hz1 : z.size = 1) (hz0 : atL z 0 = 0) : ACalls Tryd.prog 17 [str s, str z] [] (fun E G => ∃ v, (∃ r : ByteArray, v = str r ∧ (r.size = 0 ↔ ∀ i, i < s.size → atL s i = 0)) ∧ E = .ret v ∧ G = []) := by
  refine acalls_of_awp hT mixed Tryd.func17 rfl (by kernel_rfl) (by kernel_rfl) (Nat.le_of_ble_eq_true rfl) ?_
  refine fork (fun h => ?_) (fun h => ?_)
  · have hz : s.size = 0 := by
      have : strEq s ⟨#[]⟩ = true := h
      rw [strEq_nilB, decide_eq_true_eq] at this
      exact this
    refine endE rfl rfl rfl ⟨s, rfl, fun _ i hi => by omega, fun _ => hz⟩
  · refine fork (fun h2 => ?_) (fun h2 => ?_)
    · exfalso
      have : strEq z ⟨#[]⟩ = true := h2
      rw [strEq_nilB, decide_eq_true_eq] at this
      omega
    have hi : (0 : Int) ≤ 0 ∧ 0 < (z.size : Int) := by omega
    refine fork (fun h3 => ?_) (fun h3 => absurd h3 (by rw [hz1]; decide))
    refine Ob.intro hi ?_
    refine forkD (fun h4 => ?_) (fun h4 => absurd (show ((atL z 0 : Nat) : Int) < 128 by omega) h4)
    refine ⟨[0, 0, 0, 1, 0, 0, 2, 2], [[], [], [1], [0, 1, 2], [], [4], [0, 1, 2, 3, 4, 5], [0, 1, 2, 3, 4, 5, 6]], [0, 0, 0, 0, 0, 0, 0, 0], [3, 6], [[0], [1], [23], [22, 24], [1], [26], [25, 27], [28]], Ob.intro (by kernel_rfl) ?_⟩
    repeat first | refine same ?_ | refine Ob.intro hi ?_
    refine callE (trimRight_ok s (atL z 0) hs) rfl (fun v hv => by obtain ⟨r, rfl, _⟩ := hv; rfl) ?_
    rintro v ⟨r, rfl, h1, h2, h3, h4⟩
    repeat first | refine same ?_ | refine Ob.intro hi ?_
    refine callE (trimLeft_ok r (atL z 0) (by omega)) rfl (fun v hv => by obtain ⟨r, rfl, _⟩ := hv; rfl) ?_
    rintro v ⟨q, rfl, g1, g2⟩
    repeat first | refine same ?_ | refine Ob.intro hi ?_
    rw [hz0] at g2 h3
    rw [hz0] at h4
    refine endE rfl rfl rfl ⟨q, rfl, fun hq => ?_, fun hall => ?_⟩
    · intro i hi
      have hr := g2 hq
      by_cases hir : i < r.size
      · exfalso
        have hl := hr (r.size - 1) (by omega)
        have : atL r (r.size - 1) = atL s (r.size - 1) := by
          unfold atL
          rw [h2, List.getD_eq_getElem?_getD, List.getD_eq_getElem?_getD, List.getElem?_take_of_lt (by omega)]
        rw [this] at hl
        exact h4 (by omega) hl
      · exact h3 i (by omega) hi
    · have : r.size = 0 := by
        by_cases hz : r.size = 0
        · exact hz
        · exact absurd (hall (r.size - 1) (by omega)) (h4 (by omega))
      omega
theorem trim_ok (s : ByteArray) (hs : s.size ≤ 4611686018427387904) : ACalls Tryd.prog 17 [str s, str ⟨#[0]⟩] [] (fun E G => ∃ v, (∃ r : ByteArray, v = str r ∧ (r.size = 0 ↔ ∀ i, i < s.size → atL s i = 0)) ∧ E = .ret v ∧ G = []) := trim_var s ⟨#[0]⟩ hs rfl rfl
structure Stp where
  gen : Int
  index : Int
  life : Int
  part : Int
  parts : Int
def stC (x : Stp) : List AV := [i64 x.gen, i64 x.index, i64 x.life, i64 x.part, i64 x.parts]
def stA (x : Stp) : AV := .agg (stC x)
/-- May it be? -/
def okS (x : Stp) : Prop := (1 ≤ x.gen ∧ x.gen ≤ 2147483647) ∧ (1 ≤ x.life ∧ x.life ≤ 2147483647) ∧ (0 ≤ x.index ∧ x.index ≤ 127) ∧ (1 ≤ x.parts ∧ x.parts ≤ 128) ∧ 0 ≤ x.part ∧ x.part < x.parts
instance (x : Stp) : Decidable (okS x) := inferInstanceAs (Decidable (_ ∧ _))
theorem sRight_ok (x : Stp) : ACalls Tryd.prog 8 [stA x] [] (Ret (bo (decide (okS x)))) := by
  obtain ⟨g, ix, l, p, n⟩ := x
  have w1 := within_ok g 1 2147483647
  have w2 := within_ok l 1 2147483647
  have w3 := within_ok ix 0 127
  have w4 := within_ok n 1 128
  have w5 := within_ok p 0 (wrp .i64 (n - 1))
  by_cases h1 : 1 ≤ g ∧ g ≤ 2147483647
  · rw [decide_eq_true h1] at w1
    by_cases h2 : 1 ≤ l ∧ l ≤ 2147483647
    · rw [decide_eq_true h2] at w2
      by_cases h3 : 0 ≤ ix ∧ ix ≤ 127
      · rw [decide_eq_true h3] at w3
        by_cases h4 : 1 ≤ n ∧ n ≤ 128
        · rw [decide_eq_true h4] at w4
          have hw : wrp .i64 (n - 1) = n - 1 := by rw [wrpE, wi64]; omega
          by_cases h5 : 0 ≤ p ∧ p ≤ wrp .i64 (n - 1)
          · rw [decide_eq_true h5] at w5
            refine acalls_of_awp hT mixed Tryd.func8 rfl (by kernel_rfl) (by kernel_rfl) (Nat.le_of_ble_eq_true rfl) ?_
            refine callP w1 rfl rfl ?_
            refine callP w2 rfl rfl ?_
            refine callP w3 rfl rfl ?_
            refine callP w4 rfl rfl ?_
            refine callP w5 rfl rfl ?_
            refine end0 rfl rfl rfl (congrArg bo (decide_eq_true ⟨h1, h2, h3, h4, h5.1, ?_⟩).symm)
            have := h5.2
            rw [hw] at this
            show p < n
            omega
          · rw [decide_eq_false h5] at w5
            refine acalls_of_awp hT mixed Tryd.func8 rfl (by kernel_rfl) (by kernel_rfl) (Nat.le_of_ble_eq_true rfl) ?_
            refine callP w1 rfl rfl ?_
            refine callP w2 rfl rfl ?_
            refine callP w3 rfl rfl ?_
            refine callP w4 rfl rfl ?_
            refine callP w5 rfl rfl ?_
            refine end0 rfl rfl rfl (congrArg bo (decide_eq_false (fun hh => ?_)).symm)
            refine h5 ⟨hh.2.2.2.2.1, ?_⟩
            have : p < n := hh.2.2.2.2.2
            rw [hw]
            omega
        · rw [decide_eq_false h4] at w4
          refine acalls_of_awp hT mixed Tryd.func8 rfl (by kernel_rfl) (by kernel_rfl) (Nat.le_of_ble_eq_true rfl) ?_
          refine callP w1 rfl rfl ?_
          refine callP w2 rfl rfl ?_
          refine callP w3 rfl rfl ?_
          refine callP w4 rfl rfl ?_
          refine end0 rfl rfl rfl (congrArg bo (decide_eq_false (fun hh => ?_)).symm)
          exact h4 hh.2.2.2.1
      · rw [decide_eq_false h3] at w3
        refine acalls_of_awp hT mixed Tryd.func8 rfl (by kernel_rfl) (by kernel_rfl) (Nat.le_of_ble_eq_true rfl) ?_
        refine callP w1 rfl rfl ?_
        refine callP w2 rfl rfl ?_
        refine callP w3 rfl rfl ?_
        refine end0 rfl rfl rfl (congrArg bo (decide_eq_false (fun hh => ?_)).symm)
        exact h3 hh.2.2.1
    · rw [decide_eq_false h2] at w2
      refine acalls_of_awp hT mixed Tryd.func8 rfl (by kernel_rfl) (by kernel_rfl) (Nat.le_of_ble_eq_true rfl) ?_
      refine callP w1 rfl rfl ?_
      refine callP w2 rfl rfl ?_
      refine end0 rfl rfl rfl (congrArg bo (decide_eq_false (fun hh => ?_)).symm)
      exact h2 hh.2.1
  · rw [decide_eq_false h1] at w1
    refine acalls_of_awp hT mixed Tryd.func8 rfl (by kernel_rfl) (by kernel_rfl) (Nat.le_of_ble_eq_true rfl) ?_
    refine callP w1 rfl rfl ?_
    refine end0 rfl rfl rfl (congrArg bo (decide_eq_false (fun hh => ?_)).symm)
    exact h1 hh.1
theorem rsRight_ok (x : Stp) : ACalls Tryd.prog 9 [stA x] [] (Ret (bo (decide (okS x)))) := by
  obtain ⟨g, ix, l, p, n⟩ := x
  refine acalls_of_awp hT mixed Tryd.func9 rfl (by kernel_rfl) (by kernel_rfl) (Nat.le_of_ble_eq_true rfl) ?_
  refine forkD (fun h1 => ?_) (fun h1 => end0 rfl rfl rfl (congrArg bo (decide_eq_false (fun hh => h1 hh.1.1)).symm))
  refine forkD (fun h2 => ?_) (fun h2 => end0 rfl rfl rfl (congrArg bo (decide_eq_false (fun hh => h2 hh.1.2)).symm))
  refine forkD (fun h3 => ?_) (fun h3 => end0 rfl rfl rfl (congrArg bo (decide_eq_false (fun hh => h3 hh.2.1.1)).symm))
  refine forkD (fun h4 => ?_) (fun h4 => end0 rfl rfl rfl (congrArg bo (decide_eq_false (fun hh => h4 hh.2.1.2)).symm))
  refine forkD (fun h5 => ?_) (fun h5 => end0 rfl rfl rfl (congrArg bo (decide_eq_false (fun hh => h5 hh.2.2.1.1)).symm))
  refine forkD (fun h6 => ?_) (fun h6 => end0 rfl rfl rfl (congrArg bo (decide_eq_false (fun hh => h6 hh.2.2.1.2)).symm))
  refine forkD (fun h7 => ?_) (fun h7 => end0 rfl rfl rfl (congrArg bo (decide_eq_false (fun hh => h7 hh.2.2.2.1.1)).symm))
  refine forkD (fun h8 => ?_) (fun h8 => end0 rfl rfl rfl (congrArg bo (decide_eq_false (fun hh => h8 hh.2.2.2.1.2)).symm))
  refine forkD (fun h9 => ?_) (fun h9 => end0 rfl rfl rfl (congrArg bo (decide_eq_false (fun hh => h9 hh.2.2.2.2.1)).symm))
  refine forkD (fun h10 => ?_) (fun h10 => end0 rfl rfl rfl (congrArg bo (decide_eq_false (fun hh => h10 hh.2.2.2.2.2)).symm))
  refine end0 rfl rfl rfl (congrArg bo (decide_eq_true ⟨⟨h1, h2⟩, ⟨h3, h4⟩, ⟨h5, h6⟩, ⟨h7, h8⟩, h9, h10⟩).symm)
end Go.Proofs.YtipinhlfajmghaaDoor.A
