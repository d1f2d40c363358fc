/- extent: the law ExtentPlays, put together. No condition. -/
import Derived.Test.YtpkbdlocmjgmbaaZh
namespace Go.Proofs.Ytpkbdlocmjgmbaa.A
open Go
set_option linter.unusedVariables false
set_option linter.unusedSimpArgs false
set_option maxRecDepth 100000
set_option pp.maxSteps 600
theorem plays_skip (n sec : Int) (L : List Xa) (h : (8 < n ∧ n ≤ 32) ∨ (20 < sec ∧ sec ≤ 128)) : ACalls Try.prog 5 [i64 n, i64 sec, .view L.length (flat xaC L)] [] (Ret (bo true)) := by
  refine acalls_of_awp hT mixed Try.func5 rfl (by kernel_rfl) (by kernel_rfl) (Nat.le_of_ble_eq_true rfl) ?_
  refine callP awakeX_ok rfl rfl ?_
  refine forkD (fun h1 => ?_) (fun h1 => ?_)
  · refine forkD (fun h2 => end0 rfl rfl rfl rfl) (fun h2 => ?_)
    refine forkD (fun h3 => ?_) (fun h3 => ?_)
    · refine forkD (fun h4 => end0 rfl rfl rfl rfl) (fun h4 => ?_)
      exact absurd h (by omega)
    · exact absurd h (by omega)
  · refine forkD (fun h3 => ?_) (fun h3 => ?_)
    · refine forkD (fun h4 => end0 rfl rfl rfl rfl) (fun h4 => ?_)
      exact absurd h (by omega)
    · exact absurd h (by omega)
theorem plays_bad (n sec : Int) (L : List Xa) (hb : ¬ ((1 ≤ n ∧ n ≤ 32) ∧ 1 ≤ sec ∧ sec ≤ 128)) : ACalls Try.prog 5 [i64 n, i64 sec, .view L.length (flat xaC L)] [] (Ret (bo true)) := by
  by_cases h : (8 < n ∧ n ≤ 32) ∨ (20 < sec ∧ sec ≤ 128)
  · exact plays_skip n sec L h
  refine acalls_of_awpC [5] hT mixed Try.func5 rfl (by kernel_rfl) (by kernel_rfl) (Nat.le_of_ble_eq_true rfl) ?_
  refine callP awakeX_ok rfl rfl ?_
  refine cutI (α := Unit) (fun _ => [(0, i64 n), (1, i64 sec)]) (fun _ => []) [] (fun K1 hK1 => ?_) (fun _ => ?_)
  · refine forkD (fun h1 => ?_) (fun h1 => ?_)
    · refine forkD (fun h2 => absurd h (by omega)) (fun h2 => ?_)
      refine forkD (fun h3 => ?_) (fun h3 => ?_)
      · refine forkD (fun h4 => absurd h (by omega)) (fun h4 => ?_)
        exact hK1 () [] [] _ ⟨⟨rfl, rfl, True.intro⟩, True.intro, rfl, rfl, rfl⟩
      · exact hK1 () [] [] _ ⟨⟨rfl, rfl, True.intro⟩, True.intro, rfl, rfl, rfl⟩
    · refine forkD (fun h3 => ?_) (fun h3 => ?_)
      · refine forkD (fun h4 => absurd h (by omega)) (fun h4 => ?_)
        exact hK1 () [] [] _ ⟨⟨rfl, rfl, True.intro⟩, True.intro, rfl, rfl, rfl⟩
      · exact hK1 () [] [] _ ⟨⟨rfl, rfl, True.intro⟩, True.intro, rfl, rfl, rfl⟩
  refine callP (newE_bad n sec hb) rfl rfl ?_
  refine callP (refNew_bad n sec hb) rfl rfl ?_
  exact end0 rfl rfl rfl rfl
theorem extentPlays_law (l0 : List AV) (w0 : Wf (.int .i64) l0) (l1 : List AV) (w1 : Wf (.int .i64) l1) (l2 : List AV) (w2 : Wf (.slice (.strct (.cons (.int .i64) (.cons (.int .i64) (.cons (.int .i64) (.cons .str (.cons (.slice (.strct (.cons (.int .i64) (.cons (.int .i64) .none)))) .none))))))) l2) : ACalls Try.prog 5 [argA (.int .i64) l0, argA (.int .i64) l1, argA (.slice (.strct (.cons (.int .i64) (.cons (.int .i64) (.cons (.int .i64) (.cons .str (.cons (.slice (.strct (.cons (.int .i64) (.cons (.int .i64) .none)))) .none))))))) l2] [] (Ret (.sc (.bool true))) := by
  obtain ⟨n, rfl, _⟩ := w0
  obtain ⟨sec, rfl, _⟩ := w1
  obtain ⟨L, rfl, _, _⟩ := wf_acts w2
  show ACalls _ _ [i64 n, i64 sec, .view L.length (flat xaC L)] _ _
  by_cases hb : (1 ≤ n ∧ n ≤ 32) ∧ 1 ≤ sec ∧ sec ≤ 128
  · by_cases h : (8 < n ∧ n ≤ 32) ∨ (20 < sec ∧ sec ≤ 128)
    · exact plays_skip n sec L h
    · obtain ⟨s, rfl⟩ : ∃ s : Nat, sec = s := ⟨sec.toNat, by omega⟩
      have hn : n = ((1 : Nat) : Int) ∨ n = ((2 : Nat) : Int) ∨ n = ((3 : Nat) : Int) ∨ n = ((4 : Nat) : Int) ∨ n = ((5 : Nat) : Int) ∨ n = ((6 : Nat) : Int) ∨ n = ((7 : Nat) : Int) ∨ n = ((8 : Nat) : Int) := by omega
      have h1 : 1 ≤ s := by omega
      have h2 : s ≤ 20 := by omega
      rcases hn with rfl | rfl | rfl | rfl | rfl | rfl | rfl | rfl
      · exact plays_1 s h1 h2 L
      · exact plays_2 s h1 h2 L
      · exact plays_3 s h1 h2 L
      · exact plays_4 s h1 h2 L
      · exact plays_5 s h1 h2 L
      · exact plays_6 s h1 h2 L
      · exact plays_7 s h1 h2 L
      · exact plays_8 s h1 h2 L
  · exact plays_bad n sec L hb
end Go.Proofs.Ytpkbdlocmjgmbaa.A
