/- extent: an act on a world of four. No condition. -/
import Derived.Test.YtpkbdlocmjgmbaaXu
namespace Go.Proofs.Ytpkbdlocmjgmbaa.A
open Go
set_option linter.unusedVariables false
set_option linter.unusedSimpArgs false
set_option maxRecDepth 100000
set_option pp.maxSteps 600
/-- A world behind an act. -/
def Wd.play (w : Wd) (x : Xa) : Wd :=
  if x.k = 1 then (w.write x.e x.a x.s).2 else if x.k = 2 then (w.flush x.e).2 else if x.k = 3 then (if x.ps.length ≤ 100 then (w.crash x.ps).2 else w) else if x.k = 4 then w.start.2 else if x.k = 5 then (w.lay x.e x.a x.s).2 else w
theorem play_is {w : Wd} {n sec : Nat} (h : w.is n sec) (x : Xa) : (w.play x).is n sec := by
  unfold Wd.play
  split
  · exact write_is h ..
  split
  · exact flush_is h ..
  split
  · split
    · exact crash_is h ..
    · exact h
  split
  · exact start_is h
  split
  · exact lay_is h ..
  · exact h
theorem play_4 {sec : Nat} (w : Wd) (hi : w.is 4 sec) (x : Xa) : ACalls Try.prog 9 [.ptr 0 0, .agg (xaC x)] w.H (RetH (.tup []) (w.play x).H) := by
  obtain ⟨k, e, a, s, ps⟩ := x
  obtain ⟨o, d0, d1, d2, d3, m0, m1, m2, m3, hw⟩ := tell_4 hi
  by_cases h1 : k = 1
  · subst h1
    have hi' := write_is hi e a s
    obtain ⟨o', x0, x1, x2, x3, y0, y1, y2, y3, hw'⟩ := tell_4 hi'
    show ACalls _ _ _ w.H (RetH _ (w.write e a s).2.H)
    rw [hw']
    have c := writeW w hi.ok e a s
    rw [hw]
    refine acalls_of_awp hT mixed Try.func9 rfl (by kernel_rfl) (by kernel_rfl) (Nat.le_of_ble_eq_true rfl) ?_
    refine callU_4 (E := [.row (xaC ⟨1, e, a, s, ps⟩)]) c hw hw' hi' rfl rfl ?_
    exact endH rfl rfl rfl ⟨.inl rfl, .inl rfl, .inl rfl, .inl rfl, .inl rfl, .inl rfl, .inl rfl, .inl rfl, .inl rfl, .inl rfl, .inl rfl, True.intro⟩ (Nat.le_refl 11) (Wd.below _) rfl
  by_cases h2 : k = 2
  · subst h2
    have hi' := flush_is hi e
    obtain ⟨o', x0, x1, x2, x3, y0, y1, y2, y3, hw'⟩ := tell_4 hi'
    show ACalls _ _ _ w.H (RetH _ (w.flush e).2.H)
    rw [hw']
    have c := flushW w hi.ok e
    rw [hw]
    refine acalls_of_awp hT mixed Try.func9 rfl (by kernel_rfl) (by kernel_rfl) (Nat.le_of_ble_eq_true rfl) ?_
    refine callU_4 (E := [.row (xaC ⟨2, e, a, s, ps⟩)]) c hw hw' hi' rfl rfl ?_
    exact endH rfl rfl rfl ⟨.inl rfl, .inl rfl, .inl rfl, .inl rfl, .inl rfl, .inl rfl, .inl rfl, .inl rfl, .inl rfl, .inl rfl, .inl rfl, True.intro⟩ (Nat.le_refl 11) (Wd.below _) rfl
  by_cases h3 : k = 3
  · subst h3
    by_cases hl : ps.length ≤ 100
    · have hi' := crash_is hi ps
      rw [show w.play ⟨3, e, a, s, ps⟩ = (w.crash ps).2 from if_pos hl]
      obtain ⟨o', x0, x1, x2, x3, y0, y1, y2, y3, hw'⟩ := tell_4 hi'
      rw [hw']
      have c := crashW w hi.ok (by rw [hi.n]; omega) ps (by omega)
      rw [hw]
      refine acalls_of_awp hT mixed Try.func9 rfl (by kernel_rfl) (by kernel_rfl) (Nat.le_of_ble_eq_true rfl) ?_
      refine forkD (fun _ => ?_) (fun h => ?_)
      · refine callU_4 (E := [.row (xaC ⟨3, e, a, s, ps⟩)]) c hw hw' hi' rfl rfl ?_
        exact endH rfl rfl rfl ⟨.inl rfl, .inl rfl, .inl rfl, .inl rfl, .inl rfl, .inl rfl, .inl rfl, .inl rfl, .inl rfl, .inl rfl, .inl rfl, True.intro⟩ (Nat.le_refl 11) (Wd.below _) rfl
      · exact absurd (show (ps.length : Int) ≤ 100 by omega) h
    · rw [show w.play ⟨3, e, a, s, ps⟩ = w from if_neg hl, hw]
      refine acalls_of_awp hT mixed Try.func9 rfl (by kernel_rfl) (by kernel_rfl) (Nat.le_of_ble_eq_true rfl) ?_
      refine forkD (fun h => ?_) (fun h => ?_)
      · exact absurd (show (ps.length : Int) ≤ 100 from h) (by omega)
      · exact endH rfl rfl rfl ⟨.inl rfl, .inl rfl, .inl rfl, .inl rfl, .inl rfl, .inl rfl, .inl rfl, .inl rfl, .inl rfl, .inl rfl, .inl rfl, True.intro⟩ (Nat.le_refl 11) (Wd.below _) rfl
  by_cases h4 : k = 4
  · subst h4
    have hi' := start_is hi
    obtain ⟨o', x0, x1, x2, x3, y0, y1, y2, y3, hw'⟩ := tell_4 hi'
    show ACalls _ _ _ w.H (RetH _ w.start.2.H)
    rw [hw']
    have c := startW w hi.ok (by rw [hi.n]; omega)
    rw [hw]
    refine acalls_of_awp hT mixed Try.func9 rfl (by kernel_rfl) (by kernel_rfl) (Nat.le_of_ble_eq_true rfl) ?_
    refine callU_4 (E := [.row (xaC ⟨4, e, a, s, ps⟩)]) c hw hw' hi' rfl rfl ?_
    exact endH rfl rfl rfl ⟨.inl rfl, .inl rfl, .inl rfl, .inl rfl, .inl rfl, .inl rfl, .inl rfl, .inl rfl, .inl rfl, .inl rfl, .inl rfl, True.intro⟩ (Nat.le_refl 11) (Wd.below _) rfl
  by_cases h5 : k = 5
  · subst h5
    have hi' := lay_is hi e a s
    obtain ⟨o', x0, x1, x2, x3, y0, y1, y2, y3, hw'⟩ := tell_4 hi'
    show ACalls _ _ _ w.H (RetH _ (w.lay e a s).2.H)
    rw [hw']
    have c := layW w hi.ok e a s
    rw [hw]
    refine acalls_of_awp hT mixed Try.func9 rfl (by kernel_rfl) (by kernel_rfl) (Nat.le_of_ble_eq_true rfl) ?_
    refine callU_4 (E := [.row (xaC ⟨5, e, a, s, ps⟩)]) c hw hw' hi' rfl rfl ?_
    exact endH rfl rfl rfl ⟨.inl rfl, .inl rfl, .inl rfl, .inl rfl, .inl rfl, .inl rfl, .inl rfl, .inl rfl, .inl rfl, .inl rfl, .inl rfl, True.intro⟩ (Nat.le_refl 11) (Wd.below _) rfl
  have hp : w.play ⟨k, e, a, s, ps⟩ = w := by
    unfold Wd.play
    rw [if_neg h1, if_neg h2, if_neg h3, if_neg h4, if_neg h5]
  rw [hp, hw]
  refine acalls_of_awp hT mixed Try.func9 rfl (by kernel_rfl) (by kernel_rfl) (Nat.le_of_ble_eq_true rfl) ?_
  refine forkD (fun h => absurd h h1) (fun _ => ?_)
  refine forkD (fun h => absurd h h2) (fun _ => ?_)
  refine forkD (fun h => absurd h h3) (fun _ => ?_)
  refine forkD (fun h => absurd h h4) (fun _ => ?_)
  refine forkD (fun h => absurd h h5) (fun _ => ?_)
  exact endH rfl rfl rfl ⟨.inl rfl, .inl rfl, .inl rfl, .inl rfl, .inl rfl, .inl rfl, .inl rfl, .inl rfl, .inl rfl, .inl rfl, .inl rfl, True.intro⟩ (Nat.le_refl 11) (Wd.below _) rfl
end Go.Proofs.Ytpkbdlocmjgmbaa.A
