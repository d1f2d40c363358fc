/- law03: WireParses. No condition. -/
import Derived.Test.YthebddjpnkimjaaWx
import Derived.Test.YthebddjpnkimjaaWy
namespace Go.Proofs.Ythebddjpnkimjaa.A
open Go
set_option linter.unusedVariables false
set_option linter.unusedSimpArgs false
set_option maxRecDepth 100000
set_option pp.maxSteps 300

theorem parses_long (b s : ByteArray) (h : 60 < b.size ∨ 2000 < s.size) : ACalls Try.prog 4 [str b, str s] [] (Ret (bo true)) := by
  refine acalls_of_awp hT mixed Try.func4 rfl (by kernel_rfl) (by kernel_rfl) (Nat.le_of_ble_eq_true rfl) ?_
  refine callP awakeW_ok rfl rfl ?_
  refine forkD (fun g => ?_) (fun g => ?_)
  · refine end0 rfl rfl rfl rfl
  refine forkD (fun g2 => ?_) (fun g2 => ?_)
  · refine end0 rfl rfl rfl rfl
  exfalso
  have g1 : ¬ (b.size : Int) > 60 := g
  have g3 : ¬ (s.size : Int) > 2000 := g2
  omega
theorem parses_err (b s : ByteArray) (hb : b.size ≤ 60) (hs : s.size ≤ 2000) (e : Int) (he : e ≠ 0) (h1 : ACalls Try.prog 12 [str b, str s] [] (Ret (.tup [itsV [], i64 0, i64 e]))) (h2 : ACalls Try.prog 13 [str b, str s] [] (Ret (.tup [itsV [], i64 0, i64 e])))
    (h3 : ACalls Try.prog 14 [str b, str s] [] (Ret (.tup [itsV [], i64 e]))) (h4 : ACalls Try.prog 9 [itsV [], itsV []] [] (Ret (bo true))) : ACalls Try.prog 4 [str b, str s] [] (Ret (bo true)) := by
  refine acalls_of_awp hT mixed Try.func4 rfl (by kernel_rfl) (by kernel_rfl) (Nat.le_of_ble_eq_true rfl) ?_
  refine callP awakeW_ok rfl rfl ?_
  refine forkD (fun g => absurd (show (60 : Int) < (b.size : Int) from g) (by omega)) (fun g => ?_)
  refine forkD (fun g => absurd (show (2000 : Int) < (s.size : Int) from g) (by omega)) (fun g => ?_)
  refine callP h1 rfl rfl ?_
  refine callP h2 rfl rfl ?_
  refine callP h3 rfl rfl ?_
  refine callP h4 rfl rfl ?_
  refine fork (fun g => absurd rfl (bne_iff_ne.1 g)) (fun g => ?_)
  refine fork (fun g => ?_) (fun g => absurd (bne_eq_false_iff_eq.1 g) he)
  refine fork (fun g => ?_) (fun g => absurd rfl (beq_eq_false_iff_ne.1 g))
  refine end0 rfl rfl rfl rfl
theorem parses_short (b s : ByteArray) (hb : b.size ≤ 60) (hs : s.size ≤ 2000) (l : List It) (m : Nat) (hm : m < s.size) (h1 : ACalls Try.prog 12 [str b, str s] [] (Ret (.tup [itsV l, i64 (m : Nat), i64 0]))) (h2 : ACalls Try.prog 13 [str b, str s] [] (Ret (.tup [itsV l, i64 (m : Nat), i64 0])))
    (h3 : ACalls Try.prog 14 [str b, str s] [] (Ret (.tup [itsV [], i64 4]))) (h4 : ACalls Try.prog 9 [itsV l, itsV l] [] (Ret (bo true))) : ACalls Try.prog 4 [str b, str s] [] (Ret (bo true)) := by
  refine acalls_of_awp hT mixed Try.func4 rfl (by kernel_rfl) (by kernel_rfl) (Nat.le_of_ble_eq_true rfl) ?_
  refine callP awakeW_ok rfl rfl ?_
  refine forkD (fun g => absurd (show (60 : Int) < (b.size : Int) from g) (by omega)) (fun g => ?_)
  refine forkD (fun g => absurd (show (2000 : Int) < (s.size : Int) from g) (by omega)) (fun g => ?_)
  refine callP h1 rfl rfl ?_
  refine callP h2 rfl rfl ?_
  refine callP h3 rfl rfl ?_
  refine callP h4 rfl rfl ?_
  refine fork (fun g => absurd rfl (bne_iff_ne.1 g)) (fun g => ?_)
  refine forkD (fun g => ?_) (fun g => absurd (show (m : Int) < (s.size : Int) by omega) g)
  refine end0 rfl rfl rfl rfl
theorem parses_full (b s : ByteArray) (hb : b.size ≤ 60) (hs : s.size ≤ 2000) (l : List It) (h1 : ACalls Try.prog 12 [str b, str s] [] (Ret (.tup [itsV l, i64 (s.size : Nat), i64 0]))) (h2 : ACalls Try.prog 13 [str b, str s] [] (Ret (.tup [itsV l, i64 (s.size : Nat), i64 0])))
    (h3 : ACalls Try.prog 14 [str b, str s] [] (Ret (.tup [itsV l, i64 0]))) (h4 : ACalls Try.prog 9 [itsV l, itsV l] [] (Ret (bo true)))
    (h5 : ACalls Try.prog 10 [str b, itsV l] [] (Ret (.tup [str s, i64 0]))) : ACalls Try.prog 4 [str b, str s] [] (Ret (bo true)) := by
  refine acalls_of_awp hT mixed Try.func4 rfl (by kernel_rfl) (by kernel_rfl) (Nat.le_of_ble_eq_true rfl) ?_
  refine callP awakeW_ok rfl rfl ?_
  refine forkD (fun g => absurd (show (60 : Int) < (b.size : Int) from g) (by omega)) (fun g => ?_)
  refine forkD (fun g => absurd (show (2000 : Int) < (s.size : Int) from g) (by omega)) (fun g => ?_)
  refine callP h1 rfl rfl ?_
  refine callP h2 rfl rfl ?_
  refine callP h3 rfl rfl ?_
  refine callP h4 rfl rfl ?_
  refine fork (fun g => absurd rfl (bne_iff_ne.1 g)) (fun g => ?_)
  refine forkD (fun g => absurd (show (s.size : Int) < (s.size : Int) from g) (by omega)) (fun g => ?_)
  refine callP h5 rfl rfl ?_
  refine callP h4 rfl rfl ?_
  refine fork (fun g => ?_) (fun g => absurd (show strEq s s = false from g) (by rw [strEq_iff.2 rfl]; decide))
  refine end0 rfl rfl rfl rfl
theorem wireParses_law (l0 : List AV) (w0 : Wf .str l0) (l1 : List AV) (w1 : Wf .str l1) : ACalls Try.prog 4 [argA .str l0, argA .str l1] [] (Ret (.sc (.bool true))) := by
  obtain ⟨b, rfl, hb0⟩ := w0
  obtain ⟨s, rfl, hs0⟩ := w1
  show ACalls Try.prog 4 [str b, str s] [] (Ret (bo true))
  by_cases h : 60 < b.size ∨ 2000 < s.size
  · exact parses_long b s h
  have hb : b.size ≤ 60 := by omega
  have hs : s.size ≤ 2000 := by omega
  have h1 := begin_ok b s hb (by omega)
  have h2 := rbegin_ok b s hb (by omega)
  have h3 := parse_ok b s hb (by omega)
  have hsame : ∀ l : List It, WL l → ACalls Try.prog 9 [itsV l, itsV l] [] (Ret (bo true)) := fun l hl => by
    have := rsame_ok _ l l (Nat.le_refl _) hl hl
    rw [decide_eq_true rfl] at this
    exact this
  unfold paA at h3
  cases hp : begP (byL b) s with
  | err e =>
    rw [hp] at h1 h2 h3
    have he := begP_e hp
    exact parses_err b s hb hs e (by omega) h1 h2 h3 (hsame [] ⟨by decide, by simp⟩)
  | ok l m =>
    rw [hp] at h1 h2 h3
    dsimp only at h3
    have hm := begP_le hp
    obtain ⟨c1, c2, c3⟩ := beg_can hp
    have hl : WL l := ⟨by omega, c3⟩
    by_cases hms : m = s.size
    · rw [if_pos hms] at h3
      subst hms
      have h5 := print_ok b l hb (by omega) c3
      rw [c1] at h5
      have e : BA ((byL s).take s.size) = s := by rw [List.take_of_length_le (by rw [byL_len]; exact Nat.le_refl _), BA_byL]
      have h6 : ACalls Try.prog 10 [str b, itsV l] [] (Ret (.tup [str (BA ((byL s).take s.size)), i64 0])) := h5
      rw [e] at h6
      exact parses_full b s hb hs l h1 h2 h3 (hsame l hl) h6
    · rw [if_neg hms] at h3
      exact parses_short b s hb hs l m (by omega) h1 h2 h3 (hsame l hl)
end Go.Proofs.Ythebddjpnkimjaa.A
