/- seglog: the law SeglogNil. No condition. -/
import Derived.Test.YthbncljlclcecaaDoorMh
namespace Go.Proofs.YthbncljlclcecaaDoor.A
open Go
set_option linter.unusedVariables false
set_option linter.unusedSimpArgs false
set_option maxRecDepth 100000
set_option pp.maxSteps 600
theorem newOpen_4 (sec : Nat) (h1 : 1 ≤ sec) (hs : sec ≤ 128) (first : Nat) (hf : first + 1 < 4) : ACalls Tryd.prog 12 [.ptr 0 0, i64 (first : Nat)] (newW 4 sec).H (RetH (.tup [.ptr 11 0, nilS, i64 0]) ((newW 4 sec).H ++ [lgO ⟨first, first + 1, 0, 0, 1⟩ (.sc (.pointer none))])) := by
  have h := open_4 (newW 4 sec) (new_is (by omega) hs) h1 (by omega) rfl first hf (fun _ => []) (fun _ => 0) (fun _ => Nat.zero_le _) (fun e h => by rw [new_uo, hd_none] at h; cases h)
  rw [new_op] at h
  exact h
theorem seglogNil_big (first : Int) (s : ByteArray) (h : 800 < s.size) : ACalls Tryd.prog 4 [i64 first, str s] [] (Ret (bo true)) := by
  refine acalls_of_awp hT mixed Tryd.func4 rfl (by kernel_rfl) (by kernel_rfl) (Nat.le_of_ble_eq_true rfl) ?_
  refine callP awakeM_ok rfl rfl ?_
  refine forkD (fun _ => ?_) (fun h2 => ?_)
  · exact end0 rfl rfl rfl rfl
  · exact absurd (show (s.size : Int) > 800 by omega) h2
theorem seglogNil_in (first : Nat) (s : ByteArray) (hs : s.size ≤ 800) (hf : first < 3) : ACalls Tryd.prog 4 [i64 (first : Nat), str s] [] (Ret (bo true)) := by
  have c0 := newE_ok 4 3 (by omega) (by omega) (by omega) (by omega)
  have c1 := newOpen_4 3 (by omega) (by omega) first (by omega)
  have i0 : (newW 4 3).is 4 3 := new_is (by omega) (by omega)
  have o0 : (newW 4 3).off = false := rfl
  have c2 := crashW (newW 4 3) i0.ok (by rw [i0.n]; omega) [] (by simp)
  rw [crash_0 [] o0] at c2
  have i1 := crash_is i0 []
  have o1 := crash_off (w := newW 4 3) []
  generalize newW 4 3 = w0 at *
  generalize (w0.crash []).2 = w1 at *
  obtain ⟨o', z0, z1, z2, z3, u0, u1, u2, u3, e1⟩ := tell_4 i1
  have ho : o' = true := by rw [e1] at o1; exact o1
  subst ho
  refine acalls_of_awp hT mixed Tryd.func4 rfl (by kernel_rfl) (by kernel_rfl) (Nat.le_of_ble_eq_true rfl) ?_
  refine callP awakeM_ok rfl rfl ?_
  refine forkD (fun h => ?_) (fun _ => ?_)
  · exact absurd (show (s.size : Int) > 800 from h) (by omega)
  refine callP (recordN_ok s) rfl rfl ?_
  refine callP (baseN_ok s) rfl rfl ?_
  refine callP moveN_ok rfl rfl ?_
  refine callP (openN_ok _) rfl rfl ?_
  refine callN_4 c0 i0 rfl rfl (fun o x0 x1 x2 x3 y0 y1 y2 y3 e => ?_)
  rw [e] at c1
  refine callH c1 [0, 1, 2, 3, 4, 5, 6, 7, 8, 9, 10] rfl ⟨.inl rfl, .inl rfl, .inl rfl, oS rfl, oS rfl, oS rfl, oS rfl, oM rfl, oM rfl, oM rfl, oM rfl, True.intro⟩ rfl rfl (H' := (Wd.mk o 3 [x0, x1, x2, x3] [y0, y1, y2, y3]).H ++ [lgO ⟨first, first + 1, 0, 0, 1⟩ (.sc (.pointer none))]) (by unfold merge Wd.H; simp only [List.map_cons, List.map_nil, List.cons_append, List.nil_append, renH, renO_str, renO_mp]; rfl) ?_
  refine forkD (fun _ => ?_) (fun h => absurd (show ((first : Nat) : Int) < 3 by omega) h)
  refine callU_4 (E := [lgO ⟨first, first + 1, 0, 0, 1⟩ (.sc (.pointer none))]) (nilArg2 c2) e e1 i1 rfl rfl ?_
  refine callW (cs := [bo true, i64 ((3 : Nat) : Int), .slc 1 0 4 1, .slc 2 0 4 1]) (rest := [i64 ((first : Nat) : Int)]) (openV_off 3 4 ((first : Nat) : Int)) rfl rfl rfl ?_
  refine callP usedN_ok rfl rfl ?_
  refine callP genN_ok rfl rfl ?_
  refine callP (roomN_ok 0) rfl rfl ?_
  refine callP busyN_ok rfl rfl ?_
  exact end0 rfl rfl rfl rfl
theorem seglogNil_out (first : Int) (s : ByteArray) (hs : s.size ≤ 800) (hf : ¬ (0 ≤ first ∧ first < 3)) : ACalls Tryd.prog 4 [i64 first, str s] [] (Ret (bo true)) := by
  have c0 := newE_ok 4 3 (by omega) (by omega) (by omega) (by omega)
  have i0 : (newW 4 3).is 4 3 := new_is (by omega) (by omega)
  have o0 : (newW 4 3).off = false := rfl
  have c2 := crashW (newW 4 3) i0.ok (by rw [i0.n]; omega) [] (by simp)
  rw [crash_0 [] o0] at c2
  have i1 := crash_is i0 []
  have o1 := crash_off (w := newW 4 3) []
  have cv := openV_arg 3 4 (by omega) first (fun h => hf ⟨h.1, by have := h.2; omega⟩)
  generalize newW 4 3 = w0 at *
  generalize (w0.crash []).2 = w1 at *
  obtain ⟨o', z0, z1, z2, z3, u0, u1, u2, u3, e1⟩ := tell_4 i1
  have ho : o' = true := by rw [e1] at o1; exact o1
  subst ho
  refine acalls_of_awp hT mixed Tryd.func4 rfl (by kernel_rfl) (by kernel_rfl) (Nat.le_of_ble_eq_true rfl) ?_
  refine callP awakeM_ok rfl rfl ?_
  refine forkD (fun h => ?_) (fun _ => ?_)
  · exact absurd (show (s.size : Int) > 800 from h) (by omega)
  refine callP (recordN_ok s) rfl rfl ?_
  refine callP (baseN_ok s) rfl rfl ?_
  refine callP moveN_ok rfl rfl ?_
  refine callP (openN_ok _) rfl rfl ?_
  refine callN_4 c0 i0 rfl rfl (fun o x0 x1 x2 x3 y0 y1 y2 y3 e => ?_)
  have ho : o = false := by rw [e] at o0; exact o0
  subst ho
  refine callW (cs := [bo false, i64 ((3 : Nat) : Int), .slc 1 0 4 1, .slc 2 0 4 1]) (rest := [i64 first]) cv rfl rfl rfl ?_
  refine forkD (fun h1 => ?_) (fun h1 => ?_)
  · refine forkD (fun h2 => absurd ⟨h1, h2⟩ hf) (fun h2 => ?_)
    refine callU_4 (E := []) (nilArg2 c2) e e1 i1 rfl rfl ?_
    refine callW (cs := [bo true, i64 ((3 : Nat) : Int), .slc 1 0 4 1, .slc 2 0 4 1]) (rest := [i64 first]) (openV_off 3 4 first) rfl rfl rfl ?_
    refine callP usedN_ok rfl rfl ?_
    refine callP genN_ok rfl rfl ?_
    refine callP (roomN_ok 0) rfl rfl ?_
    refine callP busyN_ok rfl rfl ?_
    exact end0 rfl rfl rfl rfl
  · refine callU_4 (E := []) (nilArg2 c2) e e1 i1 rfl rfl ?_
    refine callW (cs := [bo true, i64 ((3 : Nat) : Int), .slc 1 0 4 1, .slc 2 0 4 1]) (rest := [i64 first]) (openV_off 3 4 first) rfl rfl rfl ?_
    refine callP usedN_ok rfl rfl ?_
    refine callP genN_ok rfl rfl ?_
    refine callP (roomN_ok 0) rfl rfl ?_
    refine callP busyN_ok rfl rfl ?_
    exact end0 rfl rfl rfl rfl
theorem seglogNil_law (l0 : List AV) (w0 : Wf (.int .i64) l0) (l1 : List AV) (w1 : Wf .str l1) : ACalls Tryd.prog 4 [argA (.int .i64) l0, argA .str l1] [] (Ret (.sc (.bool true))) := by
  obtain ⟨first, rfl, _⟩ := w0
  obtain ⟨s, rfl, _⟩ := w1
  show ACalls _ _ [i64 first, str s] _ _
  by_cases hs : s.size ≤ 800
  · by_cases hf : 0 ≤ first ∧ first < 3
    · obtain ⟨f, rfl⟩ : ∃ f : Nat, first = f := ⟨first.toNat, by omega⟩
      exact seglogNil_in f s hs (by omega)
    · exact seglogNil_out first s hs hf
  · exact seglogNil_big first s (by omega)
end Go.Proofs.YthbncljlclcecaaDoor.A
