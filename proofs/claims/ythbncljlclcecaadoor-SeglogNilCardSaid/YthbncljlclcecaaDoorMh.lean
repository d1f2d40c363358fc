/- seglog: awake; the law SeglogNil. No condition. -/
import Derived.Test.YthbncljlclcecaaDoorMg
namespace Go.Proofs.YthbncljlclcecaaDoor.A
open Go
set_option linter.unusedVariables false
set_option linter.unusedSimpArgs false
set_option maxRecDepth 100000
set_option pp.maxSteps 600
theorem unp_empty : unp ByteArray.empty = none := unp_no fun ⟨m, o⟩ => by have := o.h64; simp at this
theorem new_read (n sec : Nat) (e k : Int) : ((newW n sec).read e k).1 = ByteArray.empty := by
  have hm : (newW n sec).m e k = none := by
    unfold Wd.m newW
    dsimp only
    rw [List.getElem?_replicate]
    split <;> rfl
  have hd : (newW n sec).d e k = ByteArray.empty := by
    unfold Wd.d newW
    dsimp only
    rw [List.getElem?_replicate]
    split
    · rw [Option.bind_some, List.getElem?_replicate]
      split <;> rfl
    · rfl
  unfold Wd.read
  split
  · rw [hm, hd]
    rfl
  · rfl
theorem new_uo (n sec : Nat) (e : Int) (j : Nat) : uoL (newW n sec) e j = List.replicate j none := by
  unfold uoL
  refine List.ext_getElem? fun i => ?_
  rw [List.getElem?_map, List.getElem?_replicate]
  by_cases h : i < j
  · rw [List.getElem?_range h, if_pos h, Option.map_some, new_read, unp_empty]
  · rw [if_neg h, List.getElem?_eq_none (by rw [List.length_range]; omega)]
    rfl
theorem lf_none (j : Nat) : lfL (List.replicate j none) = 0 := by
  induction j with
  | zero => rfl
  | succ j ih => rw [List.replicate_succ', lfL_snoc, ih]; rfl
theorem hd_none (j : Nat) : isO (hdO (List.replicate j none)) = false := by cases j <;> rfl
theorem new_op (n sec first : Nat) (R : Nat → List ByteArray) (u : Nat → Nat) : ∀ k, opN (newW n sec) sec first R u k = ⟨first + 1, 0, 0, 0, none⟩
  | 0 => rfl
  | k + 1 => by
    show opStep _ _ _ _ (opN (newW n sec) sec first R u k) = _
    rw [new_op n sec first R u k, new_uo]
    unfold opStep
    rw [if_neg (fun h => by rw [hd_none] at h; cases h.1), lf_none]
    rfl
theorem newOpen_2 (sec : Nat) (h1 : 1 ≤ sec) (hs : sec ≤ 128) (first : Nat) (hf : first + 1 < 2) : ACalls Tryd.prog 12 [.ptr 0 0, i64 (first : Nat)] (newW 2 sec).H (RetH (.tup [.ptr 7 0, nilS, i64 0]) ((newW 2 sec).H ++ [lgO ⟨first, first + 1, 0, 0, 1⟩ (.sc (.pointer none))])) := by
  have h := open_2 (newW 2 sec) (new_is (by omega) hs) h1 (by omega) rfl first hf (fun _ => []) (fun _ => 0) (fun _ => Nat.zero_le _) (fun e h => by rw [new_uo, hd_none] at h; cases h)
  rw [new_op] at h
  exact h
theorem awakeM_ok : ACalls Tryd.prog 7 [] [] (Ret (bo true)) := by
  obtain ⟨s, hs⟩ : ∃ s : ByteArray, s = ⟨#[97, 98, 99]⟩ := ⟨_, rfl⟩
  have hs3 : s.size = 3 := by rw [hs]; rfl
  have hP : partsL s = [s] := partsL_short (by omega)
  obtain ⟨w0, hw0⟩ : ∃ w, w = newW 2 4 := ⟨_, rfl⟩
  have i0 : w0.is 2 4 := hw0 ▸ new_is (by omega) (by omega)
  have o0 : w0.off = false := by rw [hw0]; rfl
  have hin : inW 2 4 0 0 := ⟨⟨by omega, by omega⟩, by omega, by omega⟩
  have c0 := newE_ok 2 4 (by omega) (by omega) (by omega) (by omega)
  have c1 := newOpen_2 4 (by omega) (by omega) 0 (by omega)
  rw [← hw0] at c0 c1
  obtain ⟨o, x0, x1, y0, y1, e0⟩ := tell_2 i0
  have ho : o = false := by rw [e0] at o0; exact o0
  subst ho
  have c2 := base_ok_2 (off := false) (sec := 4) (d0 := x0) (d1 := x1) (m0 := y0) (m1 := y1) (G := ⟨0, 1, 0, 0, 1⟩) s (by omega) (by omega) ⟨by decide, by decide⟩ (by decide) (by decide) (by rw [hs3]; rfl)
  rw [hP] at c2
  have E0 : w0.err 0 0 = 0 := i0.err0.2 ⟨o0, hin⟩
  have hpk : (packS 1 0 1 0 1 s).size ≤ 64 := by rw [packS_size _ _ _ _ _ _ (by omega)]; decide
  have hz : (w0.write 0 0 (packS 1 0 1 0 1 s)).1 = 0 := write_0 E0 hpk
  have c3 := move_w_2 (G := ⟨0, 1, 0, 0, 1⟩) (X := ⟨0, 1, 0, [s], 0, false⟩) (d := s) w0 i0 rfl rfl (by omega) (show okS ⟨1, 0, 1, 0, 1⟩ from by decide) hz
  obtain ⟨w1, hw1⟩ : ∃ w, w = (w0.write 0 0 (packS 1 0 1 0 1 s)).2 := ⟨_, rfl⟩
  have i1 : w1.is 2 4 := hw1 ▸ write_is i0 0 0 _
  have o1 : w1.off = false := by rw [hw1, write_off, o0]
  have E1 : w1.err 0 0 = 0 := i1.err0.2 ⟨o1, hin⟩
  have c4 := move_f_2 (G := ⟨0, 1, 0, 0, 1⟩) (X := ⟨0, 1, 0, [s], 1, false⟩) w1 i1 rfl rfl (Nat.le_of_ble_eq_true rfl) (flush_0 E1)
  obtain ⟨w2, hw2⟩ : ∃ w, w = (w1.flush 0).2 := ⟨_, rfl⟩
  have i2 : w2.is 2 4 := hw2 ▸ flush_is i1 0
  have c5 := move_i_2 (G := ⟨0, 1, 0, 0, 1⟩) (X := ⟨0, 1, 0, [s], 2, false⟩) w2 i2 rfl rfl (Nat.le_of_ble_eq_true rfl) (Nat.le_of_ble_eq_true rfl)
  replace c3 : ACalls Tryd.prog 20 [.ptr 8 0] (w0.H ++ [lgO ⟨0, 1, 0, 0, 1⟩ (.ptr 8 0), mwO (.ptr 7 0) ⟨0, 1, 0, [s], 0, false⟩]) (RetH (.tup [i64 1, i64 0]) (w1.H ++ [lgO ⟨0, 1, 0, 0, 1⟩ (.ptr 8 0), mwO (.ptr 7 0) ⟨0, 1, 0, [s], 1, false⟩])) := hw1 ▸ c3
  replace c4 : ACalls Tryd.prog 20 [.ptr 8 0] (w1.H ++ [lgO ⟨0, 1, 0, 0, 1⟩ (.ptr 8 0), mwO (.ptr 7 0) ⟨0, 1, 0, [s], 1, false⟩]) (RetH (.tup [i64 1, i64 0]) (w2.H ++ [lgO ⟨0, 1, 0, 0, 1⟩ (.ptr 8 0), mwO (.ptr 7 0) ⟨0, 1, 0, [s], 2, false⟩])) := hw2 ▸ c4
  obtain ⟨o1', a0, a1, b0, b1, e1⟩ := tell_2 i1
  obtain ⟨o2', p0, p1, q0, q1, e2⟩ := tell_2 i2
  clear hw1 hw2 hw0 E0 E1 hz i1 i2 o1
  rw [e0] at c0 c1 c3
  rw [e1] at c3 c4
  rw [e2] at c4 c5
  have cu := used_ok (off := o2') (b := false) (sec := 4) (n := 2) (G := ⟨0, 0, 1, 1, 1⟩)
  refine acalls_of_awp hT mixed Tryd.func7 rfl (by kernel_rfl) (by kernel_rfl) (Nat.le_of_ble_eq_true rfl) ?_
  refine callH c0 [] rfl True.intro rfl rfl (H' := (Wd.mk false 4 [x0, x1] [y0, y1]).H) (by unfold merge Wd.H; simp only [List.map_cons, List.map_nil, List.cons_append, List.nil_append, renH, renO_str, renO_mp]; rfl) ?_
  refine callH c1 [0, 1, 2, 3, 4, 5, 6] rfl ⟨.inl rfl, .inl rfl, .inl rfl, oS rfl, oS rfl, oM rfl, oM rfl, True.intro⟩ rfl rfl (H' := (Wd.mk false 4 [x0, x1] [y0, y1]).H ++ [lgO ⟨0, 1, 0, 0, 1⟩ (.sc (.pointer none))]) (by unfold merge Wd.H; simp only [List.map_cons, List.map_nil, List.cons_append, List.nil_append, renH, renO_str, renO_mp]; rfl) ?_
  refine callH c2 [0, 1, 2, 3, 4, 5, 6, 7] (by rw [hs]; rfl) ⟨.inl rfl, .inl rfl, .inl rfl, oS rfl, oS rfl, oM rfl, oM rfl, .inl rfl, True.intro⟩ rfl rfl (H' := (Wd.mk false 4 [x0, x1] [y0, y1]).H ++ [lgO ⟨0, 1, 0, 0, 1⟩ (.ptr 8 0), mwO (.ptr 7 0) ⟨0, 1, 0, [s], 0, false⟩]) (by unfold merge Wd.H; simp only [List.map_cons, List.map_nil, List.cons_append, List.nil_append, renH, renO_str, renO_mp]; rfl) ?_
  refine callH c3 [0, 1, 2, 3, 4, 5, 6, 7, 8] rfl ⟨.inl rfl, .inl rfl, .inl rfl, oS rfl, oS rfl, oM rfl, oM rfl, .inl rfl, .inl rfl, True.intro⟩ rfl rfl (H' := (Wd.mk o1' 4 [a0, a1] [b0, b1]).H ++ [lgO ⟨0, 1, 0, 0, 1⟩ (.ptr 8 0), mwO (.ptr 7 0) ⟨0, 1, 0, [s], 1, false⟩]) (by unfold merge Wd.H; simp only [List.map_cons, List.map_nil, List.cons_append, List.nil_append, renH, renO_str, renO_mp]; rfl) ?_
  refine callH c4 [0, 1, 2, 3, 4, 5, 6, 7, 8] rfl ⟨.inl rfl, .inl rfl, .inl rfl, oS rfl, oS rfl, oM rfl, oM rfl, .inl rfl, .inl rfl, True.intro⟩ rfl rfl (H' := (Wd.mk o2' 4 [p0, p1] [q0, q1]).H ++ [lgO ⟨0, 1, 0, 0, 1⟩ (.ptr 8 0), mwO (.ptr 7 0) ⟨0, 1, 0, [s], 2, false⟩]) (by unfold merge Wd.H; simp only [List.map_cons, List.map_nil, List.cons_append, List.nil_append, renH, renO_str, renO_mp]; rfl) ?_
  refine callH c5 [0, 1, 2, 3, 4, 5, 6, 7, 8] rfl ⟨.inl rfl, .inl rfl, .inl rfl, oS rfl, oS rfl, oM rfl, oM rfl, .inl rfl, .inl rfl, True.intro⟩ rfl rfl (H' := (Wd.mk o2' 4 [p0, p1] [q0, q1]).H ++ [lgO ⟨0, 0, 1, 1, 1⟩ (.sc (.pointer none)), mwO (.ptr 7 0) ⟨0, 1, 0, [s], 2, true⟩]) (by unfold merge Wd.H; simp only [List.map_cons, List.map_nil, List.cons_append, List.nil_append, renH, renO_str, renO_mp]; rfl) ?_
  refine callL (cs := lgC ⟨0, 0, 1, 1, 1⟩ (.sc (.pointer none))) (ws := [bo o2', i64 ((4 : Nat) : Int), .slc 1 0 2 1, .slc 2 0 2 1]) (rest := []) cu rfl rfl rfl rfl ?_
  exact end0 rfl rfl rfl rfl
end Go.Proofs.YthbncljlclcecaaDoor.A
