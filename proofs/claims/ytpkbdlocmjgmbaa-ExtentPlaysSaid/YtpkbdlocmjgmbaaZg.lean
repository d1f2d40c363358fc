/- extent: both worlds: alike, does (printed by gendoes.py). No condition. -/
import Derived.Test.YtpkbdlocmjgmbaaZf
namespace Go.Proofs.Ytpkbdlocmjgmbaa.A
open Go
set_option linter.unusedVariables false
set_option linter.unusedSimpArgs false
set_option maxRecDepth 100000
set_option pp.maxSteps 600

abbrev dlZg4a : List Nat := [0, 0, 0, 1, 0, 0, 0, 2, 2, 2]
abbrev dlZg4b : List (List Nat) := [[], [], [1], [0, 1, 2], [], [], [5], [0, 1, 2, 3, 4, 5, 6], [0, 1, 2, 3, 4, 5, 6, 7], [0, 1, 2, 3, 4, 5, 6, 7, 8]]
abbrev dlZg4c : List Nat := [0, 0, 0, 0, 0, 0, 0, 0, 0, 0]
abbrev dlZg4d : List Nat := [3, 7]
abbrev dlZg4e : List (List Nat) := [[0], [5], [42], [41, 43], [1], [5], [46], [45, 47], [44, 48], [49]]
abbrev dlZg3a : List Nat := [0, 0, 0, 1, 0, 0, 0, 2, 2, 2]
abbrev dlZg3b : List (List Nat) := [[], [], [1], [0, 1, 2], [], [], [5], [0, 1, 2, 3, 4, 5, 6], [0, 1, 2, 3, 4, 5, 6, 7], [0, 1, 2, 3, 4, 5, 6, 7, 8]]
abbrev dlZg3c : List Nat := [0, 0, 0, 0, 0, 0, 0, 0, 0, 0]
abbrev dlZg3d : List Nat := [3, 7]
abbrev dlZg3e : List (List Nat) := [[0], [5], [31], [30, 32], [1], [5], [35], [34, 36], [33, 37], [38]]
abbrev dlZg2a : List Nat := [0, 0, 0, 0, 0, 0, 0, 1, 0, 0, 0, 0, 0, 0, 0, 2, 2, 2]
abbrev dlZg2b : List (List Nat) := [[], [], [1], [], [3], [], [5], [0, 1, 2, 3, 4, 5, 6], [], [], [9], [], [11], [], [13], [0, 1, 2, 3, 4, 5, 6, 7, 8, 9, 10, 11, 12, 13, 14], [0, 1, 2, 3, 4, 5, 6, 7, 8, 9, 10, 11, 12, 13, 14, 15], [0, 1, 2, 3, 4, 5, 6, 7, 8, 9, 10, 11, 12, 13, 14, 15, 16]]
abbrev dlZg2c : List Nat := [0, 0, 0, 0, 0, 0, 0, 0, 0, 0, 0, 0, 0, 0, 0, 0, 0, 0]
abbrev dlZg2d : List Nat := [7, 15]
abbrev dlZg2e : List (List Nat) := [[0], [5], [12], [5], [14], [5], [16], [11, 13, 15, 17], [1], [5], [20], [5], [22], [5], [24], [19, 21, 23, 25], [18, 26], [27]]
abbrev dlZg1a : List Nat := [0, 0, 0, 0, 0, 0, 0, 1, 0, 0, 0, 0, 0, 0, 0, 2, 2, 2]
abbrev dlZg1b : List (List Nat) := [[], [], [1], [], [3], [], [5], [0, 1, 2, 3, 4, 5, 6], [], [], [9], [], [11], [], [13], [0, 1, 2, 3, 4, 5, 6, 7, 8, 9, 10, 11, 12, 13, 14], [0, 1, 2, 3, 4, 5, 6, 7, 8, 9, 10, 11, 12, 13, 14, 15], [0, 1, 2, 3, 4, 5, 6, 7, 8, 9, 10, 11, 12, 13, 14, 15, 16]]
abbrev dlZg1c : List Nat := [0, 0, 0, 0, 0, 0, 0, 0, 0, 0, 0, 0, 0, 0, 0, 0, 0, 0]
abbrev dlZg1d : List Nat := [7, 15]
abbrev dlZg1e : List (List Nat) := [[0], [5], [60], [5], [62], [5], [64], [59, 61, 63, 65], [1], [5], [68], [5], [70], [5], [72], [67, 69, 71, 73], [66, 74], [75]]
theorem callR_1 {P : Program} {g : FuncId} {bs args : List AV} {v : AV} {off o o' : Bool} {sec n' sec' N : Nat} {d0 : List ByteArray} {m0 : Mp} {S S' : List Sx} {E : Heap} {K : AV → Heap → Prop} {Kp : Value → Heap → Prop} (h : ACalls P g bs (rH o n' sec' N S) (RetH v (rH o' n' sec' N S')))
    (ha : args = renL (rn [5, 6] ((Wd.mk off sec [d0] [m0]).H ++ (rE 5 o n' sec' N S ++ E)).length) bs) (hv : ren (rn [5, 6] ((Wd.mk off sec [d0] [m0]).H ++ (rE 5 o n' sec' N S ++ E)).length) v = v)
    (k : K v ((Wd.mk off sec [d0] [m0]).H ++ (rE 5 o' n' sec' N S' ++ E))) :
    ACalls P g args ((Wd.mk off sec [d0] [m0]).H ++ (rE 5 o n' sec' N S ++ E)) (panK K Kp) :=
  callH h [5, 6] ha ⟨oX rfl, .inl rfl, True.intro⟩ rfl hv (by unfold merge rH; simp only [renH, renO_sx]; exact Eq.trans (List.append_nil _) rfl) k
theorem alike_1 {sec : Nat} (w : Wd) (hi : w.is 1 sec) (hs : sec ≤ 1000) (e k : Int) : ACalls Try.prog 18 [.ptr 0 0, .ptr 6 0, i64 e, i64 k] (w.H ++ rEw 5 w 1 sec) (RetH (bo true) (w.H ++ rEw 5 w 1 sec)) := by
  obtain ⟨o, d0, m0, hw⟩ := tell_1 hi
  have c1 := readW w hi.ok e k
  have c2 := refReadW (e := e) (k := k) hi (by omega) hs
  unfold refH at c2
  have c3 := dryW w hi.ok e k
  have ca := refAt_ok w.off 1 sec (1 * sec) (by omega) hs e k
  generalize w.read e k = rd at c1 c2
  obtain ⟨rs, rc⟩ := rd
  have hr := w.may_cases e k
  rw [hi.n, hi.s] at hr
  obtain ⟨t, ht⟩ : ∃ t, t = ByteArray.empty := ⟨_, rfl⟩
  rw [show w.H = (Wd.mk o sec [d0] [m0]).H from congrArg Wd.H hw]
  rcases hr with ⟨h1, h3⟩ | ⟨h1, h3⟩
  · have hx := secs_at w (show inW 1 sec e k from h3)
    rw [dry_0 h1] at c3
    rw [(ix_in h3).1] at ca
    have hlt := (ix_in h3).2
    generalize ixN sec e k = i at *
    refine acalls_of_awp hT mixed Try.func18 rfl (by kernel_rfl) (by kernel_rfl) (Nat.le_of_ble_eq_true rfl) ?_
    refine callU_1 (E := rEw 5 w 1 sec) c1 hw hw hi rfl rfl ?_
    refine callR_1 (E := []) c2 rfl rfl ?_
    refine callU_1 (E := rEw 5 w 1 sec) c3 hw hw hi rfl rfl ?_
    refine callW (cs := [bo w.off, i64 (1 : Nat), i64 (sec : Nat), .slc 5 0 (1 * sec) 3]) (rest := [i64 e, i64 k]) ca rfl rfl rfl ?_
    refine fork (fun h => ?_) (fun _ => ?_)
    · rw [strEq_iff.2 rfl] at h
      cases h
    refine fork (fun h => ?_) (fun _ => ?_)
    · exact absurd rfl (bne_iff_ne.1 h)
    refine Ob.intro (show (0 : Int) ≤ (i : Nat) ∧ ((i : Nat) : Int) < ((1 * sec : Nat) : Int) by omega) ?_
    refine optK_intro (rd_cellX sxC_len (v := str (w.d e k)) (c := 0) rfl hx (by show 0 + ((i : Nat) : Int).toNat * 3 + 0 = _; omega) rfl) ?_
    refine fork (fun _ => ?_) (fun h => absurd rfl (strEq_false.1 h))
    exact endH rfl rfl rfl ⟨.inl rfl, .inl rfl, .inl rfl, .inl rfl, .inl rfl, .inl rfl, .inl rfl, True.intro⟩ (Nat.le_refl 7) (both_below _ _ _ _ _ _ _ (Nat.le_refl 5)) rfl
  · have hd : w.dry e k = (t, 1) := by unfold Wd.dry; rw [h1, ht]; rfl
    rw [hd] at c3
    rw [ix_no h3] at ca
    refine acalls_of_awp hT mixed Try.func18 rfl (by kernel_rfl) (by kernel_rfl) (Nat.le_of_ble_eq_true rfl) ?_
    refine callU_1 (E := rEw 5 w 1 sec) c1 hw hw hi rfl rfl ?_
    refine callR_1 (E := []) c2 rfl rfl ?_
    refine callU_1 (E := rEw 5 w 1 sec) c3 hw hw hi rfl rfl ?_
    refine callW (cs := [bo w.off, i64 (1 : Nat), i64 (sec : Nat), .slc 5 0 (1 * sec) 3]) (rest := [i64 e, i64 k]) ca rfl rfl rfl ?_
    refine fork (fun h => ?_) (fun _ => ?_)
    · rw [strEq_iff.2 rfl] at h
      cases h
    refine fork (fun h => ?_) (fun _ => ?_)
    · exact absurd rfl (bne_iff_ne.1 h)
    refine fork (fun _ => ?_) (fun h => absurd ht (strEq_false.1 h))
    exact endH rfl rfl rfl ⟨.inl rfl, .inl rfl, .inl rfl, .inl rfl, .inl rfl, .inl rfl, .inl rfl, True.intro⟩ (Nat.le_refl 7) (both_below _ _ _ _ _ _ _ (Nat.le_refl 5)) rfl
theorem callR_2 {P : Program} {g : FuncId} {bs args : List AV} {v : AV} {off o o' : Bool} {sec n' sec' N : Nat} {d0 d1 : List ByteArray} {m0 m1 : Mp} {S S' : List Sx} {E : Heap} {K : AV → Heap → Prop} {Kp : Value → Heap → Prop} (h : ACalls P g bs (rH o n' sec' N S) (RetH v (rH o' n' sec' N S')))
    (ha : args = renL (rn [7, 8] ((Wd.mk off sec [d0, d1] [m0, m1]).H ++ (rE 7 o n' sec' N S ++ E)).length) bs) (hv : ren (rn [7, 8] ((Wd.mk off sec [d0, d1] [m0, m1]).H ++ (rE 7 o n' sec' N S ++ E)).length) v = v)
    (k : K v ((Wd.mk off sec [d0, d1] [m0, m1]).H ++ (rE 7 o' n' sec' N S' ++ E))) :
    ACalls P g args ((Wd.mk off sec [d0, d1] [m0, m1]).H ++ (rE 7 o n' sec' N S ++ E)) (panK K Kp) :=
  callH h [7, 8] ha ⟨oX rfl, .inl rfl, True.intro⟩ rfl hv (by unfold merge rH; simp only [renH, renO_sx]; exact Eq.trans (List.append_nil _) rfl) k
theorem alike_2 {sec : Nat} (w : Wd) (hi : w.is 2 sec) (hs : sec ≤ 1000) (e k : Int) : ACalls Try.prog 18 [.ptr 0 0, .ptr 8 0, i64 e, i64 k] (w.H ++ rEw 7 w 2 sec) (RetH (bo true) (w.H ++ rEw 7 w 2 sec)) := by
  obtain ⟨o, d0, d1, m0, m1, hw⟩ := tell_2 hi
  have c1 := readW w hi.ok e k
  have c2 := refReadW (e := e) (k := k) hi (by omega) hs
  unfold refH at c2
  have c3 := dryW w hi.ok e k
  have ca := refAt_ok w.off 2 sec (2 * sec) (by omega) hs e k
  generalize w.read e k = rd at c1 c2
  obtain ⟨rs, rc⟩ := rd
  have hr := w.may_cases e k
  rw [hi.n, hi.s] at hr
  obtain ⟨t, ht⟩ : ∃ t, t = ByteArray.empty := ⟨_, rfl⟩
  rw [show w.H = (Wd.mk o sec [d0, d1] [m0, m1]).H from congrArg Wd.H hw]
  rcases hr with ⟨h1, h3⟩ | ⟨h1, h3⟩
  · have hx := secs_at w (show inW 2 sec e k from h3)
    rw [dry_0 h1] at c3
    rw [(ix_in h3).1] at ca
    have hlt := (ix_in h3).2
    generalize ixN sec e k = i at *
    refine acalls_of_awp hT mixed Try.func18 rfl (by kernel_rfl) (by kernel_rfl) (Nat.le_of_ble_eq_true rfl) ?_
    refine callU_2 (E := rEw 7 w 2 sec) c1 hw hw hi rfl rfl ?_
    refine callR_2 (E := []) c2 rfl rfl ?_
    refine callU_2 (E := rEw 7 w 2 sec) c3 hw hw hi rfl rfl ?_
    refine callW (cs := [bo w.off, i64 (2 : Nat), i64 (sec : Nat), .slc 7 0 (2 * sec) 3]) (rest := [i64 e, i64 k]) ca rfl rfl rfl ?_
    refine fork (fun h => ?_) (fun _ => ?_)
    · rw [strEq_iff.2 rfl] at h
      cases h
    refine fork (fun h => ?_) (fun _ => ?_)
    · exact absurd rfl (bne_iff_ne.1 h)
    refine Ob.intro (show (0 : Int) ≤ (i : Nat) ∧ ((i : Nat) : Int) < ((2 * sec : Nat) : Int) by omega) ?_
    refine optK_intro (rd_cellX sxC_len (v := str (w.d e k)) (c := 0) rfl hx (by show 0 + ((i : Nat) : Int).toNat * 3 + 0 = _; omega) rfl) ?_
    refine fork (fun _ => ?_) (fun h => absurd rfl (strEq_false.1 h))
    exact endH rfl rfl rfl ⟨.inl rfl, .inl rfl, .inl rfl, .inl rfl, .inl rfl, .inl rfl, .inl rfl, .inl rfl, .inl rfl, True.intro⟩ (Nat.le_refl 9) (both_below _ _ _ _ _ _ _ (Nat.le_refl 7)) rfl
  · have hd : w.dry e k = (t, 1) := by unfold Wd.dry; rw [h1, ht]; rfl
    rw [hd] at c3
    rw [ix_no h3] at ca
    refine acalls_of_awp hT mixed Try.func18 rfl (by kernel_rfl) (by kernel_rfl) (Nat.le_of_ble_eq_true rfl) ?_
    refine callU_2 (E := rEw 7 w 2 sec) c1 hw hw hi rfl rfl ?_
    refine callR_2 (E := []) c2 rfl rfl ?_
    refine callU_2 (E := rEw 7 w 2 sec) c3 hw hw hi rfl rfl ?_
    refine callW (cs := [bo w.off, i64 (2 : Nat), i64 (sec : Nat), .slc 7 0 (2 * sec) 3]) (rest := [i64 e, i64 k]) ca rfl rfl rfl ?_
    refine fork (fun h => ?_) (fun _ => ?_)
    · rw [strEq_iff.2 rfl] at h
      cases h
    refine fork (fun h => ?_) (fun _ => ?_)
    · exact absurd rfl (bne_iff_ne.1 h)
    refine fork (fun _ => ?_) (fun h => absurd ht (strEq_false.1 h))
    exact endH rfl rfl rfl ⟨.inl rfl, .inl rfl, .inl rfl, .inl rfl, .inl rfl, .inl rfl, .inl rfl, .inl rfl, .inl rfl, True.intro⟩ (Nat.le_refl 9) (both_below _ _ _ _ _ _ _ (Nat.le_refl 7)) rfl
theorem callR_3 {P : Program} {g : FuncId} {bs args : List AV} {v : AV} {off o o' : Bool} {sec n' sec' N : Nat} {d0 d1 d2 : List ByteArray} {m0 m1 m2 : Mp} {S S' : List Sx} {E : Heap} {K : AV → Heap → Prop} {Kp : Value → Heap → Prop} (h : ACalls P g bs (rH o n' sec' N S) (RetH v (rH o' n' sec' N S')))
    (ha : args = renL (rn [9, 10] ((Wd.mk off sec [d0, d1, d2] [m0, m1, m2]).H ++ (rE 9 o n' sec' N S ++ E)).length) bs) (hv : ren (rn [9, 10] ((Wd.mk off sec [d0, d1, d2] [m0, m1, m2]).H ++ (rE 9 o n' sec' N S ++ E)).length) v = v)
    (k : K v ((Wd.mk off sec [d0, d1, d2] [m0, m1, m2]).H ++ (rE 9 o' n' sec' N S' ++ E))) :
    ACalls P g args ((Wd.mk off sec [d0, d1, d2] [m0, m1, m2]).H ++ (rE 9 o n' sec' N S ++ E)) (panK K Kp) :=
  callH h [9, 10] ha ⟨oX rfl, .inl rfl, True.intro⟩ rfl hv (by unfold merge rH; simp only [renH, renO_sx]; exact Eq.trans (List.append_nil _) rfl) k
theorem alike_3 {sec : Nat} (w : Wd) (hi : w.is 3 sec) (hs : sec ≤ 1000) (e k : Int) : ACalls Try.prog 18 [.ptr 0 0, .ptr 10 0, i64 e, i64 k] (w.H ++ rEw 9 w 3 sec) (RetH (bo true) (w.H ++ rEw 9 w 3 sec)) := by
  obtain ⟨o, d0, d1, d2, m0, m1, m2, hw⟩ := tell_3 hi
  have c1 := readW w hi.ok e k
  have c2 := refReadW (e := e) (k := k) hi (by omega) hs
  unfold refH at c2
  have c3 := dryW w hi.ok e k
  have ca := refAt_ok w.off 3 sec (3 * sec) (by omega) hs e k
  generalize w.read e k = rd at c1 c2
  obtain ⟨rs, rc⟩ := rd
  have hr := w.may_cases e k
  rw [hi.n, hi.s] at hr
  obtain ⟨t, ht⟩ : ∃ t, t = ByteArray.empty := ⟨_, rfl⟩
  rw [show w.H = (Wd.mk o sec [d0, d1, d2] [m0, m1, m2]).H from congrArg Wd.H hw]
  rcases hr with ⟨h1, h3⟩ | ⟨h1, h3⟩
  · have hx := secs_at w (show inW 3 sec e k from h3)
    rw [dry_0 h1] at c3
    rw [(ix_in h3).1] at ca
    have hlt := (ix_in h3).2
    generalize ixN sec e k = i at *
    refine acalls_of_awp hT mixed Try.func18 rfl (by kernel_rfl) (by kernel_rfl) (Nat.le_of_ble_eq_true rfl) ?_
    refine callU_3 (E := rEw 9 w 3 sec) c1 hw hw hi rfl rfl ?_
    refine callR_3 (E := []) c2 rfl rfl ?_
    refine callU_3 (E := rEw 9 w 3 sec) c3 hw hw hi rfl rfl ?_
    refine callW (cs := [bo w.off, i64 (3 : Nat), i64 (sec : Nat), .slc 9 0 (3 * sec) 3]) (rest := [i64 e, i64 k]) ca rfl rfl rfl ?_
    refine fork (fun h => ?_) (fun _ => ?_)
    · rw [strEq_iff.2 rfl] at h
      cases h
    refine fork (fun h => ?_) (fun _ => ?_)
    · exact absurd rfl (bne_iff_ne.1 h)
    refine Ob.intro (show (0 : Int) ≤ (i : Nat) ∧ ((i : Nat) : Int) < ((3 * sec : Nat) : Int) by omega) ?_
    refine optK_intro (rd_cellX sxC_len (v := str (w.d e k)) (c := 0) rfl hx (by show 0 + ((i : Nat) : Int).toNat * 3 + 0 = _; omega) rfl) ?_
    refine fork (fun _ => ?_) (fun h => absurd rfl (strEq_false.1 h))
    exact endH rfl rfl rfl ⟨.inl rfl, .inl rfl, .inl rfl, .inl rfl, .inl rfl, .inl rfl, .inl rfl, .inl rfl, .inl rfl, .inl rfl, .inl rfl, True.intro⟩ (Nat.le_refl 11) (both_below _ _ _ _ _ _ _ (Nat.le_refl 9)) rfl
  · have hd : w.dry e k = (t, 1) := by unfold Wd.dry; rw [h1, ht]; rfl
    rw [hd] at c3
    rw [ix_no h3] at ca
    refine acalls_of_awp hT mixed Try.func18 rfl (by kernel_rfl) (by kernel_rfl) (Nat.le_of_ble_eq_true rfl) ?_
    refine callU_3 (E := rEw 9 w 3 sec) c1 hw hw hi rfl rfl ?_
    refine callR_3 (E := []) c2 rfl rfl ?_
    refine callU_3 (E := rEw 9 w 3 sec) c3 hw hw hi rfl rfl ?_
    refine callW (cs := [bo w.off, i64 (3 : Nat), i64 (sec : Nat), .slc 9 0 (3 * sec) 3]) (rest := [i64 e, i64 k]) ca rfl rfl rfl ?_
    refine fork (fun h => ?_) (fun _ => ?_)
    · rw [strEq_iff.2 rfl] at h
      cases h
    refine fork (fun h => ?_) (fun _ => ?_)
    · exact absurd rfl (bne_iff_ne.1 h)
    refine fork (fun _ => ?_) (fun h => absurd ht (strEq_false.1 h))
    exact endH rfl rfl rfl ⟨.inl rfl, .inl rfl, .inl rfl, .inl rfl, .inl rfl, .inl rfl, .inl rfl, .inl rfl, .inl rfl, .inl rfl, .inl rfl, True.intro⟩ (Nat.le_refl 11) (both_below _ _ _ _ _ _ _ (Nat.le_refl 9)) rfl
set_option maxHeartbeats 4000000 in
theorem callR_4 {P : Program} {g : FuncId} {bs args : List AV} {v : AV} {off o o' : Bool} {sec n' sec' N : Nat} {d0 d1 d2 d3 : List ByteArray} {m0 m1 m2 m3 : Mp} {S S' : List Sx} {E : Heap} {K : AV → Heap → Prop} {Kp : Value → Heap → Prop} (h : ACalls P g bs (rH o n' sec' N S) (RetH v (rH o' n' sec' N S')))
    (ha : args = renL (rn [11, 12] ((Wd.mk off sec [d0, d1, d2, d3] [m0, m1, m2, m3]).H ++ (rE 11 o n' sec' N S ++ E)).length) bs) (hv : ren (rn [11, 12] ((Wd.mk off sec [d0, d1, d2, d3] [m0, m1, m2, m3]).H ++ (rE 11 o n' sec' N S ++ E)).length) v = v)
    (k : K v ((Wd.mk off sec [d0, d1, d2, d3] [m0, m1, m2, m3]).H ++ (rE 11 o' n' sec' N S' ++ E))) :
    ACalls P g args ((Wd.mk off sec [d0, d1, d2, d3] [m0, m1, m2, m3]).H ++ (rE 11 o n' sec' N S ++ E)) (panK K Kp) :=
  callH h [11, 12] ha ⟨oX rfl, .inl rfl, True.intro⟩ rfl hv (by unfold merge rH; simp only [renH, renO_sx]; exact Eq.trans (List.append_nil _) rfl) k
set_option maxHeartbeats 4000000 in
theorem alike_4 {sec : Nat} (w : Wd) (hi : w.is 4 sec) (hs : sec ≤ 1000) (e k : Int) : ACalls Try.prog 18 [.ptr 0 0, .ptr 12 0, i64 e, i64 k] (w.H ++ rEw 11 w 4 sec) (RetH (bo true) (w.H ++ rEw 11 w 4 sec)) := by
  obtain ⟨o, d0, d1, d2, d3, m0, m1, m2, m3, hw⟩ := tell_4 hi
  have c1 := readW w hi.ok e k
  have c2 := refReadW (e := e) (k := k) hi (by omega) hs
  unfold refH at c2
  have c3 := dryW w hi.ok e k
  have ca := refAt_ok w.off 4 sec (4 * sec) (by omega) hs e k
  generalize w.read e k = rd at c1 c2
  obtain ⟨rs, rc⟩ := rd
  have hr := w.may_cases e k
  rw [hi.n, hi.s] at hr
  obtain ⟨t, ht⟩ : ∃ t, t = ByteArray.empty := ⟨_, rfl⟩
  rw [show w.H = (Wd.mk o sec [d0, d1, d2, d3] [m0, m1, m2, m3]).H from congrArg Wd.H hw]
  rcases hr with ⟨h1, h3⟩ | ⟨h1, h3⟩
  · have hx := secs_at w (show inW 4 sec e k from h3)
    rw [dry_0 h1] at c3
    rw [(ix_in h3).1] at ca
    have hlt := (ix_in h3).2
    generalize ixN sec e k = i at *
    refine acalls_of_awp hT mixed Try.func18 rfl (by kernel_rfl) (by kernel_rfl) (Nat.le_of_ble_eq_true rfl) ?_
    refine callU_4 (E := rEw 11 w 4 sec) c1 hw hw hi rfl rfl ?_
    refine callR_4 (E := []) c2 rfl rfl ?_
    refine callU_4 (E := rEw 11 w 4 sec) c3 hw hw hi rfl rfl ?_
    refine callW (cs := [bo w.off, i64 (4 : Nat), i64 (sec : Nat), .slc 11 0 (4 * sec) 3]) (rest := [i64 e, i64 k]) ca rfl rfl rfl ?_
    refine fork (fun h => ?_) (fun _ => ?_)
    · rw [strEq_iff.2 rfl] at h
      cases h
    refine fork (fun h => ?_) (fun _ => ?_)
    · exact absurd rfl (bne_iff_ne.1 h)
    refine Ob.intro (show (0 : Int) ≤ (i : Nat) ∧ ((i : Nat) : Int) < ((4 * sec : Nat) : Int) by omega) ?_
    refine optK_intro (rd_cellX sxC_len (v := str (w.d e k)) (c := 0) rfl hx (by show 0 + ((i : Nat) : Int).toNat * 3 + 0 = _; omega) rfl) ?_
    refine fork (fun _ => ?_) (fun h => absurd rfl (strEq_false.1 h))
    exact endH rfl rfl rfl ⟨.inl rfl, .inl rfl, .inl rfl, .inl rfl, .inl rfl, .inl rfl, .inl rfl, .inl rfl, .inl rfl, .inl rfl, .inl rfl, .inl rfl, .inl rfl, True.intro⟩ (Nat.le_refl 13) (both_below _ _ _ _ _ _ _ (Nat.le_refl 11)) rfl
  · have hd : w.dry e k = (t, 1) := by unfold Wd.dry; rw [h1, ht]; rfl
    rw [hd] at c3
    rw [ix_no h3] at ca
    refine acalls_of_awp hT mixed Try.func18 rfl (by kernel_rfl) (by kernel_rfl) (Nat.le_of_ble_eq_true rfl) ?_
    refine callU_4 (E := rEw 11 w 4 sec) c1 hw hw hi rfl rfl ?_
    refine callR_4 (E := []) c2 rfl rfl ?_
    refine callU_4 (E := rEw 11 w 4 sec) c3 hw hw hi rfl rfl ?_
    refine callW (cs := [bo w.off, i64 (4 : Nat), i64 (sec : Nat), .slc 11 0 (4 * sec) 3]) (rest := [i64 e, i64 k]) ca rfl rfl rfl ?_
    refine fork (fun h => ?_) (fun _ => ?_)
    · rw [strEq_iff.2 rfl] at h
      cases h
    refine fork (fun h => ?_) (fun _ => ?_)
    · exact absurd rfl (bne_iff_ne.1 h)
    refine fork (fun _ => ?_) (fun h => absurd ht (strEq_false.1 h))
    exact endH rfl rfl rfl ⟨.inl rfl, .inl rfl, .inl rfl, .inl rfl, .inl rfl, .inl rfl, .inl rfl, .inl rfl, .inl rfl, .inl rfl, .inl rfl, .inl rfl, .inl rfl, True.intro⟩ (Nat.le_refl 13) (both_below _ _ _ _ _ _ _ (Nat.le_refl 11)) rfl
set_option maxHeartbeats 4000000 in
theorem callR_5 {P : Program} {g : FuncId} {bs args : List AV} {v : AV} {off o o' : Bool} {sec n' sec' N : Nat} {d0 d1 d2 d3 d4 : List ByteArray} {m0 m1 m2 m3 m4 : Mp} {S S' : List Sx} {E : Heap} {K : AV → Heap → Prop} {Kp : Value → Heap → Prop} (h : ACalls P g bs (rH o n' sec' N S) (RetH v (rH o' n' sec' N S')))
    (ha : args = renL (rn [13, 14] ((Wd.mk off sec [d0, d1, d2, d3, d4] [m0, m1, m2, m3, m4]).H ++ (rE 13 o n' sec' N S ++ E)).length) bs) (hv : ren (rn [13, 14] ((Wd.mk off sec [d0, d1, d2, d3, d4] [m0, m1, m2, m3, m4]).H ++ (rE 13 o n' sec' N S ++ E)).length) v = v)
    (k : K v ((Wd.mk off sec [d0, d1, d2, d3, d4] [m0, m1, m2, m3, m4]).H ++ (rE 13 o' n' sec' N S' ++ E))) :
    ACalls P g args ((Wd.mk off sec [d0, d1, d2, d3, d4] [m0, m1, m2, m3, m4]).H ++ (rE 13 o n' sec' N S ++ E)) (panK K Kp) :=
  callH h [13, 14] ha ⟨oX rfl, .inl rfl, True.intro⟩ rfl hv (by unfold merge rH; simp only [renH, renO_sx]; exact Eq.trans (List.append_nil _) rfl) k
set_option maxHeartbeats 4000000 in
theorem alike_5 {sec : Nat} (w : Wd) (hi : w.is 5 sec) (hs : sec ≤ 1000) (e k : Int) : ACalls Try.prog 18 [.ptr 0 0, .ptr 14 0, i64 e, i64 k] (w.H ++ rEw 13 w 5 sec) (RetH (bo true) (w.H ++ rEw 13 w 5 sec)) := by
  obtain ⟨o, d0, d1, d2, d3, d4, m0, m1, m2, m3, m4, hw⟩ := tell_5 hi
  have c1 := readW w hi.ok e k
  have c2 := refReadW (e := e) (k := k) hi (by omega) hs
  unfold refH at c2
  have c3 := dryW w hi.ok e k
  have ca := refAt_ok w.off 5 sec (5 * sec) (by omega) hs e k
  generalize w.read e k = rd at c1 c2
  obtain ⟨rs, rc⟩ := rd
  have hr := w.may_cases e k
  rw [hi.n, hi.s] at hr
  obtain ⟨t, ht⟩ : ∃ t, t = ByteArray.empty := ⟨_, rfl⟩
  rw [show w.H = (Wd.mk o sec [d0, d1, d2, d3, d4] [m0, m1, m2, m3, m4]).H from congrArg Wd.H hw]
  rcases hr with ⟨h1, h3⟩ | ⟨h1, h3⟩
  · have hx := secs_at w (show inW 5 sec e k from h3)
    rw [dry_0 h1] at c3
    rw [(ix_in h3).1] at ca
    have hlt := (ix_in h3).2
    generalize ixN sec e k = i at *
    refine acalls_of_awp hT mixed Try.func18 rfl (by kernel_rfl) (by kernel_rfl) (Nat.le_of_ble_eq_true rfl) ?_
    refine callU_5 (E := rEw 13 w 5 sec) c1 hw hw hi rfl rfl ?_
    refine callR_5 (E := []) c2 rfl rfl ?_
    refine callU_5 (E := rEw 13 w 5 sec) c3 hw hw hi rfl rfl ?_
    refine callW (cs := [bo w.off, i64 (5 : Nat), i64 (sec : Nat), .slc 13 0 (5 * sec) 3]) (rest := [i64 e, i64 k]) ca rfl rfl rfl ?_
    refine fork (fun h => ?_) (fun _ => ?_)
    · rw [strEq_iff.2 rfl] at h
      cases h
    refine fork (fun h => ?_) (fun _ => ?_)
    · exact absurd rfl (bne_iff_ne.1 h)
    refine Ob.intro (show (0 : Int) ≤ (i : Nat) ∧ ((i : Nat) : Int) < ((5 * sec : Nat) : Int) by omega) ?_
    refine optK_intro (rd_cellX sxC_len (v := str (w.d e k)) (c := 0) rfl hx (by show 0 + ((i : Nat) : Int).toNat * 3 + 0 = _; omega) rfl) ?_
    refine fork (fun _ => ?_) (fun h => absurd rfl (strEq_false.1 h))
    exact endH rfl rfl rfl ⟨.inl rfl, .inl rfl, .inl rfl, .inl rfl, .inl rfl, .inl rfl, .inl rfl, .inl rfl, .inl rfl, .inl rfl, .inl rfl, .inl rfl, .inl rfl, .inl rfl, .inl rfl, True.intro⟩ (Nat.le_refl 15) (both_below _ _ _ _ _ _ _ (Nat.le_refl 13)) rfl
  · have hd : w.dry e k = (t, 1) := by unfold Wd.dry; rw [h1, ht]; rfl
    rw [hd] at c3
    rw [ix_no h3] at ca
    refine acalls_of_awp hT mixed Try.func18 rfl (by kernel_rfl) (by kernel_rfl) (Nat.le_of_ble_eq_true rfl) ?_
    refine callU_5 (E := rEw 13 w 5 sec) c1 hw hw hi rfl rfl ?_
    refine callR_5 (E := []) c2 rfl rfl ?_
    refine callU_5 (E := rEw 13 w 5 sec) c3 hw hw hi rfl rfl ?_
    refine callW (cs := [bo w.off, i64 (5 : Nat), i64 (sec : Nat), .slc 13 0 (5 * sec) 3]) (rest := [i64 e, i64 k]) ca rfl rfl rfl ?_
    refine fork (fun h => ?_) (fun _ => ?_)
    · rw [strEq_iff.2 rfl] at h
      cases h
    refine fork (fun h => ?_) (fun _ => ?_)
    · exact absurd rfl (bne_iff_ne.1 h)
    refine fork (fun _ => ?_) (fun h => absurd ht (strEq_false.1 h))
    exact endH rfl rfl rfl ⟨.inl rfl, .inl rfl, .inl rfl, .inl rfl, .inl rfl, .inl rfl, .inl rfl, .inl rfl, .inl rfl, .inl rfl, .inl rfl, .inl rfl, .inl rfl, .inl rfl, .inl rfl, True.intro⟩ (Nat.le_refl 15) (both_below _ _ _ _ _ _ _ (Nat.le_refl 13)) rfl
set_option maxHeartbeats 4000000 in
theorem callR_6 {P : Program} {g : FuncId} {bs args : List AV} {v : AV} {off o o' : Bool} {sec n' sec' N : Nat} {d0 d1 d2 d3 d4 d5 : List ByteArray} {m0 m1 m2 m3 m4 m5 : Mp} {S S' : List Sx} {E : Heap} {K : AV → Heap → Prop} {Kp : Value → Heap → Prop} (h : ACalls P g bs (rH o n' sec' N S) (RetH v (rH o' n' sec' N S')))
    (ha : args = renL (rn [15, 16] ((Wd.mk off sec [d0, d1, d2, d3, d4, d5] [m0, m1, m2, m3, m4, m5]).H ++ (rE 15 o n' sec' N S ++ E)).length) bs) (hv : ren (rn [15, 16] ((Wd.mk off sec [d0, d1, d2, d3, d4, d5] [m0, m1, m2, m3, m4, m5]).H ++ (rE 15 o n' sec' N S ++ E)).length) v = v)
    (k : K v ((Wd.mk off sec [d0, d1, d2, d3, d4, d5] [m0, m1, m2, m3, m4, m5]).H ++ (rE 15 o' n' sec' N S' ++ E))) :
    ACalls P g args ((Wd.mk off sec [d0, d1, d2, d3, d4, d5] [m0, m1, m2, m3, m4, m5]).H ++ (rE 15 o n' sec' N S ++ E)) (panK K Kp) :=
  callH h [15, 16] ha ⟨oX rfl, .inl rfl, True.intro⟩ rfl hv (by unfold merge rH; simp only [renH, renO_sx]; exact Eq.trans (List.append_nil _) rfl) k
set_option maxHeartbeats 4000000 in
theorem alike_6 {sec : Nat} (w : Wd) (hi : w.is 6 sec) (hs : sec ≤ 1000) (e k : Int) : ACalls Try.prog 18 [.ptr 0 0, .ptr 16 0, i64 e, i64 k] (w.H ++ rEw 15 w 6 sec) (RetH (bo true) (w.H ++ rEw 15 w 6 sec)) := by
  obtain ⟨o, d0, d1, d2, d3, d4, d5, m0, m1, m2, m3, m4, m5, hw⟩ := tell_6 hi
  have c1 := readW w hi.ok e k
  have c2 := refReadW (e := e) (k := k) hi (by omega) hs
  unfold refH at c2
  have c3 := dryW w hi.ok e k
  have ca := refAt_ok w.off 6 sec (6 * sec) (by omega) hs e k
  generalize w.read e k = rd at c1 c2
  obtain ⟨rs, rc⟩ := rd
  have hr := w.may_cases e k
  rw [hi.n, hi.s] at hr
  obtain ⟨t, ht⟩ : ∃ t, t = ByteArray.empty := ⟨_, rfl⟩
  rw [show w.H = (Wd.mk o sec [d0, d1, d2, d3, d4, d5] [m0, m1, m2, m3, m4, m5]).H from congrArg Wd.H hw]
  rcases hr with ⟨h1, h3⟩ | ⟨h1, h3⟩
  · have hx := secs_at w (show inW 6 sec e k from h3)
    rw [dry_0 h1] at c3
    rw [(ix_in h3).1] at ca
    have hlt := (ix_in h3).2
    generalize ixN sec e k = i at *
    refine acalls_of_awp hT mixed Try.func18 rfl (by kernel_rfl) (by kernel_rfl) (Nat.le_of_ble_eq_true rfl) ?_
    refine callU_6 (E := rEw 15 w 6 sec) c1 hw hw hi rfl rfl ?_
    refine callR_6 (E := []) c2 rfl rfl ?_
    refine callU_6 (E := rEw 15 w 6 sec) c3 hw hw hi rfl rfl ?_
    refine callW (cs := [bo w.off, i64 (6 : Nat), i64 (sec : Nat), .slc 15 0 (6 * sec) 3]) (rest := [i64 e, i64 k]) ca rfl rfl rfl ?_
    refine fork (fun h => ?_) (fun _ => ?_)
    · rw [strEq_iff.2 rfl] at h
      cases h
    refine fork (fun h => ?_) (fun _ => ?_)
    · exact absurd rfl (bne_iff_ne.1 h)
    refine Ob.intro (show (0 : Int) ≤ (i : Nat) ∧ ((i : Nat) : Int) < ((6 * sec : Nat) : Int) by omega) ?_
    refine optK_intro (rd_cellX sxC_len (v := str (w.d e k)) (c := 0) rfl hx (by show 0 + ((i : Nat) : Int).toNat * 3 + 0 = _; omega) rfl) ?_
    refine fork (fun _ => ?_) (fun h => absurd rfl (strEq_false.1 h))
    exact endH rfl rfl rfl ⟨.inl rfl, .inl rfl, .inl rfl, .inl rfl, .inl rfl, .inl rfl, .inl rfl, .inl rfl, .inl rfl, .inl rfl, .inl rfl, .inl rfl, .inl rfl, .inl rfl, .inl rfl, .inl rfl, .inl rfl, True.intro⟩ (Nat.le_refl 17) (both_below _ _ _ _ _ _ _ (Nat.le_refl 15)) rfl
  · have hd : w.dry e k = (t, 1) := by unfold Wd.dry; rw [h1, ht]; rfl
    rw [hd] at c3
    rw [ix_no h3] at ca
    refine acalls_of_awp hT mixed Try.func18 rfl (by kernel_rfl) (by kernel_rfl) (Nat.le_of_ble_eq_true rfl) ?_
    refine callU_6 (E := rEw 15 w 6 sec) c1 hw hw hi rfl rfl ?_
    refine callR_6 (E := []) c2 rfl rfl ?_
    refine callU_6 (E := rEw 15 w 6 sec) c3 hw hw hi rfl rfl ?_
    refine callW (cs := [bo w.off, i64 (6 : Nat), i64 (sec : Nat), .slc 15 0 (6 * sec) 3]) (rest := [i64 e, i64 k]) ca rfl rfl rfl ?_
    refine fork (fun h => ?_) (fun _ => ?_)
    · rw [strEq_iff.2 rfl] at h
      cases h
    refine fork (fun h => ?_) (fun _ => ?_)
    · exact absurd rfl (bne_iff_ne.1 h)
    refine fork (fun _ => ?_) (fun h => absurd ht (strEq_false.1 h))
    exact endH rfl rfl rfl ⟨.inl rfl, .inl rfl, .inl rfl, .inl rfl, .inl rfl, .inl rfl, .inl rfl, .inl rfl, .inl rfl, .inl rfl, .inl rfl, .inl rfl, .inl rfl, .inl rfl, .inl rfl, .inl rfl, .inl rfl, True.intro⟩ (Nat.le_refl 17) (both_below _ _ _ _ _ _ _ (Nat.le_refl 15)) rfl
set_option maxHeartbeats 4000000 in
theorem callR_7 {P : Program} {g : FuncId} {bs args : List AV} {v : AV} {off o o' : Bool} {sec n' sec' N : Nat} {d0 d1 d2 d3 d4 d5 d6 : List ByteArray} {m0 m1 m2 m3 m4 m5 m6 : Mp} {S S' : List Sx} {E : Heap} {K : AV → Heap → Prop} {Kp : Value → Heap → Prop} (h : ACalls P g bs (rH o n' sec' N S) (RetH v (rH o' n' sec' N S')))
    (ha : args = renL (rn [17, 18] ((Wd.mk off sec [d0, d1, d2, d3, d4, d5, d6] [m0, m1, m2, m3, m4, m5, m6]).H ++ (rE 17 o n' sec' N S ++ E)).length) bs) (hv : ren (rn [17, 18] ((Wd.mk off sec [d0, d1, d2, d3, d4, d5, d6] [m0, m1, m2, m3, m4, m5, m6]).H ++ (rE 17 o n' sec' N S ++ E)).length) v = v)
    (k : K v ((Wd.mk off sec [d0, d1, d2, d3, d4, d5, d6] [m0, m1, m2, m3, m4, m5, m6]).H ++ (rE 17 o' n' sec' N S' ++ E))) :
    ACalls P g args ((Wd.mk off sec [d0, d1, d2, d3, d4, d5, d6] [m0, m1, m2, m3, m4, m5, m6]).H ++ (rE 17 o n' sec' N S ++ E)) (panK K Kp) :=
  callH h [17, 18] ha ⟨oX rfl, .inl rfl, True.intro⟩ rfl hv (by unfold merge rH; simp only [renH, renO_sx]; exact Eq.trans (List.append_nil _) rfl) k
set_option maxHeartbeats 4000000 in
theorem alike_7 {sec : Nat} (w : Wd) (hi : w.is 7 sec) (hs : sec ≤ 1000) (e k : Int) : ACalls Try.prog 18 [.ptr 0 0, .ptr 18 0, i64 e, i64 k] (w.H ++ rEw 17 w 7 sec) (RetH (bo true) (w.H ++ rEw 17 w 7 sec)) := by
  obtain ⟨o, d0, d1, d2, d3, d4, d5, d6, m0, m1, m2, m3, m4, m5, m6, hw⟩ := tell_7 hi
  have c1 := readW w hi.ok e k
  have c2 := refReadW (e := e) (k := k) hi (by omega) hs
  unfold refH at c2
  have c3 := dryW w hi.ok e k
  have ca := refAt_ok w.off 7 sec (7 * sec) (by omega) hs e k
  generalize w.read e k = rd at c1 c2
  obtain ⟨rs, rc⟩ := rd
  have hr := w.may_cases e k
  rw [hi.n, hi.s] at hr
  obtain ⟨t, ht⟩ : ∃ t, t = ByteArray.empty := ⟨_, rfl⟩
  rw [show w.H = (Wd.mk o sec [d0, d1, d2, d3, d4, d5, d6] [m0, m1, m2, m3, m4, m5, m6]).H from congrArg Wd.H hw]
  rcases hr with ⟨h1, h3⟩ | ⟨h1, h3⟩
  · have hx := secs_at w (show inW 7 sec e k from h3)
    rw [dry_0 h1] at c3
    rw [(ix_in h3).1] at ca
    have hlt := (ix_in h3).2
    generalize ixN sec e k = i at *
    refine acalls_of_awp hT mixed Try.func18 rfl (by kernel_rfl) (by kernel_rfl) (Nat.le_of_ble_eq_true rfl) ?_
    refine callU_7 (E := rEw 17 w 7 sec) c1 hw hw hi rfl rfl ?_
    refine callR_7 (E := []) c2 rfl rfl ?_
    refine callU_7 (E := rEw 17 w 7 sec) c3 hw hw hi rfl rfl ?_
    refine callW (cs := [bo w.off, i64 (7 : Nat), i64 (sec : Nat), .slc 17 0 (7 * sec) 3]) (rest := [i64 e, i64 k]) ca rfl rfl rfl ?_
    refine fork (fun h => ?_) (fun _ => ?_)
    · rw [strEq_iff.2 rfl] at h
      cases h
    refine fork (fun h => ?_) (fun _ => ?_)
    · exact absurd rfl (bne_iff_ne.1 h)
    refine Ob.intro (show (0 : Int) ≤ (i : Nat) ∧ ((i : Nat) : Int) < ((7 * sec : Nat) : Int) by omega) ?_
    refine optK_intro (rd_cellX sxC_len (v := str (w.d e k)) (c := 0) rfl hx (by show 0 + ((i : Nat) : Int).toNat * 3 + 0 = _; omega) rfl) ?_
    refine fork (fun _ => ?_) (fun h => absurd rfl (strEq_false.1 h))
    exact endH rfl rfl rfl ⟨.inl rfl, .inl rfl, .inl rfl, .inl rfl, .inl rfl, .inl rfl, .inl rfl, .inl rfl, .inl rfl, .inl rfl, .inl rfl, .inl rfl, .inl rfl, .inl rfl, .inl rfl, .inl rfl, .inl rfl, .inl rfl, .inl rfl, True.intro⟩ (Nat.le_refl 19) (both_below _ _ _ _ _ _ _ (Nat.le_refl 17)) rfl
  · have hd : w.dry e k = (t, 1) := by unfold Wd.dry; rw [h1, ht]; rfl
    rw [hd] at c3
    rw [ix_no h3] at ca
    refine acalls_of_awp hT mixed Try.func18 rfl (by kernel_rfl) (by kernel_rfl) (Nat.le_of_ble_eq_true rfl) ?_
    refine callU_7 (E := rEw 17 w 7 sec) c1 hw hw hi rfl rfl ?_
    refine callR_7 (E := []) c2 rfl rfl ?_
    refine callU_7 (E := rEw 17 w 7 sec) c3 hw hw hi rfl rfl ?_
    refine callW (cs := [bo w.off, i64 (7 : Nat), i64 (sec : Nat), .slc 17 0 (7 * sec) 3]) (rest := [i64 e, i64 k]) ca rfl rfl rfl ?_
    refine fork (fun h => ?_) (fun _ => ?_)
    · rw [strEq_iff.2 rfl] at h
      cases h
    refine fork (fun h => ?_) (fun _ => ?_)
    · exact absurd rfl (bne_iff_ne.1 h)
    refine fork (fun _ => ?_) (fun h => absurd ht (strEq_false.1 h))
    exact endH rfl rfl rfl ⟨.inl rfl, .inl rfl, .inl rfl, .inl rfl, .inl rfl, .inl rfl, .inl rfl, .inl rfl, .inl rfl, .inl rfl, .inl rfl, .inl rfl, .inl rfl, .inl rfl, .inl rfl, .inl rfl, .inl rfl, .inl rfl, .inl rfl, True.intro⟩ (Nat.le_refl 19) (both_below _ _ _ _ _ _ _ (Nat.le_refl 17)) rfl
set_option maxHeartbeats 4000000 in
theorem callR_8 {P : Program} {g : FuncId} {bs args : List AV} {v : AV} {off o o' : Bool} {sec n' sec' N : Nat} {d0 d1 d2 d3 d4 d5 d6 d7 : List ByteArray} {m0 m1 m2 m3 m4 m5 m6 m7 : Mp} {S S' : List Sx} {E : Heap} {K : AV → Heap → Prop} {Kp : Value → Heap → Prop} (h : ACalls P g bs (rH o n' sec' N S) (RetH v (rH o' n' sec' N S')))
    (ha : args = renL (rn [19, 20] ((Wd.mk off sec [d0, d1, d2, d3, d4, d5, d6, d7] [m0, m1, m2, m3, m4, m5, m6, m7]).H ++ (rE 19 o n' sec' N S ++ E)).length) bs) (hv : ren (rn [19, 20] ((Wd.mk off sec [d0, d1, d2, d3, d4, d5, d6, d7] [m0, m1, m2, m3, m4, m5, m6, m7]).H ++ (rE 19 o n' sec' N S ++ E)).length) v = v)
    (k : K v ((Wd.mk off sec [d0, d1, d2, d3, d4, d5, d6, d7] [m0, m1, m2, m3, m4, m5, m6, m7]).H ++ (rE 19 o' n' sec' N S' ++ E))) :
    ACalls P g args ((Wd.mk off sec [d0, d1, d2, d3, d4, d5, d6, d7] [m0, m1, m2, m3, m4, m5, m6, m7]).H ++ (rE 19 o n' sec' N S ++ E)) (panK K Kp) :=
  callH h [19, 20] ha ⟨oX rfl, .inl rfl, True.intro⟩ rfl hv (by unfold merge rH; simp only [renH, renO_sx]; exact Eq.trans (List.append_nil _) rfl) k
set_option maxHeartbeats 4000000 in
theorem alike_8 {sec : Nat} (w : Wd) (hi : w.is 8 sec) (hs : sec ≤ 1000) (e k : Int) : ACalls Try.prog 18 [.ptr 0 0, .ptr 20 0, i64 e, i64 k] (w.H ++ rEw 19 w 8 sec) (RetH (bo true) (w.H ++ rEw 19 w 8 sec)) := by
  obtain ⟨o, d0, d1, d2, d3, d4, d5, d6, d7, m0, m1, m2, m3, m4, m5, m6, m7, hw⟩ := tell_8 hi
  have c1 := readW w hi.ok e k
  have c2 := refReadW (e := e) (k := k) hi (by omega) hs
  unfold refH at c2
  have c3 := dryW w hi.ok e k
  have ca := refAt_ok w.off 8 sec (8 * sec) (by omega) hs e k
  generalize w.read e k = rd at c1 c2
  obtain ⟨rs, rc⟩ := rd
  have hr := w.may_cases e k
  rw [hi.n, hi.s] at hr
  obtain ⟨t, ht⟩ : ∃ t, t = ByteArray.empty := ⟨_, rfl⟩
  rw [show w.H = (Wd.mk o sec [d0, d1, d2, d3, d4, d5, d6, d7] [m0, m1, m2, m3, m4, m5, m6, m7]).H from congrArg Wd.H hw]
  rcases hr with ⟨h1, h3⟩ | ⟨h1, h3⟩
  · have hx := secs_at w (show inW 8 sec e k from h3)
    rw [dry_0 h1] at c3
    rw [(ix_in h3).1] at ca
    have hlt := (ix_in h3).2
    generalize ixN sec e k = i at *
    refine acalls_of_awp hT mixed Try.func18 rfl (by kernel_rfl) (by kernel_rfl) (Nat.le_of_ble_eq_true rfl) ?_
    refine callU_8 (E := rEw 19 w 8 sec) c1 hw hw hi rfl rfl ?_
    refine callR_8 (E := []) c2 rfl rfl ?_
    refine callU_8 (E := rEw 19 w 8 sec) c3 hw hw hi rfl rfl ?_
    refine callW (cs := [bo w.off, i64 (8 : Nat), i64 (sec : Nat), .slc 19 0 (8 * sec) 3]) (rest := [i64 e, i64 k]) ca rfl rfl rfl ?_
    refine fork (fun h => ?_) (fun _ => ?_)
    · rw [strEq_iff.2 rfl] at h
      cases h
    refine fork (fun h => ?_) (fun _ => ?_)
    · exact absurd rfl (bne_iff_ne.1 h)
    refine Ob.intro (show (0 : Int) ≤ (i : Nat) ∧ ((i : Nat) : Int) < ((8 * sec : Nat) : Int) by omega) ?_
    refine optK_intro (rd_cellX sxC_len (v := str (w.d e k)) (c := 0) rfl hx (by show 0 + ((i : Nat) : Int).toNat * 3 + 0 = _; omega) rfl) ?_
    refine fork (fun _ => ?_) (fun h => absurd rfl (strEq_false.1 h))
    exact endH rfl rfl rfl ⟨.inl rfl, .inl rfl, .inl rfl, .inl rfl, .inl rfl, .inl rfl, .inl rfl, .inl rfl, .inl rfl, .inl rfl, .inl rfl, .inl rfl, .inl rfl, .inl rfl, .inl rfl, .inl rfl, .inl rfl, .inl rfl, .inl rfl, .inl rfl, .inl rfl, True.intro⟩ (Nat.le_refl 21) (both_below _ _ _ _ _ _ _ (Nat.le_refl 19)) rfl
  · have hd : w.dry e k = (t, 1) := by unfold Wd.dry; rw [h1, ht]; rfl
    rw [hd] at c3
    rw [ix_no h3] at ca
    refine acalls_of_awp hT mixed Try.func18 rfl (by kernel_rfl) (by kernel_rfl) (Nat.le_of_ble_eq_true rfl) ?_
    refine callU_8 (E := rEw 19 w 8 sec) c1 hw hw hi rfl rfl ?_
    refine callR_8 (E := []) c2 rfl rfl ?_
    refine callU_8 (E := rEw 19 w 8 sec) c3 hw hw hi rfl rfl ?_
    refine callW (cs := [bo w.off, i64 (8 : Nat), i64 (sec : Nat), .slc 19 0 (8 * sec) 3]) (rest := [i64 e, i64 k]) ca rfl rfl rfl ?_
    refine fork (fun h => ?_) (fun _ => ?_)
    · rw [strEq_iff.2 rfl] at h
      cases h
    refine fork (fun h => ?_) (fun _ => ?_)
    · exact absurd rfl (bne_iff_ne.1 h)
    refine fork (fun _ => ?_) (fun h => absurd ht (strEq_false.1 h))
    exact endH rfl rfl rfl ⟨.inl rfl, .inl rfl, .inl rfl, .inl rfl, .inl rfl, .inl rfl, .inl rfl, .inl rfl, .inl rfl, .inl rfl, .inl rfl, .inl rfl, .inl rfl, .inl rfl, .inl rfl, .inl rfl, .inl rfl, .inl rfl, .inl rfl, .inl rfl, .inl rfl, True.intro⟩ (Nat.le_refl 21) (both_below _ _ _ _ _ _ _ (Nat.le_refl 19)) rfl
theorem does_1 {sec : Nat} (w : Wd) (hi : w.is 1 sec) (hs : sec ≤ 1000) (x : Xa) (hp : x.ps.length ≤ 100) : ACalls Try.prog 17 [.ptr 0 0, .ptr 6 0, .agg (xaC x)] (w.H ++ rEw 5 w 1 sec) (RetH (bo true) ((w.play x).H ++ rEw 5 (w.play x) 1 sec)) := by
  obtain ⟨k, e, a, s, ps⟩ := x
  obtain ⟨o, d0, m0, hw⟩ := tell_1 hi
  dsimp only at hp
  by_cases h1 : k = 1
  · subst h1
    have hi' := write_is hi e a s
    have c1 := writeW w hi.ok e a s
    have c2 := refWriteW (e := e) (k := a) (s := s) hi (by omega) hs
    unfold refH at c2
    obtain ⟨o', x0, y0, hw'⟩ := tell_1 hi'
    show ACalls _ _ _ (w.H ++ _) (RetH _ ((w.write e a s).2.H ++ rEw 5 (w.write e a s).2 1 sec))
    rw [show w.H = (Wd.mk o sec [d0] [m0]).H from congrArg Wd.H hw, show (w.write e a s).2.H = (Wd.mk o' sec [x0] [y0]).H from congrArg Wd.H hw']
    generalize (w.write e a s).1 = r at c1 c2
    refine acalls_of_awp hT mixed Try.func17 rfl (by kernel_rfl) (by kernel_rfl) (Nat.le_of_ble_eq_true rfl) ?_
    refine ⟨dlZg2a, dlZg2b, dlZg2c, dlZg2d, dlZg2e, Ob.intro (by kernel_rfl) ?_⟩
    repeat refine same ?_
    refine callU_1 (E := rEw 5 w 1 sec ++ [.row (xaC ⟨1, e, a, s, ps⟩)]) c1 hw hw' hi' rfl rfl ?_
    repeat refine same ?_
    refine callR_1 (E := [.row (xaC ⟨1, e, a, s, ps⟩)]) c2 rfl rfl ?_
    refine fork (fun _ => ?_) (fun h => ?_)
    rotate_left
    · exact absurd (beq_iff_eq.2 rfl) (by rw [h]; decide)
    repeat refine same ?_
    exact endH rfl rfl rfl ⟨.inl rfl, .inl rfl, .inl rfl, .inl rfl, .inl rfl, .inl rfl, .inl rfl, True.intro⟩ (Nat.le_refl 7) (both_below _ _ _ _ _ _ _ (Nat.le_refl 5)) rfl
  by_cases h2 : k = 2
  · subst h2
    have hi' := flush_is hi e
    have c1 := flushW w hi.ok e
    have c2 := refFlushW (e := e) hi (by omega) hs
    unfold refH at c2
    obtain ⟨o', x0, y0, hw'⟩ := tell_1 hi'
    show ACalls _ _ _ (w.H ++ _) (RetH _ ((w.flush e).2.H ++ rEw 5 (w.flush e).2 1 sec))
    rw [show w.H = (Wd.mk o sec [d0] [m0]).H from congrArg Wd.H hw, show (w.flush e).2.H = (Wd.mk o' sec [x0] [y0]).H from congrArg Wd.H hw']
    generalize (w.flush e).1 = r at c1 c2
    refine acalls_of_awp hT mixed Try.func17 rfl (by kernel_rfl) (by kernel_rfl) (Nat.le_of_ble_eq_true rfl) ?_
    refine ⟨dlZg3a, dlZg3b, dlZg3c, dlZg3d, dlZg3e, Ob.intro (by kernel_rfl) ?_⟩
    repeat refine same ?_
    refine callU_1 (E := rEw 5 w 1 sec ++ [.row (xaC ⟨2, e, a, s, ps⟩)]) c1 hw hw' hi' rfl rfl ?_
    repeat refine same ?_
    refine callR_1 (E := [.row (xaC ⟨2, e, a, s, ps⟩)]) c2 rfl rfl ?_
    refine fork (fun _ => ?_) (fun h => ?_)
    rotate_left
    · exact absurd (beq_iff_eq.2 rfl) (by rw [h]; decide)
    repeat refine same ?_
    exact endH rfl rfl rfl ⟨.inl rfl, .inl rfl, .inl rfl, .inl rfl, .inl rfl, .inl rfl, .inl rfl, True.intro⟩ (Nat.le_refl 7) (both_below _ _ _ _ _ _ _ (Nat.le_refl 5)) rfl
  by_cases h3 : k = 3
  · subst h3
    rw [show w.play ⟨3, e, a, s, ps⟩ = (w.crash ps).2 from if_pos hp]
    have hi' := crash_is hi ps
    have c1 := crashW w hi.ok (by rw [hi.n]; omega) ps (by omega)
    have c2 := refCrashW hi (by omega) hs ps (by omega)
    unfold refH at c2
    obtain ⟨o', x0, y0, hw'⟩ := tell_1 hi'
    show ACalls _ _ _ (w.H ++ _) (RetH _ ((w.crash ps).2.H ++ rEw 5 (w.crash ps).2 1 sec))
    rw [show w.H = (Wd.mk o sec [d0] [m0]).H from congrArg Wd.H hw, show (w.crash ps).2.H = (Wd.mk o' sec [x0] [y0]).H from congrArg Wd.H hw']
    generalize (w.crash ps).1 = r at c1 c2
    refine acalls_of_awp hT mixed Try.func17 rfl (by kernel_rfl) (by kernel_rfl) (Nat.le_of_ble_eq_true rfl) ?_
    refine ⟨dlZg4a, dlZg4b, dlZg4c, dlZg4d, dlZg4e, Ob.intro (by kernel_rfl) ?_⟩
    repeat refine same ?_
    refine callU_1 (E := rEw 5 w 1 sec ++ [.row (xaC ⟨3, e, a, s, ps⟩)]) c1 hw hw' hi' rfl rfl ?_
    repeat refine same ?_
    refine callR_1 (E := [.row (xaC ⟨3, e, a, s, ps⟩)]) c2 rfl rfl ?_
    refine fork (fun _ => ?_) (fun h => ?_)
    rotate_left
    · exact absurd (beq_iff_eq.2 rfl) (by rw [h]; decide)
    repeat refine same ?_
    exact endH rfl rfl rfl ⟨.inl rfl, .inl rfl, .inl rfl, .inl rfl, .inl rfl, .inl rfl, .inl rfl, True.intro⟩ (Nat.le_refl 7) (both_below _ _ _ _ _ _ _ (Nat.le_refl 5)) rfl
  by_cases h4 : k = 4
  · subst h4
    have hi' := start_is hi
    have c1 := startW w hi.ok (by rw [hi.n]; omega)
    have c2 := refStartW hi
    unfold refH at c2
    obtain ⟨o', x0, y0, hw'⟩ := tell_1 hi'
    show ACalls _ _ _ (w.H ++ _) (RetH _ (w.start.2.H ++ rEw 5 w.start.2 1 sec))
    rw [show w.H = (Wd.mk o sec [d0] [m0]).H from congrArg Wd.H hw, show w.start.2.H = (Wd.mk o' sec [x0] [y0]).H from congrArg Wd.H hw']
    generalize w.start.1 = r at c1 c2
    refine acalls_of_awp hT mixed Try.func17 rfl (by kernel_rfl) (by kernel_rfl) (Nat.le_of_ble_eq_true rfl) ?_
    refine callU_1 (E := rEw 5 w 1 sec ++ [.row (xaC ⟨4, e, a, s, ps⟩)]) c1 hw hw' hi' rfl rfl ?_
    repeat refine same ?_
    refine callR_1 (E := [.row (xaC ⟨4, e, a, s, ps⟩)]) c2 rfl rfl ?_
    refine fork (fun _ => ?_) (fun h => ?_)
    rotate_left
    · exact absurd (beq_iff_eq.2 rfl) (by rw [h]; decide)
    repeat refine same ?_
    exact endH rfl rfl rfl ⟨.inl rfl, .inl rfl, .inl rfl, .inl rfl, .inl rfl, .inl rfl, .inl rfl, True.intro⟩ (Nat.le_refl 7) (both_below _ _ _ _ _ _ _ (Nat.le_refl 5)) rfl
  by_cases h5 : k = 5
  · subst h5
    have hi' := lay_is hi e a s
    have c1 := layW w hi.ok e a s
    have c2 := refLayW (e := e) (k := a) (s := s) hi (by omega) hs
    unfold refH at c2
    obtain ⟨o', x0, y0, hw'⟩ := tell_1 hi'
    show ACalls _ _ _ (w.H ++ _) (RetH _ ((w.lay e a s).2.H ++ rEw 5 (w.lay e a s).2 1 sec))
    rw [show w.H = (Wd.mk o sec [d0] [m0]).H from congrArg Wd.H hw, show (w.lay e a s).2.H = (Wd.mk o' sec [x0] [y0]).H from congrArg Wd.H hw']
    generalize (w.lay e a s).1 = r at c1 c2
    refine acalls_of_awp hT mixed Try.func17 rfl (by kernel_rfl) (by kernel_rfl) (Nat.le_of_ble_eq_true rfl) ?_
    refine ⟨dlZg1a, dlZg1b, dlZg1c, dlZg1d, dlZg1e, Ob.intro (by kernel_rfl) ?_⟩
    repeat refine same ?_
    refine callU_1 (E := rEw 5 w 1 sec ++ [.row (xaC ⟨5, e, a, s, ps⟩)]) c1 hw hw' hi' rfl rfl ?_
    repeat refine same ?_
    refine callR_1 (E := [.row (xaC ⟨5, e, a, s, ps⟩)]) c2 rfl rfl ?_
    refine fork (fun _ => ?_) (fun h => ?_)
    rotate_left
    · exact absurd (beq_iff_eq.2 rfl) (by rw [h]; decide)
    repeat refine same ?_
    exact endH rfl rfl rfl ⟨.inl rfl, .inl rfl, .inl rfl, .inl rfl, .inl rfl, .inl rfl, .inl rfl, True.intro⟩ (Nat.le_refl 7) (both_below _ _ _ _ _ _ _ (Nat.le_refl 5)) rfl
  have hpl : w.play ⟨k, e, a, s, ps⟩ = w := by
    unfold Wd.play
    rw [if_neg h1, if_neg h2, if_neg h3, if_neg h4, if_neg h5]
  rw [hpl, show w.H = (Wd.mk o sec [d0] [m0]).H from congrArg Wd.H hw]
  refine acalls_of_awp hT mixed Try.func17 rfl (by kernel_rfl) (by kernel_rfl) (Nat.le_of_ble_eq_true rfl) ?_
  refine forkD (fun h => absurd h h1) (fun _ => ?_)
  refine forkD (fun h => absurd h h2) (fun _ => ?_)
  refine forkD (fun h => absurd h h3) (fun _ => ?_)
  refine forkD (fun h => absurd h h4) (fun _ => ?_)
  refine forkD (fun h => absurd h h5) (fun _ => ?_)
  exact endH rfl rfl rfl ⟨.inl rfl, .inl rfl, .inl rfl, .inl rfl, .inl rfl, .inl rfl, .inl rfl, True.intro⟩ (Nat.le_refl 7) (both_below _ _ _ _ _ _ _ (Nat.le_refl 5)) rfl
theorem does_2 {sec : Nat} (w : Wd) (hi : w.is 2 sec) (hs : sec ≤ 1000) (x : Xa) (hp : x.ps.length ≤ 100) : ACalls Try.prog 17 [.ptr 0 0, .ptr 8 0, .agg (xaC x)] (w.H ++ rEw 7 w 2 sec) (RetH (bo true) ((w.play x).H ++ rEw 7 (w.play x) 2 sec)) := by
  obtain ⟨k, e, a, s, ps⟩ := x
  obtain ⟨o, d0, d1, m0, m1, hw⟩ := tell_2 hi
  dsimp only at hp
  by_cases h1 : k = 1
  · subst h1
    have hi' := write_is hi e a s
    have c1 := writeW w hi.ok e a s
    have c2 := refWriteW (e := e) (k := a) (s := s) hi (by omega) hs
    unfold refH at c2
    obtain ⟨o', x0, x1, y0, y1, hw'⟩ := tell_2 hi'
    show ACalls _ _ _ (w.H ++ _) (RetH _ ((w.write e a s).2.H ++ rEw 7 (w.write e a s).2 2 sec))
    rw [show w.H = (Wd.mk o sec [d0, d1] [m0, m1]).H from congrArg Wd.H hw, show (w.write e a s).2.H = (Wd.mk o' sec [x0, x1] [y0, y1]).H from congrArg Wd.H hw']
    generalize (w.write e a s).1 = r at c1 c2
    refine acalls_of_awp hT mixed Try.func17 rfl (by kernel_rfl) (by kernel_rfl) (Nat.le_of_ble_eq_true rfl) ?_
    refine ⟨dlZg2a, dlZg2b, dlZg2c, dlZg2d, dlZg2e, Ob.intro (by kernel_rfl) ?_⟩
    repeat refine same ?_
    refine callU_2 (E := rEw 7 w 2 sec ++ [.row (xaC ⟨1, e, a, s, ps⟩)]) c1 hw hw' hi' rfl rfl ?_
    repeat refine same ?_
    refine callR_2 (E := [.row (xaC ⟨1, e, a, s, ps⟩)]) c2 rfl rfl ?_
    refine fork (fun _ => ?_) (fun h => ?_)
    rotate_left
    · exact absurd (beq_iff_eq.2 rfl) (by rw [h]; decide)
    repeat refine same ?_
    exact endH rfl rfl rfl ⟨.inl rfl, .inl rfl, .inl rfl, .inl rfl, .inl rfl, .inl rfl, .inl rfl, .inl rfl, .inl rfl, True.intro⟩ (Nat.le_refl 9) (both_below _ _ _ _ _ _ _ (Nat.le_refl 7)) rfl
  by_cases h2 : k = 2
  · subst h2
    have hi' := flush_is hi e
    have c1 := flushW w hi.ok e
    have c2 := refFlushW (e := e) hi (by omega) hs
    unfold refH at c2
    obtain ⟨o', x0, x1, y0, y1, hw'⟩ := tell_2 hi'
    show ACalls _ _ _ (w.H ++ _) (RetH _ ((w.flush e).2.H ++ rEw 7 (w.flush e).2 2 sec))
    rw [show w.H = (Wd.mk o sec [d0, d1] [m0, m1]).H from congrArg Wd.H hw, show (w.flush e).2.H = (Wd.mk o' sec [x0, x1] [y0, y1]).H from congrArg Wd.H hw']
    generalize (w.flush e).1 = r at c1 c2
    refine acalls_of_awp hT mixed Try.func17 rfl (by kernel_rfl) (by kernel_rfl) (Nat.le_of_ble_eq_true rfl) ?_
    refine ⟨dlZg3a, dlZg3b, dlZg3c, dlZg3d, dlZg3e, Ob.intro (by kernel_rfl) ?_⟩
    repeat refine same ?_
    refine callU_2 (E := rEw 7 w 2 sec ++ [.row (xaC ⟨2, e, a, s, ps⟩)]) c1 hw hw' hi' rfl rfl ?_
    repeat refine same ?_
    refine callR_2 (E := [.row (xaC ⟨2, e, a, s, ps⟩)]) c2 rfl rfl ?_
    refine fork (fun _ => ?_) (fun h => ?_)
    rotate_left
    · exact absurd (beq_iff_eq.2 rfl) (by rw [h]; decide)
    repeat refine same ?_
    exact endH rfl rfl rfl ⟨.inl rfl, .inl rfl, .inl rfl, .inl rfl, .inl rfl, .inl rfl, .inl rfl, .inl rfl, .inl rfl, True.intro⟩ (Nat.le_refl 9) (both_below _ _ _ _ _ _ _ (Nat.le_refl 7)) rfl
  by_cases h3 : k = 3
  · subst h3
    rw [show w.play ⟨3, e, a, s, ps⟩ = (w.crash ps).2 from if_pos hp]
    have hi' := crash_is hi ps
    have c1 := crashW w hi.ok (by rw [hi.n]; omega) ps (by omega)
    have c2 := refCrashW hi (by omega) hs ps (by omega)
    unfold refH at c2
    obtain ⟨o', x0, x1, y0, y1, hw'⟩ := tell_2 hi'
    show ACalls _ _ _ (w.H ++ _) (RetH _ ((w.crash ps).2.H ++ rEw 7 (w.crash ps).2 2 sec))
    rw [show w.H = (Wd.mk o sec [d0, d1] [m0, m1]).H from congrArg Wd.H hw, show (w.crash ps).2.H = (Wd.mk o' sec [x0, x1] [y0, y1]).H from congrArg Wd.H hw']
    generalize (w.crash ps).1 = r at c1 c2
    refine acalls_of_awp hT mixed Try.func17 rfl (by kernel_rfl) (by kernel_rfl) (Nat.le_of_ble_eq_true rfl) ?_
    refine ⟨dlZg4a, dlZg4b, dlZg4c, dlZg4d, dlZg4e, Ob.intro (by kernel_rfl) ?_⟩
    repeat refine same ?_
    refine callU_2 (E := rEw 7 w 2 sec ++ [.row (xaC ⟨3, e, a, s, ps⟩)]) c1 hw hw' hi' rfl rfl ?_
    repeat refine same ?_
    refine callR_2 (E := [.row (xaC ⟨3, e, a, s, ps⟩)]) c2 rfl rfl ?_
    refine fork (fun _ => ?_) (fun h => ?_)
    rotate_left
    · exact absurd (beq_iff_eq.2 rfl) (by rw [h]; decide)
    repeat refine same ?_
    exact endH rfl rfl rfl ⟨.inl rfl, .inl rfl, .inl rfl, .inl rfl, .inl rfl, .inl rfl, .inl rfl, .inl rfl, .inl rfl, True.intro⟩ (Nat.le_refl 9) (both_below _ _ _ _ _ _ _ (Nat.le_refl 7)) rfl
  by_cases h4 : k = 4
  · subst h4
    have hi' := start_is hi
    have c1 := startW w hi.ok (by rw [hi.n]; omega)
    have c2 := refStartW hi
    unfold refH at c2
    obtain ⟨o', x0, x1, y0, y1, hw'⟩ := tell_2 hi'
    show ACalls _ _ _ (w.H ++ _) (RetH _ (w.start.2.H ++ rEw 7 w.start.2 2 sec))
    rw [show w.H = (Wd.mk o sec [d0, d1] [m0, m1]).H from congrArg Wd.H hw, show w.start.2.H = (Wd.mk o' sec [x0, x1] [y0, y1]).H from congrArg Wd.H hw']
    generalize w.start.1 = r at c1 c2
    refine acalls_of_awp hT mixed Try.func17 rfl (by kernel_rfl) (by kernel_rfl) (Nat.le_of_ble_eq_true rfl) ?_
    refine callU_2 (E := rEw 7 w 2 sec ++ [.row (xaC ⟨4, e, a, s, ps⟩)]) c1 hw hw' hi' rfl rfl ?_
    repeat refine same ?_
    refine callR_2 (E := [.row (xaC ⟨4, e, a, s, ps⟩)]) c2 rfl rfl ?_
    refine fork (fun _ => ?_) (fun h => ?_)
    rotate_left
    · exact absurd (beq_iff_eq.2 rfl) (by rw [h]; decide)
    repeat refine same ?_
    exact endH rfl rfl rfl ⟨.inl rfl, .inl rfl, .inl rfl, .inl rfl, .inl rfl, .inl rfl, .inl rfl, .inl rfl, .inl rfl, True.intro⟩ (Nat.le_refl 9) (both_below _ _ _ _ _ _ _ (Nat.le_refl 7)) rfl
  by_cases h5 : k = 5
  · subst h5
    have hi' := lay_is hi e a s
    have c1 := layW w hi.ok e a s
    have c2 := refLayW (e := e) (k := a) (s := s) hi (by omega) hs
    unfold refH at c2
    obtain ⟨o', x0, x1, y0, y1, hw'⟩ := tell_2 hi'
    show ACalls _ _ _ (w.H ++ _) (RetH _ ((w.lay e a s).2.H ++ rEw 7 (w.lay e a s).2 2 sec))
    rw [show w.H = (Wd.mk o sec [d0, d1] [m0, m1]).H from congrArg Wd.H hw, show (w.lay e a s).2.H = (Wd.mk o' sec [x0, x1] [y0, y1]).H from congrArg Wd.H hw']
    generalize (w.lay e a s).1 = r at c1 c2
    refine acalls_of_awp hT mixed Try.func17 rfl (by kernel_rfl) (by kernel_rfl) (Nat.le_of_ble_eq_true rfl) ?_
    refine ⟨dlZg1a, dlZg1b, dlZg1c, dlZg1d, dlZg1e, Ob.intro (by kernel_rfl) ?_⟩
    repeat refine same ?_
    refine callU_2 (E := rEw 7 w 2 sec ++ [.row (xaC ⟨5, e, a, s, ps⟩)]) c1 hw hw' hi' rfl rfl ?_
    repeat refine same ?_
    refine callR_2 (E := [.row (xaC ⟨5, e, a, s, ps⟩)]) c2 rfl rfl ?_
    refine fork (fun _ => ?_) (fun h => ?_)
    rotate_left
    · exact absurd (beq_iff_eq.2 rfl) (by rw [h]; decide)
    repeat refine same ?_
    exact endH rfl rfl rfl ⟨.inl rfl, .inl rfl, .inl rfl, .inl rfl, .inl rfl, .inl rfl, .inl rfl, .inl rfl, .inl rfl, True.intro⟩ (Nat.le_refl 9) (both_below _ _ _ _ _ _ _ (Nat.le_refl 7)) rfl
  have hpl : w.play ⟨k, e, a, s, ps⟩ = w := by
    unfold Wd.play
    rw [if_neg h1, if_neg h2, if_neg h3, if_neg h4, if_neg h5]
  rw [hpl, show w.H = (Wd.mk o sec [d0, d1] [m0, m1]).H from congrArg Wd.H hw]
  refine acalls_of_awp hT mixed Try.func17 rfl (by kernel_rfl) (by kernel_rfl) (Nat.le_of_ble_eq_true rfl) ?_
  refine forkD (fun h => absurd h h1) (fun _ => ?_)
  refine forkD (fun h => absurd h h2) (fun _ => ?_)
  refine forkD (fun h => absurd h h3) (fun _ => ?_)
  refine forkD (fun h => absurd h h4) (fun _ => ?_)
  refine forkD (fun h => absurd h h5) (fun _ => ?_)
  exact endH rfl rfl rfl ⟨.inl rfl, .inl rfl, .inl rfl, .inl rfl, .inl rfl, .inl rfl, .inl rfl, .inl rfl, .inl rfl, True.intro⟩ (Nat.le_refl 9) (both_below _ _ _ _ _ _ _ (Nat.le_refl 7)) rfl
theorem does_3 {sec : Nat} (w : Wd) (hi : w.is 3 sec) (hs : sec ≤ 1000) (x : Xa) (hp : x.ps.length ≤ 100) : ACalls Try.prog 17 [.ptr 0 0, .ptr 10 0, .agg (xaC x)] (w.H ++ rEw 9 w 3 sec) (RetH (bo true) ((w.play x).H ++ rEw 9 (w.play x) 3 sec)) := by
  obtain ⟨k, e, a, s, ps⟩ := x
  obtain ⟨o, d0, d1, d2, m0, m1, m2, hw⟩ := tell_3 hi
  dsimp only at hp
  by_cases h1 : k = 1
  · subst h1
    have hi' := write_is hi e a s
    have c1 := writeW w hi.ok e a s
    have c2 := refWriteW (e := e) (k := a) (s := s) hi (by omega) hs
    unfold refH at c2
    obtain ⟨o', x0, x1, x2, y0, y1, y2, hw'⟩ := tell_3 hi'
    show ACalls _ _ _ (w.H ++ _) (RetH _ ((w.write e a s).2.H ++ rEw 9 (w.write e a s).2 3 sec))
    rw [show w.H = (Wd.mk o sec [d0, d1, d2] [m0, m1, m2]).H from congrArg Wd.H hw, show (w.write e a s).2.H = (Wd.mk o' sec [x0, x1, x2] [y0, y1, y2]).H from congrArg Wd.H hw']
    generalize (w.write e a s).1 = r at c1 c2
    refine acalls_of_awp hT mixed Try.func17 rfl (by kernel_rfl) (by kernel_rfl) (Nat.le_of_ble_eq_true rfl) ?_
    refine ⟨dlZg2a, dlZg2b, dlZg2c, dlZg2d, dlZg2e, Ob.intro (by kernel_rfl) ?_⟩
    repeat refine same ?_
    refine callU_3 (E := rEw 9 w 3 sec ++ [.row (xaC ⟨1, e, a, s, ps⟩)]) c1 hw hw' hi' rfl rfl ?_
    repeat refine same ?_
    refine callR_3 (E := [.row (xaC ⟨1, e, a, s, ps⟩)]) c2 rfl rfl ?_
    refine fork (fun _ => ?_) (fun h => ?_)
    rotate_left
    · exact absurd (beq_iff_eq.2 rfl) (by rw [h]; decide)
    repeat refine same ?_
    exact endH rfl rfl rfl ⟨.inl rfl, .inl rfl, .inl rfl, .inl rfl, .inl rfl, .inl rfl, .inl rfl, .inl rfl, .inl rfl, .inl rfl, .inl rfl, True.intro⟩ (Nat.le_refl 11) (both_below _ _ _ _ _ _ _ (Nat.le_refl 9)) rfl
  by_cases h2 : k = 2
  · subst h2
    have hi' := flush_is hi e
    have c1 := flushW w hi.ok e
    have c2 := refFlushW (e := e) hi (by omega) hs
    unfold refH at c2
    obtain ⟨o', x0, x1, x2, y0, y1, y2, hw'⟩ := tell_3 hi'
    show ACalls _ _ _ (w.H ++ _) (RetH _ ((w.flush e).2.H ++ rEw 9 (w.flush e).2 3 sec))
    rw [show w.H = (Wd.mk o sec [d0, d1, d2] [m0, m1, m2]).H from congrArg Wd.H hw, show (w.flush e).2.H = (Wd.mk o' sec [x0, x1, x2] [y0, y1, y2]).H from congrArg Wd.H hw']
    generalize (w.flush e).1 = r at c1 c2
    refine acalls_of_awp hT mixed Try.func17 rfl (by kernel_rfl) (by kernel_rfl) (Nat.le_of_ble_eq_true rfl) ?_
    refine ⟨dlZg3a, dlZg3b, dlZg3c, dlZg3d, dlZg3e, Ob.intro (by kernel_rfl) ?_⟩
    repeat refine same ?_
    refine callU_3 (E := rEw 9 w 3 sec ++ [.row (xaC ⟨2, e, a, s, ps⟩)]) c1 hw hw' hi' rfl rfl ?_
    repeat refine same ?_
    refine callR_3 (E := [.row (xaC ⟨2, e, a, s, ps⟩)]) c2 rfl rfl ?_
    refine fork (fun _ => ?_) (fun h => ?_)
    rotate_left
    · exact absurd (beq_iff_eq.2 rfl) (by rw [h]; decide)
    repeat refine same ?_
    exact endH rfl rfl rfl ⟨.inl rfl, .inl rfl, .inl rfl, .inl rfl, .inl rfl, .inl rfl, .inl rfl, .inl rfl, .inl rfl, .inl rfl, .inl rfl, True.intro⟩ (Nat.le_refl 11) (both_below _ _ _ _ _ _ _ (Nat.le_refl 9)) rfl
  by_cases h3 : k = 3
  · subst h3
    rw [show w.play ⟨3, e, a, s, ps⟩ = (w.crash ps).2 from if_pos hp]
    have hi' := crash_is hi ps
    have c1 := crashW w hi.ok (by rw [hi.n]; omega) ps (by omega)
    have c2 := refCrashW hi (by omega) hs ps (by omega)
    unfold refH at c2
    obtain ⟨o', x0, x1, x2, y0, y1, y2, hw'⟩ := tell_3 hi'
    show ACalls _ _ _ (w.H ++ _) (RetH _ ((w.crash ps).2.H ++ rEw 9 (w.crash ps).2 3 sec))
    rw [show w.H = (Wd.mk o sec [d0, d1, d2] [m0, m1, m2]).H from congrArg Wd.H hw, show (w.crash ps).2.H = (Wd.mk o' sec [x0, x1, x2] [y0, y1, y2]).H from congrArg Wd.H hw']
    generalize (w.crash ps).1 = r at c1 c2
    refine acalls_of_awp hT mixed Try.func17 rfl (by kernel_rfl) (by kernel_rfl) (Nat.le_of_ble_eq_true rfl) ?_
    refine ⟨dlZg4a, dlZg4b, dlZg4c, dlZg4d, dlZg4e, Ob.intro (by kernel_rfl) ?_⟩
    repeat refine same ?_
    refine callU_3 (E := rEw 9 w 3 sec ++ [.row (xaC ⟨3, e, a, s, ps⟩)]) c1 hw hw' hi' rfl rfl ?_
    repeat refine same ?_
    refine callR_3 (E := [.row (xaC ⟨3, e, a, s, ps⟩)]) c2 rfl rfl ?_
    refine fork (fun _ => ?_) (fun h => ?_)
    rotate_left
    · exact absurd (beq_iff_eq.2 rfl) (by rw [h]; decide)
    repeat refine same ?_
    exact endH rfl rfl rfl ⟨.inl rfl, .inl rfl, .inl rfl, .inl rfl, .inl rfl, .inl rfl, .inl rfl, .inl rfl, .inl rfl, .inl rfl, .inl rfl, True.intro⟩ (Nat.le_refl 11) (both_below _ _ _ _ _ _ _ (Nat.le_refl 9)) rfl
  by_cases h4 : k = 4
  · subst h4
    have hi' := start_is hi
    have c1 := startW w hi.ok (by rw [hi.n]; omega)
    have c2 := refStartW hi
    unfold refH at c2
    obtain ⟨o', x0, x1, x2, y0, y1, y2, hw'⟩ := tell_3 hi'
    show ACalls _ _ _ (w.H ++ _) (RetH _ (w.start.2.H ++ rEw 9 w.start.2 3 sec))
    rw [show w.H = (Wd.mk o sec [d0, d1, d2] [m0, m1, m2]).H from congrArg Wd.H hw, show w.start.2.H = (Wd.mk o' sec [x0, x1, x2] [y0, y1, y2]).H from congrArg Wd.H hw']
    generalize w.start.1 = r at c1 c2
    refine acalls_of_awp hT mixed Try.func17 rfl (by kernel_rfl) (by kernel_rfl) (Nat.le_of_ble_eq_true rfl) ?_
    refine callU_3 (E := rEw 9 w 3 sec ++ [.row (xaC ⟨4, e, a, s, ps⟩)]) c1 hw hw' hi' rfl rfl ?_
    repeat refine same ?_
    refine callR_3 (E := [.row (xaC ⟨4, e, a, s, ps⟩)]) c2 rfl rfl ?_
    refine fork (fun _ => ?_) (fun h => ?_)
    rotate_left
    · exact absurd (beq_iff_eq.2 rfl) (by rw [h]; decide)
    repeat refine same ?_
    exact endH rfl rfl rfl ⟨.inl rfl, .inl rfl, .inl rfl, .inl rfl, .inl rfl, .inl rfl, .inl rfl, .inl rfl, .inl rfl, .inl rfl, .inl rfl, True.intro⟩ (Nat.le_refl 11) (both_below _ _ _ _ _ _ _ (Nat.le_refl 9)) rfl
  by_cases h5 : k = 5
  · subst h5
    have hi' := lay_is hi e a s
    have c1 := layW w hi.ok e a s
    have c2 := refLayW (e := e) (k := a) (s := s) hi (by omega) hs
    unfold refH at c2
    obtain ⟨o', x0, x1, x2, y0, y1, y2, hw'⟩ := tell_3 hi'
    show ACalls _ _ _ (w.H ++ _) (RetH _ ((w.lay e a s).2.H ++ rEw 9 (w.lay e a s).2 3 sec))
    rw [show w.H = (Wd.mk o sec [d0, d1, d2] [m0, m1, m2]).H from congrArg Wd.H hw, show (w.lay e a s).2.H = (Wd.mk o' sec [x0, x1, x2] [y0, y1, y2]).H from congrArg Wd.H hw']
    generalize (w.lay e a s).1 = r at c1 c2
    refine acalls_of_awp hT mixed Try.func17 rfl (by kernel_rfl) (by kernel_rfl) (Nat.le_of_ble_eq_true rfl) ?_
    refine ⟨dlZg1a, dlZg1b, dlZg1c, dlZg1d, dlZg1e, Ob.intro (by kernel_rfl) ?_⟩
    repeat refine same ?_
    refine callU_3 (E := rEw 9 w 3 sec ++ [.row (xaC ⟨5, e, a, s, ps⟩)]) c1 hw hw' hi' rfl rfl ?_
    repeat refine same ?_
    refine callR_3 (E := [.row (xaC ⟨5, e, a, s, ps⟩)]) c2 rfl rfl ?_
    refine fork (fun _ => ?_) (fun h => ?_)
    rotate_left
    · exact absurd (beq_iff_eq.2 rfl) (by rw [h]; decide)
    repeat refine same ?_
    exact endH rfl rfl rfl ⟨.inl rfl, .inl rfl, .inl rfl, .inl rfl, .inl rfl, .inl rfl, .inl rfl, .inl rfl, .inl rfl, .inl rfl, .inl rfl, True.intro⟩ (Nat.le_refl 11) (both_below _ _ _ _ _ _ _ (Nat.le_refl 9)) rfl
  have hpl : w.play ⟨k, e, a, s, ps⟩ = w := by
    unfold Wd.play
    rw [if_neg h1, if_neg h2, if_neg h3, if_neg h4, if_neg h5]
  rw [hpl, show w.H = (Wd.mk o sec [d0, d1, d2] [m0, m1, m2]).H from congrArg Wd.H hw]
  refine acalls_of_awp hT mixed Try.func17 rfl (by kernel_rfl) (by kernel_rfl) (Nat.le_of_ble_eq_true rfl) ?_
  refine forkD (fun h => absurd h h1) (fun _ => ?_)
  refine forkD (fun h => absurd h h2) (fun _ => ?_)
  refine forkD (fun h => absurd h h3) (fun _ => ?_)
  refine forkD (fun h => absurd h h4) (fun _ => ?_)
  refine forkD (fun h => absurd h h5) (fun _ => ?_)
  exact endH rfl rfl rfl ⟨.inl rfl, .inl rfl, .inl rfl, .inl rfl, .inl rfl, .inl rfl, .inl rfl, .inl rfl, .inl rfl, .inl rfl, .inl rfl, True.intro⟩ (Nat.le_refl 11) (both_below _ _ _ _ _ _ _ (Nat.le_refl 9)) rfl
set_option maxHeartbeats 4000000 in
theorem does_4 {sec : Nat} (w : Wd) (hi : w.is 4 sec) (hs : sec ≤ 1000) (x : Xa) (hp : x.ps.length ≤ 100) : ACalls Try.prog 17 [.ptr 0 0, .ptr 12 0, .agg (xaC x)] (w.H ++ rEw 11 w 4 sec) (RetH (bo true) ((w.play x).H ++ rEw 11 (w.play x) 4 sec)) := by
  obtain ⟨k, e, a, s, ps⟩ := x
  obtain ⟨o, d0, d1, d2, d3, m0, m1, m2, m3, hw⟩ := tell_4 hi
  dsimp only at hp
  by_cases h1 : k = 1
  · subst h1
    have hi' := write_is hi e a s
    have c1 := writeW w hi.ok e a s
    have c2 := refWriteW (e := e) (k := a) (s := s) hi (by omega) hs
    unfold refH at c2
    obtain ⟨o', x0, x1, x2, x3, y0, y1, y2, y3, hw'⟩ := tell_4 hi'
    show ACalls _ _ _ (w.H ++ _) (RetH _ ((w.write e a s).2.H ++ rEw 11 (w.write e a s).2 4 sec))
    rw [show w.H = (Wd.mk o sec [d0, d1, d2, d3] [m0, m1, m2, m3]).H from congrArg Wd.H hw, show (w.write e a s).2.H = (Wd.mk o' sec [x0, x1, x2, x3] [y0, y1, y2, y3]).H from congrArg Wd.H hw']
    generalize (w.write e a s).1 = r at c1 c2
    refine acalls_of_awp hT mixed Try.func17 rfl (by kernel_rfl) (by kernel_rfl) (Nat.le_of_ble_eq_true rfl) ?_
    refine ⟨dlZg2a, dlZg2b, dlZg2c, dlZg2d, dlZg2e, Ob.intro (by kernel_rfl) ?_⟩
    repeat refine same ?_
    refine callU_4 (E := rEw 11 w 4 sec ++ [.row (xaC ⟨1, e, a, s, ps⟩)]) c1 hw hw' hi' rfl rfl ?_
    repeat refine same ?_
    refine callR_4 (E := [.row (xaC ⟨1, e, a, s, ps⟩)]) c2 rfl rfl ?_
    refine fork (fun _ => ?_) (fun h => ?_)
    rotate_left
    · exact absurd (beq_iff_eq.2 rfl) (by rw [h]; decide)
    repeat refine same ?_
    exact endH rfl rfl rfl ⟨.inl rfl, .inl rfl, .inl rfl, .inl rfl, .inl rfl, .inl rfl, .inl rfl, .inl rfl, .inl rfl, .inl rfl, .inl rfl, .inl rfl, .inl rfl, True.intro⟩ (Nat.le_refl 13) (both_below _ _ _ _ _ _ _ (Nat.le_refl 11)) rfl
  by_cases h2 : k = 2
  · subst h2
    have hi' := flush_is hi e
    have c1 := flushW w hi.ok e
    have c2 := refFlushW (e := e) hi (by omega) hs
    unfold refH at c2
    obtain ⟨o', x0, x1, x2, x3, y0, y1, y2, y3, hw'⟩ := tell_4 hi'
    show ACalls _ _ _ (w.H ++ _) (RetH _ ((w.flush e).2.H ++ rEw 11 (w.flush e).2 4 sec))
    rw [show w.H = (Wd.mk o sec [d0, d1, d2, d3] [m0, m1, m2, m3]).H from congrArg Wd.H hw, show (w.flush e).2.H = (Wd.mk o' sec [x0, x1, x2, x3] [y0, y1, y2, y3]).H from congrArg Wd.H hw']
    generalize (w.flush e).1 = r at c1 c2
    refine acalls_of_awp hT mixed Try.func17 rfl (by kernel_rfl) (by kernel_rfl) (Nat.le_of_ble_eq_true rfl) ?_
    refine ⟨dlZg3a, dlZg3b, dlZg3c, dlZg3d, dlZg3e, Ob.intro (by kernel_rfl) ?_⟩
    repeat refine same ?_
    refine callU_4 (E := rEw 11 w 4 sec ++ [.row (xaC ⟨2, e, a, s, ps⟩)]) c1 hw hw' hi' rfl rfl ?_
    repeat refine same ?_
    refine callR_4 (E := [.row (xaC ⟨2, e, a, s, ps⟩)]) c2 rfl rfl ?_
    refine fork (fun _ => ?_) (fun h => ?_)
    rotate_left
    · exact absurd (beq_iff_eq.2 rfl) (by rw [h]; decide)
    repeat refine same ?_
    exact endH rfl rfl rfl ⟨.inl rfl, .inl rfl, .inl rfl, .inl rfl, .inl rfl, .inl rfl, .inl rfl, .inl rfl, .inl rfl, .inl rfl, .inl rfl, .inl rfl, .inl rfl, True.intro⟩ (Nat.le_refl 13) (both_below _ _ _ _ _ _ _ (Nat.le_refl 11)) rfl
  by_cases h3 : k = 3
  · subst h3
    rw [show w.play ⟨3, e, a, s, ps⟩ = (w.crash ps).2 from if_pos hp]
    have hi' := crash_is hi ps
    have c1 := crashW w hi.ok (by rw [hi.n]; omega) ps (by omega)
    have c2 := refCrashW hi (by omega) hs ps (by omega)
    unfold refH at c2
    obtain ⟨o', x0, x1, x2, x3, y0, y1, y2, y3, hw'⟩ := tell_4 hi'
    show ACalls _ _ _ (w.H ++ _) (RetH _ ((w.crash ps).2.H ++ rEw 11 (w.crash ps).2 4 sec))
    rw [show w.H = (Wd.mk o sec [d0, d1, d2, d3] [m0, m1, m2, m3]).H from congrArg Wd.H hw, show (w.crash ps).2.H = (Wd.mk o' sec [x0, x1, x2, x3] [y0, y1, y2, y3]).H from congrArg Wd.H hw']
    generalize (w.crash ps).1 = r at c1 c2
    refine acalls_of_awp hT mixed Try.func17 rfl (by kernel_rfl) (by kernel_rfl) (Nat.le_of_ble_eq_true rfl) ?_
    refine ⟨dlZg4a, dlZg4b, dlZg4c, dlZg4d, dlZg4e, Ob.intro (by kernel_rfl) ?_⟩
    repeat refine same ?_
    refine callU_4 (E := rEw 11 w 4 sec ++ [.row (xaC ⟨3, e, a, s, ps⟩)]) c1 hw hw' hi' rfl rfl ?_
    repeat refine same ?_
    refine callR_4 (E := [.row (xaC ⟨3, e, a, s, ps⟩)]) c2 rfl rfl ?_
    refine fork (fun _ => ?_) (fun h => ?_)
    rotate_left
    · exact absurd (beq_iff_eq.2 rfl) (by rw [h]; decide)
    repeat refine same ?_
    exact endH rfl rfl rfl ⟨.inl rfl, .inl rfl, .inl rfl, .inl rfl, .inl rfl, .inl rfl, .inl rfl, .inl rfl, .inl rfl, .inl rfl, .inl rfl, .inl rfl, .inl rfl, True.intro⟩ (Nat.le_refl 13) (both_below _ _ _ _ _ _ _ (Nat.le_refl 11)) rfl
  by_cases h4 : k = 4
  · subst h4
    have hi' := start_is hi
    have c1 := startW w hi.ok (by rw [hi.n]; omega)
    have c2 := refStartW hi
    unfold refH at c2
    obtain ⟨o', x0, x1, x2, x3, y0, y1, y2, y3, hw'⟩ := tell_4 hi'
    show ACalls _ _ _ (w.H ++ _) (RetH _ (w.start.2.H ++ rEw 11 w.start.2 4 sec))
    rw [show w.H = (Wd.mk o sec [d0, d1, d2, d3] [m0, m1, m2, m3]).H from congrArg Wd.H hw, show w.start.2.H = (Wd.mk o' sec [x0, x1, x2, x3] [y0, y1, y2, y3]).H from congrArg Wd.H hw']
    generalize w.start.1 = r at c1 c2
    refine acalls_of_awp hT mixed Try.func17 rfl (by kernel_rfl) (by kernel_rfl) (Nat.le_of_ble_eq_true rfl) ?_
    refine callU_4 (E := rEw 11 w 4 sec ++ [.row (xaC ⟨4, e, a, s, ps⟩)]) c1 hw hw' hi' rfl rfl ?_
    repeat refine same ?_
    refine callR_4 (E := [.row (xaC ⟨4, e, a, s, ps⟩)]) c2 rfl rfl ?_
    refine fork (fun _ => ?_) (fun h => ?_)
    rotate_left
    · exact absurd (beq_iff_eq.2 rfl) (by rw [h]; decide)
    repeat refine same ?_
    exact endH rfl rfl rfl ⟨.inl rfl, .inl rfl, .inl rfl, .inl rfl, .inl rfl, .inl rfl, .inl rfl, .inl rfl, .inl rfl, .inl rfl, .inl rfl, .inl rfl, .inl rfl, True.intro⟩ (Nat.le_refl 13) (both_below _ _ _ _ _ _ _ (Nat.le_refl 11)) rfl
  by_cases h5 : k = 5
  · subst h5
    have hi' := lay_is hi e a s
    have c1 := layW w hi.ok e a s
    have c2 := refLayW (e := e) (k := a) (s := s) hi (by omega) hs
    unfold refH at c2
    obtain ⟨o', x0, x1, x2, x3, y0, y1, y2, y3, hw'⟩ := tell_4 hi'
    show ACalls _ _ _ (w.H ++ _) (RetH _ ((w.lay e a s).2.H ++ rEw 11 (w.lay e a s).2 4 sec))
    rw [show w.H = (Wd.mk o sec [d0, d1, d2, d3] [m0, m1, m2, m3]).H from congrArg Wd.H hw, show (w.lay e a s).2.H = (Wd.mk o' sec [x0, x1, x2, x3] [y0, y1, y2, y3]).H from congrArg Wd.H hw']
    generalize (w.lay e a s).1 = r at c1 c2
    refine acalls_of_awp hT mixed Try.func17 rfl (by kernel_rfl) (by kernel_rfl) (Nat.le_of_ble_eq_true rfl) ?_
    refine ⟨dlZg1a, dlZg1b, dlZg1c, dlZg1d, dlZg1e, Ob.intro (by kernel_rfl) ?_⟩
    repeat refine same ?_
    refine callU_4 (E := rEw 11 w 4 sec ++ [.row (xaC ⟨5, e, a, s, ps⟩)]) c1 hw hw' hi' rfl rfl ?_
    repeat refine same ?_
    refine callR_4 (E := [.row (xaC ⟨5, e, a, s, ps⟩)]) c2 rfl rfl ?_
    refine fork (fun _ => ?_) (fun h => ?_)
    rotate_left
    · exact absurd (beq_iff_eq.2 rfl) (by rw [h]; decide)
    repeat refine same ?_
    exact endH rfl rfl rfl ⟨.inl rfl, .inl rfl, .inl rfl, .inl rfl, .inl rfl, .inl rfl, .inl rfl, .inl rfl, .inl rfl, .inl rfl, .inl rfl, .inl rfl, .inl rfl, True.intro⟩ (Nat.le_refl 13) (both_below _ _ _ _ _ _ _ (Nat.le_refl 11)) rfl
  have hpl : w.play ⟨k, e, a, s, ps⟩ = w := by
    unfold Wd.play
    rw [if_neg h1, if_neg h2, if_neg h3, if_neg h4, if_neg h5]
  rw [hpl, show w.H = (Wd.mk o sec [d0, d1, d2, d3] [m0, m1, m2, m3]).H from congrArg Wd.H hw]
  refine acalls_of_awp hT mixed Try.func17 rfl (by kernel_rfl) (by kernel_rfl) (Nat.le_of_ble_eq_true rfl) ?_
  refine forkD (fun h => absurd h h1) (fun _ => ?_)
  refine forkD (fun h => absurd h h2) (fun _ => ?_)
  refine forkD (fun h => absurd h h3) (fun _ => ?_)
  refine forkD (fun h => absurd h h4) (fun _ => ?_)
  refine forkD (fun h => absurd h h5) (fun _ => ?_)
  exact endH rfl rfl rfl ⟨.inl rfl, .inl rfl, .inl rfl, .inl rfl, .inl rfl, .inl rfl, .inl rfl, .inl rfl, .inl rfl, .inl rfl, .inl rfl, .inl rfl, .inl rfl, True.intro⟩ (Nat.le_refl 13) (both_below _ _ _ _ _ _ _ (Nat.le_refl 11)) rfl
set_option maxHeartbeats 4000000 in
theorem does_5 {sec : Nat} (w : Wd) (hi : w.is 5 sec) (hs : sec ≤ 1000) (x : Xa) (hp : x.ps.length ≤ 100) : ACalls Try.prog 17 [.ptr 0 0, .ptr 14 0, .agg (xaC x)] (w.H ++ rEw 13 w 5 sec) (RetH (bo true) ((w.play x).H ++ rEw 13 (w.play x) 5 sec)) := by
  obtain ⟨k, e, a, s, ps⟩ := x
  obtain ⟨o, d0, d1, d2, d3, d4, m0, m1, m2, m3, m4, hw⟩ := tell_5 hi
  dsimp only at hp
  by_cases h1 : k = 1
  · subst h1
    have hi' := write_is hi e a s
    have c1 := writeW w hi.ok e a s
    have c2 := refWriteW (e := e) (k := a) (s := s) hi (by omega) hs
    unfold refH at c2
    obtain ⟨o', x0, x1, x2, x3, x4, y0, y1, y2, y3, y4, hw'⟩ := tell_5 hi'
    show ACalls _ _ _ (w.H ++ _) (RetH _ ((w.write e a s).2.H ++ rEw 13 (w.write e a s).2 5 sec))
    rw [show w.H = (Wd.mk o sec [d0, d1, d2, d3, d4] [m0, m1, m2, m3, m4]).H from congrArg Wd.H hw, show (w.write e a s).2.H = (Wd.mk o' sec [x0, x1, x2, x3, x4] [y0, y1, y2, y3, y4]).H from congrArg Wd.H hw']
    generalize (w.write e a s).1 = r at c1 c2
    refine acalls_of_awp hT mixed Try.func17 rfl (by kernel_rfl) (by kernel_rfl) (Nat.le_of_ble_eq_true rfl) ?_
    refine ⟨dlZg2a, dlZg2b, dlZg2c, dlZg2d, dlZg2e, Ob.intro (by kernel_rfl) ?_⟩
    repeat refine same ?_
    refine callU_5 (E := rEw 13 w 5 sec ++ [.row (xaC ⟨1, e, a, s, ps⟩)]) c1 hw hw' hi' rfl rfl ?_
    repeat refine same ?_
    refine callR_5 (E := [.row (xaC ⟨1, e, a, s, ps⟩)]) c2 rfl rfl ?_
    refine fork (fun _ => ?_) (fun h => ?_)
    rotate_left
    · exact absurd (beq_iff_eq.2 rfl) (by rw [h]; decide)
    repeat refine same ?_
    exact endH rfl rfl rfl ⟨.inl rfl, .inl rfl, .inl rfl, .inl rfl, .inl rfl, .inl rfl, .inl rfl, .inl rfl, .inl rfl, .inl rfl, .inl rfl, .inl rfl, .inl rfl, .inl rfl, .inl rfl, True.intro⟩ (Nat.le_refl 15) (both_below _ _ _ _ _ _ _ (Nat.le_refl 13)) rfl
  by_cases h2 : k = 2
  · subst h2
    have hi' := flush_is hi e
    have c1 := flushW w hi.ok e
    have c2 := refFlushW (e := e) hi (by omega) hs
    unfold refH at c2
    obtain ⟨o', x0, x1, x2, x3, x4, y0, y1, y2, y3, y4, hw'⟩ := tell_5 hi'
    show ACalls _ _ _ (w.H ++ _) (RetH _ ((w.flush e).2.H ++ rEw 13 (w.flush e).2 5 sec))
    rw [show w.H = (Wd.mk o sec [d0, d1, d2, d3, d4] [m0, m1, m2, m3, m4]).H from congrArg Wd.H hw, show (w.flush e).2.H = (Wd.mk o' sec [x0, x1, x2, x3, x4] [y0, y1, y2, y3, y4]).H from congrArg Wd.H hw']
    generalize (w.flush e).1 = r at c1 c2
    refine acalls_of_awp hT mixed Try.func17 rfl (by kernel_rfl) (by kernel_rfl) (Nat.le_of_ble_eq_true rfl) ?_
    refine ⟨dlZg3a, dlZg3b, dlZg3c, dlZg3d, dlZg3e, Ob.intro (by kernel_rfl) ?_⟩
    repeat refine same ?_
    refine callU_5 (E := rEw 13 w 5 sec ++ [.row (xaC ⟨2, e, a, s, ps⟩)]) c1 hw hw' hi' rfl rfl ?_
    repeat refine same ?_
    refine callR_5 (E := [.row (xaC ⟨2, e, a, s, ps⟩)]) c2 rfl rfl ?_
    refine fork (fun _ => ?_) (fun h => ?_)
    rotate_left
    · exact absurd (beq_iff_eq.2 rfl) (by rw [h]; decide)
    repeat refine same ?_
    exact endH rfl rfl rfl ⟨.inl rfl, .inl rfl, .inl rfl, .inl rfl, .inl rfl, .inl rfl, .inl rfl, .inl rfl, .inl rfl, .inl rfl, .inl rfl, .inl rfl, .inl rfl, .inl rfl, .inl rfl, True.intro⟩ (Nat.le_refl 15) (both_below _ _ _ _ _ _ _ (Nat.le_refl 13)) rfl
  by_cases h3 : k = 3
  · subst h3
    rw [show w.play ⟨3, e, a, s, ps⟩ = (w.crash ps).2 from if_pos hp]
    have hi' := crash_is hi ps
    have c1 := crashW w hi.ok (by rw [hi.n]; omega) ps (by omega)
    have c2 := refCrashW hi (by omega) hs ps (by omega)
    unfold refH at c2
    obtain ⟨o', x0, x1, x2, x3, x4, y0, y1, y2, y3, y4, hw'⟩ := tell_5 hi'
    show ACalls _ _ _ (w.H ++ _) (RetH _ ((w.crash ps).2.H ++ rEw 13 (w.crash ps).2 5 sec))
    rw [show w.H = (Wd.mk o sec [d0, d1, d2, d3, d4] [m0, m1, m2, m3, m4]).H from congrArg Wd.H hw, show (w.crash ps).2.H = (Wd.mk o' sec [x0, x1, x2, x3, x4] [y0, y1, y2, y3, y4]).H from congrArg Wd.H hw']
    generalize (w.crash ps).1 = r at c1 c2
    refine acalls_of_awp hT mixed Try.func17 rfl (by kernel_rfl) (by kernel_rfl) (Nat.le_of_ble_eq_true rfl) ?_
    refine ⟨dlZg4a, dlZg4b, dlZg4c, dlZg4d, dlZg4e, Ob.intro (by kernel_rfl) ?_⟩
    repeat refine same ?_
    refine callU_5 (E := rEw 13 w 5 sec ++ [.row (xaC ⟨3, e, a, s, ps⟩)]) c1 hw hw' hi' rfl rfl ?_
    repeat refine same ?_
    refine callR_5 (E := [.row (xaC ⟨3, e, a, s, ps⟩)]) c2 rfl rfl ?_
    refine fork (fun _ => ?_) (fun h => ?_)
    rotate_left
    · exact absurd (beq_iff_eq.2 rfl) (by rw [h]; decide)
    repeat refine same ?_
    exact endH rfl rfl rfl ⟨.inl rfl, .inl rfl, .inl rfl, .inl rfl, .inl rfl, .inl rfl, .inl rfl, .inl rfl, .inl rfl, .inl rfl, .inl rfl, .inl rfl, .inl rfl, .inl rfl, .inl rfl, True.intro⟩ (Nat.le_refl 15) (both_below _ _ _ _ _ _ _ (Nat.le_refl 13)) rfl
  by_cases h4 : k = 4
  · subst h4
    have hi' := start_is hi
    have c1 := startW w hi.ok (by rw [hi.n]; omega)
    have c2 := refStartW hi
    unfold refH at c2
    obtain ⟨o', x0, x1, x2, x3, x4, y0, y1, y2, y3, y4, hw'⟩ := tell_5 hi'
    show ACalls _ _ _ (w.H ++ _) (RetH _ (w.start.2.H ++ rEw 13 w.start.2 5 sec))
    rw [show w.H = (Wd.mk o sec [d0, d1, d2, d3, d4] [m0, m1, m2, m3, m4]).H from congrArg Wd.H hw, show w.start.2.H = (Wd.mk o' sec [x0, x1, x2, x3, x4] [y0, y1, y2, y3, y4]).H from congrArg Wd.H hw']
    generalize w.start.1 = r at c1 c2
    refine acalls_of_awp hT mixed Try.func17 rfl (by kernel_rfl) (by kernel_rfl) (Nat.le_of_ble_eq_true rfl) ?_
    refine callU_5 (E := rEw 13 w 5 sec ++ [.row (xaC ⟨4, e, a, s, ps⟩)]) c1 hw hw' hi' rfl rfl ?_
    repeat refine same ?_
    refine callR_5 (E := [.row (xaC ⟨4, e, a, s, ps⟩)]) c2 rfl rfl ?_
    refine fork (fun _ => ?_) (fun h => ?_)
    rotate_left
    · exact absurd (beq_iff_eq.2 rfl) (by rw [h]; decide)
    repeat refine same ?_
    exact endH rfl rfl rfl ⟨.inl rfl, .inl rfl, .inl rfl, .inl rfl, .inl rfl, .inl rfl, .inl rfl, .inl rfl, .inl rfl, .inl rfl, .inl rfl, .inl rfl, .inl rfl, .inl rfl, .inl rfl, True.intro⟩ (Nat.le_refl 15) (both_below _ _ _ _ _ _ _ (Nat.le_refl 13)) rfl
  by_cases h5 : k = 5
  · subst h5
    have hi' := lay_is hi e a s
    have c1 := layW w hi.ok e a s
    have c2 := refLayW (e := e) (k := a) (s := s) hi (by omega) hs
    unfold refH at c2
    obtain ⟨o', x0, x1, x2, x3, x4, y0, y1, y2, y3, y4, hw'⟩ := tell_5 hi'
    show ACalls _ _ _ (w.H ++ _) (RetH _ ((w.lay e a s).2.H ++ rEw 13 (w.lay e a s).2 5 sec))
    rw [show w.H = (Wd.mk o sec [d0, d1, d2, d3, d4] [m0, m1, m2, m3, m4]).H from congrArg Wd.H hw, show (w.lay e a s).2.H = (Wd.mk o' sec [x0, x1, x2, x3, x4] [y0, y1, y2, y3, y4]).H from congrArg Wd.H hw']
    generalize (w.lay e a s).1 = r at c1 c2
    refine acalls_of_awp hT mixed Try.func17 rfl (by kernel_rfl) (by kernel_rfl) (Nat.le_of_ble_eq_true rfl) ?_
    refine ⟨dlZg1a, dlZg1b, dlZg1c, dlZg1d, dlZg1e, Ob.intro (by kernel_rfl) ?_⟩
    repeat refine same ?_
    refine callU_5 (E := rEw 13 w 5 sec ++ [.row (xaC ⟨5, e, a, s, ps⟩)]) c1 hw hw' hi' rfl rfl ?_
    repeat refine same ?_
    refine callR_5 (E := [.row (xaC ⟨5, e, a, s, ps⟩)]) c2 rfl rfl ?_
    refine fork (fun _ => ?_) (fun h => ?_)
    rotate_left
    · exact absurd (beq_iff_eq.2 rfl) (by rw [h]; decide)
    repeat refine same ?_
    exact endH rfl rfl rfl ⟨.inl rfl, .inl rfl, .inl rfl, .inl rfl, .inl rfl, .inl rfl, .inl rfl, .inl rfl, .inl rfl, .inl rfl, .inl rfl, .inl rfl, .inl rfl, .inl rfl, .inl rfl, True.intro⟩ (Nat.le_refl 15) (both_below _ _ _ _ _ _ _ (Nat.le_refl 13)) rfl
  have hpl : w.play ⟨k, e, a, s, ps⟩ = w := by
    unfold Wd.play
    rw [if_neg h1, if_neg h2, if_neg h3, if_neg h4, if_neg h5]
  rw [hpl, show w.H = (Wd.mk o sec [d0, d1, d2, d3, d4] [m0, m1, m2, m3, m4]).H from congrArg Wd.H hw]
  refine acalls_of_awp hT mixed Try.func17 rfl (by kernel_rfl) (by kernel_rfl) (Nat.le_of_ble_eq_true rfl) ?_
  refine forkD (fun h => absurd h h1) (fun _ => ?_)
  refine forkD (fun h => absurd h h2) (fun _ => ?_)
  refine forkD (fun h => absurd h h3) (fun _ => ?_)
  refine forkD (fun h => absurd h h4) (fun _ => ?_)
  refine forkD (fun h => absurd h h5) (fun _ => ?_)
  exact endH rfl rfl rfl ⟨.inl rfl, .inl rfl, .inl rfl, .inl rfl, .inl rfl, .inl rfl, .inl rfl, .inl rfl, .inl rfl, .inl rfl, .inl rfl, .inl rfl, .inl rfl, .inl rfl, .inl rfl, True.intro⟩ (Nat.le_refl 15) (both_below _ _ _ _ _ _ _ (Nat.le_refl 13)) rfl
set_option maxHeartbeats 4000000 in
theorem does_6 {sec : Nat} (w : Wd) (hi : w.is 6 sec) (hs : sec ≤ 1000) (x : Xa) (hp : x.ps.length ≤ 100) : ACalls Try.prog 17 [.ptr 0 0, .ptr 16 0, .agg (xaC x)] (w.H ++ rEw 15 w 6 sec) (RetH (bo true) ((w.play x).H ++ rEw 15 (w.play x) 6 sec)) := by
  obtain ⟨k, e, a, s, ps⟩ := x
  obtain ⟨o, d0, d1, d2, d3, d4, d5, m0, m1, m2, m3, m4, m5, hw⟩ := tell_6 hi
  dsimp only at hp
  by_cases h1 : k = 1
  · subst h1
    have hi' := write_is hi e a s
    have c1 := writeW w hi.ok e a s
    have c2 := refWriteW (e := e) (k := a) (s := s) hi (by omega) hs
    unfold refH at c2
    obtain ⟨o', x0, x1, x2, x3, x4, x5, y0, y1, y2, y3, y4, y5, hw'⟩ := tell_6 hi'
    show ACalls _ _ _ (w.H ++ _) (RetH _ ((w.write e a s).2.H ++ rEw 15 (w.write e a s).2 6 sec))
    rw [show w.H = (Wd.mk o sec [d0, d1, d2, d3, d4, d5] [m0, m1, m2, m3, m4, m5]).H from congrArg Wd.H hw, show (w.write e a s).2.H = (Wd.mk o' sec [x0, x1, x2, x3, x4, x5] [y0, y1, y2, y3, y4, y5]).H from congrArg Wd.H hw']
    generalize (w.write e a s).1 = r at c1 c2
    refine acalls_of_awp hT mixed Try.func17 rfl (by kernel_rfl) (by kernel_rfl) (Nat.le_of_ble_eq_true rfl) ?_
    refine ⟨dlZg2a, dlZg2b, dlZg2c, dlZg2d, dlZg2e, Ob.intro (by kernel_rfl) ?_⟩
    repeat refine same ?_
    refine callU_6 (E := rEw 15 w 6 sec ++ [.row (xaC ⟨1, e, a, s, ps⟩)]) c1 hw hw' hi' rfl rfl ?_
    repeat refine same ?_
    refine callR_6 (E := [.row (xaC ⟨1, e, a, s, ps⟩)]) c2 rfl rfl ?_
    refine fork (fun _ => ?_) (fun h => ?_)
    rotate_left
    · exact absurd (beq_iff_eq.2 rfl) (by rw [h]; decide)
    repeat refine same ?_
    exact endH rfl rfl rfl ⟨.inl rfl, .inl rfl, .inl rfl, .inl rfl, .inl rfl, .inl rfl, .inl rfl, .inl rfl, .inl rfl, .inl rfl, .inl rfl, .inl rfl, .inl rfl, .inl rfl, .inl rfl, .inl rfl, .inl rfl, True.intro⟩ (Nat.le_refl 17) (both_below _ _ _ _ _ _ _ (Nat.le_refl 15)) rfl
  by_cases h2 : k = 2
  · subst h2
    have hi' := flush_is hi e
    have c1 := flushW w hi.ok e
    have c2 := refFlushW (e := e) hi (by omega) hs
    unfold refH at c2
    obtain ⟨o', x0, x1, x2, x3, x4, x5, y0, y1, y2, y3, y4, y5, hw'⟩ := tell_6 hi'
    show ACalls _ _ _ (w.H ++ _) (RetH _ ((w.flush e).2.H ++ rEw 15 (w.flush e).2 6 sec))
    rw [show w.H = (Wd.mk o sec [d0, d1, d2, d3, d4, d5] [m0, m1, m2, m3, m4, m5]).H from congrArg Wd.H hw, show (w.flush e).2.H = (Wd.mk o' sec [x0, x1, x2, x3, x4, x5] [y0, y1, y2, y3, y4, y5]).H from congrArg Wd.H hw']
    generalize (w.flush e).1 = r at c1 c2
    refine acalls_of_awp hT mixed Try.func17 rfl (by kernel_rfl) (by kernel_rfl) (Nat.le_of_ble_eq_true rfl) ?_
    refine ⟨dlZg3a, dlZg3b, dlZg3c, dlZg3d, dlZg3e, Ob.intro (by kernel_rfl) ?_⟩
    repeat refine same ?_
    refine callU_6 (E := rEw 15 w 6 sec ++ [.row (xaC ⟨2, e, a, s, ps⟩)]) c1 hw hw' hi' rfl rfl ?_
    repeat refine same ?_
    refine callR_6 (E := [.row (xaC ⟨2, e, a, s, ps⟩)]) c2 rfl rfl ?_
    refine fork (fun _ => ?_) (fun h => ?_)
    rotate_left
    · exact absurd (beq_iff_eq.2 rfl) (by rw [h]; decide)
    repeat refine same ?_
    exact endH rfl rfl rfl ⟨.inl rfl, .inl rfl, .inl rfl, .inl rfl, .inl rfl, .inl rfl, .inl rfl, .inl rfl, .inl rfl, .inl rfl, .inl rfl, .inl rfl, .inl rfl, .inl rfl, .inl rfl, .inl rfl, .inl rfl, True.intro⟩ (Nat.le_refl 17) (both_below _ _ _ _ _ _ _ (Nat.le_refl 15)) rfl
  by_cases h3 : k = 3
  · subst h3
    rw [show w.play ⟨3, e, a, s, ps⟩ = (w.crash ps).2 from if_pos hp]
    have hi' := crash_is hi ps
    have c1 := crashW w hi.ok (by rw [hi.n]; omega) ps (by omega)
    have c2 := refCrashW hi (by omega) hs ps (by omega)
    unfold refH at c2
    obtain ⟨o', x0, x1, x2, x3, x4, x5, y0, y1, y2, y3, y4, y5, hw'⟩ := tell_6 hi'
    show ACalls _ _ _ (w.H ++ _) (RetH _ ((w.crash ps).2.H ++ rEw 15 (w.crash ps).2 6 sec))
    rw [show w.H = (Wd.mk o sec [d0, d1, d2, d3, d4, d5] [m0, m1, m2, m3, m4, m5]).H from congrArg Wd.H hw, show (w.crash ps).2.H = (Wd.mk o' sec [x0, x1, x2, x3, x4, x5] [y0, y1, y2, y3, y4, y5]).H from congrArg Wd.H hw']
    generalize (w.crash ps).1 = r at c1 c2
    refine acalls_of_awp hT mixed Try.func17 rfl (by kernel_rfl) (by kernel_rfl) (Nat.le_of_ble_eq_true rfl) ?_
    refine ⟨dlZg4a, dlZg4b, dlZg4c, dlZg4d, dlZg4e, Ob.intro (by kernel_rfl) ?_⟩
    repeat refine same ?_
    refine callU_6 (E := rEw 15 w 6 sec ++ [.row (xaC ⟨3, e, a, s, ps⟩)]) c1 hw hw' hi' rfl rfl ?_
    repeat refine same ?_
    refine callR_6 (E := [.row (xaC ⟨3, e, a, s, ps⟩)]) c2 rfl rfl ?_
    refine fork (fun _ => ?_) (fun h => ?_)
    rotate_left
    · exact absurd (beq_iff_eq.2 rfl) (by rw [h]; decide)
    repeat refine same ?_
    exact endH rfl rfl rfl ⟨.inl rfl, .inl rfl, .inl rfl, .inl rfl, .inl rfl, .inl rfl, .inl rfl, .inl rfl, .inl rfl, .inl rfl, .inl rfl, .inl rfl, .inl rfl, .inl rfl, .inl rfl, .inl rfl, .inl rfl, True.intro⟩ (Nat.le_refl 17) (both_below _ _ _ _ _ _ _ (Nat.le_refl 15)) rfl
  by_cases h4 : k = 4
  · subst h4
    have hi' := start_is hi
    have c1 := startW w hi.ok (by rw [hi.n]; omega)
    have c2 := refStartW hi
    unfold refH at c2
    obtain ⟨o', x0, x1, x2, x3, x4, x5, y0, y1, y2, y3, y4, y5, hw'⟩ := tell_6 hi'
    show ACalls _ _ _ (w.H ++ _) (RetH _ (w.start.2.H ++ rEw 15 w.start.2 6 sec))
    rw [show w.H = (Wd.mk o sec [d0, d1, d2, d3, d4, d5] [m0, m1, m2, m3, m4, m5]).H from congrArg Wd.H hw, show w.start.2.H = (Wd.mk o' sec [x0, x1, x2, x3, x4, x5] [y0, y1, y2, y3, y4, y5]).H from congrArg Wd.H hw']
    generalize w.start.1 = r at c1 c2
    refine acalls_of_awp hT mixed Try.func17 rfl (by kernel_rfl) (by kernel_rfl) (Nat.le_of_ble_eq_true rfl) ?_
    refine callU_6 (E := rEw 15 w 6 sec ++ [.row (xaC ⟨4, e, a, s, ps⟩)]) c1 hw hw' hi' rfl rfl ?_
    repeat refine same ?_
    refine callR_6 (E := [.row (xaC ⟨4, e, a, s, ps⟩)]) c2 rfl rfl ?_
    refine fork (fun _ => ?_) (fun h => ?_)
    rotate_left
    · exact absurd (beq_iff_eq.2 rfl) (by rw [h]; decide)
    repeat refine same ?_
    exact endH rfl rfl rfl ⟨.inl rfl, .inl rfl, .inl rfl, .inl rfl, .inl rfl, .inl rfl, .inl rfl, .inl rfl, .inl rfl, .inl rfl, .inl rfl, .inl rfl, .inl rfl, .inl rfl, .inl rfl, .inl rfl, .inl rfl, True.intro⟩ (Nat.le_refl 17) (both_below _ _ _ _ _ _ _ (Nat.le_refl 15)) rfl
  by_cases h5 : k = 5
  · subst h5
    have hi' := lay_is hi e a s
    have c1 := layW w hi.ok e a s
    have c2 := refLayW (e := e) (k := a) (s := s) hi (by omega) hs
    unfold refH at c2
    obtain ⟨o', x0, x1, x2, x3, x4, x5, y0, y1, y2, y3, y4, y5, hw'⟩ := tell_6 hi'
    show ACalls _ _ _ (w.H ++ _) (RetH _ ((w.lay e a s).2.H ++ rEw 15 (w.lay e a s).2 6 sec))
    rw [show w.H = (Wd.mk o sec [d0, d1, d2, d3, d4, d5] [m0, m1, m2, m3, m4, m5]).H from congrArg Wd.H hw, show (w.lay e a s).2.H = (Wd.mk o' sec [x0, x1, x2, x3, x4, x5] [y0, y1, y2, y3, y4, y5]).H from congrArg Wd.H hw']
    generalize (w.lay e a s).1 = r at c1 c2
    refine acalls_of_awp hT mixed Try.func17 rfl (by kernel_rfl) (by kernel_rfl) (Nat.le_of_ble_eq_true rfl) ?_
    refine ⟨dlZg1a, dlZg1b, dlZg1c, dlZg1d, dlZg1e, Ob.intro (by kernel_rfl) ?_⟩
    repeat refine same ?_
    refine callU_6 (E := rEw 15 w 6 sec ++ [.row (xaC ⟨5, e, a, s, ps⟩)]) c1 hw hw' hi' rfl rfl ?_
    repeat refine same ?_
    refine callR_6 (E := [.row (xaC ⟨5, e, a, s, ps⟩)]) c2 rfl rfl ?_
    refine fork (fun _ => ?_) (fun h => ?_)
    rotate_left
    · exact absurd (beq_iff_eq.2 rfl) (by rw [h]; decide)
    repeat refine same ?_
    exact endH rfl rfl rfl ⟨.inl rfl, .inl rfl, .inl rfl, .inl rfl, .inl rfl, .inl rfl, .inl rfl, .inl rfl, .inl rfl, .inl rfl, .inl rfl, .inl rfl, .inl rfl, .inl rfl, .inl rfl, .inl rfl, .inl rfl, True.intro⟩ (Nat.le_refl 17) (both_below _ _ _ _ _ _ _ (Nat.le_refl 15)) rfl
  have hpl : w.play ⟨k, e, a, s, ps⟩ = w := by
    unfold Wd.play
    rw [if_neg h1, if_neg h2, if_neg h3, if_neg h4, if_neg h5]
  rw [hpl, show w.H = (Wd.mk o sec [d0, d1, d2, d3, d4, d5] [m0, m1, m2, m3, m4, m5]).H from congrArg Wd.H hw]
  refine acalls_of_awp hT mixed Try.func17 rfl (by kernel_rfl) (by kernel_rfl) (Nat.le_of_ble_eq_true rfl) ?_
  refine forkD (fun h => absurd h h1) (fun _ => ?_)
  refine forkD (fun h => absurd h h2) (fun _ => ?_)
  refine forkD (fun h => absurd h h3) (fun _ => ?_)
  refine forkD (fun h => absurd h h4) (fun _ => ?_)
  refine forkD (fun h => absurd h h5) (fun _ => ?_)
  exact endH rfl rfl rfl ⟨.inl rfl, .inl rfl, .inl rfl, .inl rfl, .inl rfl, .inl rfl, .inl rfl, .inl rfl, .inl rfl, .inl rfl, .inl rfl, .inl rfl, .inl rfl, .inl rfl, .inl rfl, .inl rfl, .inl rfl, True.intro⟩ (Nat.le_refl 17) (both_below _ _ _ _ _ _ _ (Nat.le_refl 15)) rfl
set_option maxHeartbeats 4000000 in
theorem does_7 {sec : Nat} (w : Wd) (hi : w.is 7 sec) (hs : sec ≤ 1000) (x : Xa) (hp : x.ps.length ≤ 100) : ACalls Try.prog 17 [.ptr 0 0, .ptr 18 0, .agg (xaC x)] (w.H ++ rEw 17 w 7 sec) (RetH (bo true) ((w.play x).H ++ rEw 17 (w.play x) 7 sec)) := by
  obtain ⟨k, e, a, s, ps⟩ := x
  obtain ⟨o, d0, d1, d2, d3, d4, d5, d6, m0, m1, m2, m3, m4, m5, m6, hw⟩ := tell_7 hi
  dsimp only at hp
  by_cases h1 : k = 1
  · subst h1
    have hi' := write_is hi e a s
    have c1 := writeW w hi.ok e a s
    have c2 := refWriteW (e := e) (k := a) (s := s) hi (by omega) hs
    unfold refH at c2
    obtain ⟨o', x0, x1, x2, x3, x4, x5, x6, y0, y1, y2, y3, y4, y5, y6, hw'⟩ := tell_7 hi'
    show ACalls _ _ _ (w.H ++ _) (RetH _ ((w.write e a s).2.H ++ rEw 17 (w.write e a s).2 7 sec))
    rw [show w.H = (Wd.mk o sec [d0, d1, d2, d3, d4, d5, d6] [m0, m1, m2, m3, m4, m5, m6]).H from congrArg Wd.H hw, show (w.write e a s).2.H = (Wd.mk o' sec [x0, x1, x2, x3, x4, x5, x6] [y0, y1, y2, y3, y4, y5, y6]).H from congrArg Wd.H hw']
    generalize (w.write e a s).1 = r at c1 c2
    refine acalls_of_awp hT mixed Try.func17 rfl (by kernel_rfl) (by kernel_rfl) (Nat.le_of_ble_eq_true rfl) ?_
    refine ⟨dlZg2a, dlZg2b, dlZg2c, dlZg2d, dlZg2e, Ob.intro (by kernel_rfl) ?_⟩
    repeat refine same ?_
    refine callU_7 (E := rEw 17 w 7 sec ++ [.row (xaC ⟨1, e, a, s, ps⟩)]) c1 hw hw' hi' rfl rfl ?_
    repeat refine same ?_
    refine callR_7 (E := [.row (xaC ⟨1, e, a, s, ps⟩)]) c2 rfl rfl ?_
    refine fork (fun _ => ?_) (fun h => ?_)
    rotate_left
    · exact absurd (beq_iff_eq.2 rfl) (by rw [h]; decide)
    repeat refine same ?_
    exact endH rfl rfl rfl ⟨.inl rfl, .inl rfl, .inl rfl, .inl rfl, .inl rfl, .inl rfl, .inl rfl, .inl rfl, .inl rfl, .inl rfl, .inl rfl, .inl rfl, .inl rfl, .inl rfl, .inl rfl, .inl rfl, .inl rfl, .inl rfl, .inl rfl, True.intro⟩ (Nat.le_refl 19) (both_below _ _ _ _ _ _ _ (Nat.le_refl 17)) rfl
  by_cases h2 : k = 2
  · subst h2
    have hi' := flush_is hi e
    have c1 := flushW w hi.ok e
    have c2 := refFlushW (e := e) hi (by omega) hs
    unfold refH at c2
    obtain ⟨o', x0, x1, x2, x3, x4, x5, x6, y0, y1, y2, y3, y4, y5, y6, hw'⟩ := tell_7 hi'
    show ACalls _ _ _ (w.H ++ _) (RetH _ ((w.flush e).2.H ++ rEw 17 (w.flush e).2 7 sec))
    rw [show w.H = (Wd.mk o sec [d0, d1, d2, d3, d4, d5, d6] [m0, m1, m2, m3, m4, m5, m6]).H from congrArg Wd.H hw, show (w.flush e).2.H = (Wd.mk o' sec [x0, x1, x2, x3, x4, x5, x6] [y0, y1, y2, y3, y4, y5, y6]).H from congrArg Wd.H hw']
    generalize (w.flush e).1 = r at c1 c2
    refine acalls_of_awp hT mixed Try.func17 rfl (by kernel_rfl) (by kernel_rfl) (Nat.le_of_ble_eq_true rfl) ?_
    refine ⟨dlZg3a, dlZg3b, dlZg3c, dlZg3d, dlZg3e, Ob.intro (by kernel_rfl) ?_⟩
    repeat refine same ?_
    refine callU_7 (E := rEw 17 w 7 sec ++ [.row (xaC ⟨2, e, a, s, ps⟩)]) c1 hw hw' hi' rfl rfl ?_
    repeat refine same ?_
    refine callR_7 (E := [.row (xaC ⟨2, e, a, s, ps⟩)]) c2 rfl rfl ?_
    refine fork (fun _ => ?_) (fun h => ?_)
    rotate_left
    · exact absurd (beq_iff_eq.2 rfl) (by rw [h]; decide)
    repeat refine same ?_
    exact endH rfl rfl rfl ⟨.inl rfl, .inl rfl, .inl rfl, .inl rfl, .inl rfl, .inl rfl, .inl rfl, .inl rfl, .inl rfl, .inl rfl, .inl rfl, .inl rfl, .inl rfl, .inl rfl, .inl rfl, .inl rfl, .inl rfl, .inl rfl, .inl rfl, True.intro⟩ (Nat.le_refl 19) (both_below _ _ _ _ _ _ _ (Nat.le_refl 17)) rfl
  by_cases h3 : k = 3
  · subst h3
    rw [show w.play ⟨3, e, a, s, ps⟩ = (w.crash ps).2 from if_pos hp]
    have hi' := crash_is hi ps
    have c1 := crashW w hi.ok (by rw [hi.n]; omega) ps (by omega)
    have c2 := refCrashW hi (by omega) hs ps (by omega)
    unfold refH at c2
    obtain ⟨o', x0, x1, x2, x3, x4, x5, x6, y0, y1, y2, y3, y4, y5, y6, hw'⟩ := tell_7 hi'
    show ACalls _ _ _ (w.H ++ _) (RetH _ ((w.crash ps).2.H ++ rEw 17 (w.crash ps).2 7 sec))
    rw [show w.H = (Wd.mk o sec [d0, d1, d2, d3, d4, d5, d6] [m0, m1, m2, m3, m4, m5, m6]).H from congrArg Wd.H hw, show (w.crash ps).2.H = (Wd.mk o' sec [x0, x1, x2, x3, x4, x5, x6] [y0, y1, y2, y3, y4, y5, y6]).H from congrArg Wd.H hw']
    generalize (w.crash ps).1 = r at c1 c2
    refine acalls_of_awp hT mixed Try.func17 rfl (by kernel_rfl) (by kernel_rfl) (Nat.le_of_ble_eq_true rfl) ?_
    refine ⟨dlZg4a, dlZg4b, dlZg4c, dlZg4d, dlZg4e, Ob.intro (by kernel_rfl) ?_⟩
    repeat refine same ?_
    refine callU_7 (E := rEw 17 w 7 sec ++ [.row (xaC ⟨3, e, a, s, ps⟩)]) c1 hw hw' hi' rfl rfl ?_
    repeat refine same ?_
    refine callR_7 (E := [.row (xaC ⟨3, e, a, s, ps⟩)]) c2 rfl rfl ?_
    refine fork (fun _ => ?_) (fun h => ?_)
    rotate_left
    · exact absurd (beq_iff_eq.2 rfl) (by rw [h]; decide)
    repeat refine same ?_
    exact endH rfl rfl rfl ⟨.inl rfl, .inl rfl, .inl rfl, .inl rfl, .inl rfl, .inl rfl, .inl rfl, .inl rfl, .inl rfl, .inl rfl, .inl rfl, .inl rfl, .inl rfl, .inl rfl, .inl rfl, .inl rfl, .inl rfl, .inl rfl, .inl rfl, True.intro⟩ (Nat.le_refl 19) (both_below _ _ _ _ _ _ _ (Nat.le_refl 17)) rfl
  by_cases h4 : k = 4
  · subst h4
    have hi' := start_is hi
    have c1 := startW w hi.ok (by rw [hi.n]; omega)
    have c2 := refStartW hi
    unfold refH at c2
    obtain ⟨o', x0, x1, x2, x3, x4, x5, x6, y0, y1, y2, y3, y4, y5, y6, hw'⟩ := tell_7 hi'
    show ACalls _ _ _ (w.H ++ _) (RetH _ (w.start.2.H ++ rEw 17 w.start.2 7 sec))
    rw [show w.H = (Wd.mk o sec [d0, d1, d2, d3, d4, d5, d6] [m0, m1, m2, m3, m4, m5, m6]).H from congrArg Wd.H hw, show w.start.2.H = (Wd.mk o' sec [x0, x1, x2, x3, x4, x5, x6] [y0, y1, y2, y3, y4, y5, y6]).H from congrArg Wd.H hw']
    generalize w.start.1 = r at c1 c2
    refine acalls_of_awp hT mixed Try.func17 rfl (by kernel_rfl) (by kernel_rfl) (Nat.le_of_ble_eq_true rfl) ?_
    refine callU_7 (E := rEw 17 w 7 sec ++ [.row (xaC ⟨4, e, a, s, ps⟩)]) c1 hw hw' hi' rfl rfl ?_
    repeat refine same ?_
    refine callR_7 (E := [.row (xaC ⟨4, e, a, s, ps⟩)]) c2 rfl rfl ?_
    refine fork (fun _ => ?_) (fun h => ?_)
    rotate_left
    · exact absurd (beq_iff_eq.2 rfl) (by rw [h]; decide)
    repeat refine same ?_
    exact endH rfl rfl rfl ⟨.inl rfl, .inl rfl, .inl rfl, .inl rfl, .inl rfl, .inl rfl, .inl rfl, .inl rfl, .inl rfl, .inl rfl, .inl rfl, .inl rfl, .inl rfl, .inl rfl, .inl rfl, .inl rfl, .inl rfl, .inl rfl, .inl rfl, True.intro⟩ (Nat.le_refl 19) (both_below _ _ _ _ _ _ _ (Nat.le_refl 17)) rfl
  by_cases h5 : k = 5
  · subst h5
    have hi' := lay_is hi e a s
    have c1 := layW w hi.ok e a s
    have c2 := refLayW (e := e) (k := a) (s := s) hi (by omega) hs
    unfold refH at c2
    obtain ⟨o', x0, x1, x2, x3, x4, x5, x6, y0, y1, y2, y3, y4, y5, y6, hw'⟩ := tell_7 hi'
    show ACalls _ _ _ (w.H ++ _) (RetH _ ((w.lay e a s).2.H ++ rEw 17 (w.lay e a s).2 7 sec))
    rw [show w.H = (Wd.mk o sec [d0, d1, d2, d3, d4, d5, d6] [m0, m1, m2, m3, m4, m5, m6]).H from congrArg Wd.H hw, show (w.lay e a s).2.H = (Wd.mk o' sec [x0, x1, x2, x3, x4, x5, x6] [y0, y1, y2, y3, y4, y5, y6]).H from congrArg Wd.H hw']
    generalize (w.lay e a s).1 = r at c1 c2
    refine acalls_of_awp hT mixed Try.func17 rfl (by kernel_rfl) (by kernel_rfl) (Nat.le_of_ble_eq_true rfl) ?_
    refine ⟨dlZg1a, dlZg1b, dlZg1c, dlZg1d, dlZg1e, Ob.intro (by kernel_rfl) ?_⟩
    repeat refine same ?_
    refine callU_7 (E := rEw 17 w 7 sec ++ [.row (xaC ⟨5, e, a, s, ps⟩)]) c1 hw hw' hi' rfl rfl ?_
    repeat refine same ?_
    refine callR_7 (E := [.row (xaC ⟨5, e, a, s, ps⟩)]) c2 rfl rfl ?_
    refine fork (fun _ => ?_) (fun h => ?_)
    rotate_left
    · exact absurd (beq_iff_eq.2 rfl) (by rw [h]; decide)
    repeat refine same ?_
    exact endH rfl rfl rfl ⟨.inl rfl, .inl rfl, .inl rfl, .inl rfl, .inl rfl, .inl rfl, .inl rfl, .inl rfl, .inl rfl, .inl rfl, .inl rfl, .inl rfl, .inl rfl, .inl rfl, .inl rfl, .inl rfl, .inl rfl, .inl rfl, .inl rfl, True.intro⟩ (Nat.le_refl 19) (both_below _ _ _ _ _ _ _ (Nat.le_refl 17)) rfl
  have hpl : w.play ⟨k, e, a, s, ps⟩ = w := by
    unfold Wd.play
    rw [if_neg h1, if_neg h2, if_neg h3, if_neg h4, if_neg h5]
  rw [hpl, show w.H = (Wd.mk o sec [d0, d1, d2, d3, d4, d5, d6] [m0, m1, m2, m3, m4, m5, m6]).H from congrArg Wd.H hw]
  refine acalls_of_awp hT mixed Try.func17 rfl (by kernel_rfl) (by kernel_rfl) (Nat.le_of_ble_eq_true rfl) ?_
  refine forkD (fun h => absurd h h1) (fun _ => ?_)
  refine forkD (fun h => absurd h h2) (fun _ => ?_)
  refine forkD (fun h => absurd h h3) (fun _ => ?_)
  refine forkD (fun h => absurd h h4) (fun _ => ?_)
  refine forkD (fun h => absurd h h5) (fun _ => ?_)
  exact endH rfl rfl rfl ⟨.inl rfl, .inl rfl, .inl rfl, .inl rfl, .inl rfl, .inl rfl, .inl rfl, .inl rfl, .inl rfl, .inl rfl, .inl rfl, .inl rfl, .inl rfl, .inl rfl, .inl rfl, .inl rfl, .inl rfl, .inl rfl, .inl rfl, True.intro⟩ (Nat.le_refl 19) (both_below _ _ _ _ _ _ _ (Nat.le_refl 17)) rfl
set_option maxHeartbeats 4000000 in
theorem does_8 {sec : Nat} (w : Wd) (hi : w.is 8 sec) (hs : sec ≤ 1000) (x : Xa) (hp : x.ps.length ≤ 100) : ACalls Try.prog 17 [.ptr 0 0, .ptr 20 0, .agg (xaC x)] (w.H ++ rEw 19 w 8 sec) (RetH (bo true) ((w.play x).H ++ rEw 19 (w.play x) 8 sec)) := by
  obtain ⟨k, e, a, s, ps⟩ := x
  obtain ⟨o, d0, d1, d2, d3, d4, d5, d6, d7, m0, m1, m2, m3, m4, m5, m6, m7, hw⟩ := tell_8 hi
  dsimp only at hp
  by_cases h1 : k = 1
  · subst h1
    have hi' := write_is hi e a s
    have c1 := writeW w hi.ok e a s
    have c2 := refWriteW (e := e) (k := a) (s := s) hi (by omega) hs
    unfold refH at c2
    obtain ⟨o', x0, x1, x2, x3, x4, x5, x6, x7, y0, y1, y2, y3, y4, y5, y6, y7, hw'⟩ := tell_8 hi'
    show ACalls _ _ _ (w.H ++ _) (RetH _ ((w.write e a s).2.H ++ rEw 19 (w.write e a s).2 8 sec))
    rw [show w.H = (Wd.mk o sec [d0, d1, d2, d3, d4, d5, d6, d7] [m0, m1, m2, m3, m4, m5, m6, m7]).H from congrArg Wd.H hw, show (w.write e a s).2.H = (Wd.mk o' sec [x0, x1, x2, x3, x4, x5, x6, x7] [y0, y1, y2, y3, y4, y5, y6, y7]).H from congrArg Wd.H hw']
    generalize (w.write e a s).1 = r at c1 c2
    refine acalls_of_awp hT mixed Try.func17 rfl (by kernel_rfl) (by kernel_rfl) (Nat.le_of_ble_eq_true rfl) ?_
    refine ⟨dlZg2a, dlZg2b, dlZg2c, dlZg2d, dlZg2e, Ob.intro (by kernel_rfl) ?_⟩
    repeat refine same ?_
    refine callU_8 (E := rEw 19 w 8 sec ++ [.row (xaC ⟨1, e, a, s, ps⟩)]) c1 hw hw' hi' rfl rfl ?_
    repeat refine same ?_
    refine callR_8 (E := [.row (xaC ⟨1, e, a, s, ps⟩)]) c2 rfl rfl ?_
    refine fork (fun _ => ?_) (fun h => ?_)
    rotate_left
    · exact absurd (beq_iff_eq.2 rfl) (by rw [h]; decide)
    repeat refine same ?_
    exact endH rfl rfl rfl ⟨.inl rfl, .inl rfl, .inl rfl, .inl rfl, .inl rfl, .inl rfl, .inl rfl, .inl rfl, .inl rfl, .inl rfl, .inl rfl, .inl rfl, .inl rfl, .inl rfl, .inl rfl, .inl rfl, .inl rfl, .inl rfl, .inl rfl, .inl rfl, .inl rfl, True.intro⟩ (Nat.le_refl 21) (both_below _ _ _ _ _ _ _ (Nat.le_refl 19)) rfl
  by_cases h2 : k = 2
  · subst h2
    have hi' := flush_is hi e
    have c1 := flushW w hi.ok e
    have c2 := refFlushW (e := e) hi (by omega) hs
    unfold refH at c2
    obtain ⟨o', x0, x1, x2, x3, x4, x5, x6, x7, y0, y1, y2, y3, y4, y5, y6, y7, hw'⟩ := tell_8 hi'
    show ACalls _ _ _ (w.H ++ _) (RetH _ ((w.flush e).2.H ++ rEw 19 (w.flush e).2 8 sec))
    rw [show w.H = (Wd.mk o sec [d0, d1, d2, d3, d4, d5, d6, d7] [m0, m1, m2, m3, m4, m5, m6, m7]).H from congrArg Wd.H hw, show (w.flush e).2.H = (Wd.mk o' sec [x0, x1, x2, x3, x4, x5, x6, x7] [y0, y1, y2, y3, y4, y5, y6, y7]).H from congrArg Wd.H hw']
    generalize (w.flush e).1 = r at c1 c2
    refine acalls_of_awp hT mixed Try.func17 rfl (by kernel_rfl) (by kernel_rfl) (Nat.le_of_ble_eq_true rfl) ?_
    refine ⟨dlZg3a, dlZg3b, dlZg3c, dlZg3d, dlZg3e, Ob.intro (by kernel_rfl) ?_⟩
    repeat refine same ?_
    refine callU_8 (E := rEw 19 w 8 sec ++ [.row (xaC ⟨2, e, a, s, ps⟩)]) c1 hw hw' hi' rfl rfl ?_
    repeat refine same ?_
    refine callR_8 (E := [.row (xaC ⟨2, e, a, s, ps⟩)]) c2 rfl rfl ?_
    refine fork (fun _ => ?_) (fun h => ?_)
    rotate_left
    · exact absurd (beq_iff_eq.2 rfl) (by rw [h]; decide)
    repeat refine same ?_
    exact endH rfl rfl rfl ⟨.inl rfl, .inl rfl, .inl rfl, .inl rfl, .inl rfl, .inl rfl, .inl rfl, .inl rfl, .inl rfl, .inl rfl, .inl rfl, .inl rfl, .inl rfl, .inl rfl, .inl rfl, .inl rfl, .inl rfl, .inl rfl, .inl rfl, .inl rfl, .inl rfl, True.intro⟩ (Nat.le_refl 21) (both_below _ _ _ _ _ _ _ (Nat.le_refl 19)) rfl
  by_cases h3 : k = 3
  · subst h3
    rw [show w.play ⟨3, e, a, s, ps⟩ = (w.crash ps).2 from if_pos hp]
    have hi' := crash_is hi ps
    have c1 := crashW w hi.ok (by rw [hi.n]; omega) ps (by omega)
    have c2 := refCrashW hi (by omega) hs ps (by omega)
    unfold refH at c2
    obtain ⟨o', x0, x1, x2, x3, x4, x5, x6, x7, y0, y1, y2, y3, y4, y5, y6, y7, hw'⟩ := tell_8 hi'
    show ACalls _ _ _ (w.H ++ _) (RetH _ ((w.crash ps).2.H ++ rEw 19 (w.crash ps).2 8 sec))
    rw [show w.H = (Wd.mk o sec [d0, d1, d2, d3, d4, d5, d6, d7] [m0, m1, m2, m3, m4, m5, m6, m7]).H from congrArg Wd.H hw, show (w.crash ps).2.H = (Wd.mk o' sec [x0, x1, x2, x3, x4, x5, x6, x7] [y0, y1, y2, y3, y4, y5, y6, y7]).H from congrArg Wd.H hw']
    generalize (w.crash ps).1 = r at c1 c2
    refine acalls_of_awp hT mixed Try.func17 rfl (by kernel_rfl) (by kernel_rfl) (Nat.le_of_ble_eq_true rfl) ?_
    refine ⟨dlZg4a, dlZg4b, dlZg4c, dlZg4d, dlZg4e, Ob.intro (by kernel_rfl) ?_⟩
    repeat refine same ?_
    refine callU_8 (E := rEw 19 w 8 sec ++ [.row (xaC ⟨3, e, a, s, ps⟩)]) c1 hw hw' hi' rfl rfl ?_
    repeat refine same ?_
    refine callR_8 (E := [.row (xaC ⟨3, e, a, s, ps⟩)]) c2 rfl rfl ?_
    refine fork (fun _ => ?_) (fun h => ?_)
    rotate_left
    · exact absurd (beq_iff_eq.2 rfl) (by rw [h]; decide)
    repeat refine same ?_
    exact endH rfl rfl rfl ⟨.inl rfl, .inl rfl, .inl rfl, .inl rfl, .inl rfl, .inl rfl, .inl rfl, .inl rfl, .inl rfl, .inl rfl, .inl rfl, .inl rfl, .inl rfl, .inl rfl, .inl rfl, .inl rfl, .inl rfl, .inl rfl, .inl rfl, .inl rfl, .inl rfl, True.intro⟩ (Nat.le_refl 21) (both_below _ _ _ _ _ _ _ (Nat.le_refl 19)) rfl
  by_cases h4 : k = 4
  · subst h4
    have hi' := start_is hi
    have c1 := startW w hi.ok (by rw [hi.n]; omega)
    have c2 := refStartW hi
    unfold refH at c2
    obtain ⟨o', x0, x1, x2, x3, x4, x5, x6, x7, y0, y1, y2, y3, y4, y5, y6, y7, hw'⟩ := tell_8 hi'
    show ACalls _ _ _ (w.H ++ _) (RetH _ (w.start.2.H ++ rEw 19 w.start.2 8 sec))
    rw [show w.H = (Wd.mk o sec [d0, d1, d2, d3, d4, d5, d6, d7] [m0, m1, m2, m3, m4, m5, m6, m7]).H from congrArg Wd.H hw, show w.start.2.H = (Wd.mk o' sec [x0, x1, x2, x3, x4, x5, x6, x7] [y0, y1, y2, y3, y4, y5, y6, y7]).H from congrArg Wd.H hw']
    generalize w.start.1 = r at c1 c2
    refine acalls_of_awp hT mixed Try.func17 rfl (by kernel_rfl) (by kernel_rfl) (Nat.le_of_ble_eq_true rfl) ?_
    refine callU_8 (E := rEw 19 w 8 sec ++ [.row (xaC ⟨4, e, a, s, ps⟩)]) c1 hw hw' hi' rfl rfl ?_
    repeat refine same ?_
    refine callR_8 (E := [.row (xaC ⟨4, e, a, s, ps⟩)]) c2 rfl rfl ?_
    refine fork (fun _ => ?_) (fun h => ?_)
    rotate_left
    · exact absurd (beq_iff_eq.2 rfl) (by rw [h]; decide)
    repeat refine same ?_
    exact endH rfl rfl rfl ⟨.inl rfl, .inl rfl, .inl rfl, .inl rfl, .inl rfl, .inl rfl, .inl rfl, .inl rfl, .inl rfl, .inl rfl, .inl rfl, .inl rfl, .inl rfl, .inl rfl, .inl rfl, .inl rfl, .inl rfl, .inl rfl, .inl rfl, .inl rfl, .inl rfl, True.intro⟩ (Nat.le_refl 21) (both_below _ _ _ _ _ _ _ (Nat.le_refl 19)) rfl
  by_cases h5 : k = 5
  · subst h5
    have hi' := lay_is hi e a s
    have c1 := layW w hi.ok e a s
    have c2 := refLayW (e := e) (k := a) (s := s) hi (by omega) hs
    unfold refH at c2
    obtain ⟨o', x0, x1, x2, x3, x4, x5, x6, x7, y0, y1, y2, y3, y4, y5, y6, y7, hw'⟩ := tell_8 hi'
    show ACalls _ _ _ (w.H ++ _) (RetH _ ((w.lay e a s).2.H ++ rEw 19 (w.lay e a s).2 8 sec))
    rw [show w.H = (Wd.mk o sec [d0, d1, d2, d3, d4, d5, d6, d7] [m0, m1, m2, m3, m4, m5, m6, m7]).H from congrArg Wd.H hw, show (w.lay e a s).2.H = (Wd.mk o' sec [x0, x1, x2, x3, x4, x5, x6, x7] [y0, y1, y2, y3, y4, y5, y6, y7]).H from congrArg Wd.H hw']
    generalize (w.lay e a s).1 = r at c1 c2
    refine acalls_of_awp hT mixed Try.func17 rfl (by kernel_rfl) (by kernel_rfl) (Nat.le_of_ble_eq_true rfl) ?_
    refine ⟨dlZg1a, dlZg1b, dlZg1c, dlZg1d, dlZg1e, Ob.intro (by kernel_rfl) ?_⟩
    repeat refine same ?_
    refine callU_8 (E := rEw 19 w 8 sec ++ [.row (xaC ⟨5, e, a, s, ps⟩)]) c1 hw hw' hi' rfl rfl ?_
    repeat refine same ?_
    refine callR_8 (E := [.row (xaC ⟨5, e, a, s, ps⟩)]) c2 rfl rfl ?_
    refine fork (fun _ => ?_) (fun h => ?_)
    rotate_left
    · exact absurd (beq_iff_eq.2 rfl) (by rw [h]; decide)
    repeat refine same ?_
    exact endH rfl rfl rfl ⟨.inl rfl, .inl rfl, .inl rfl, .inl rfl, .inl rfl, .inl rfl, .inl rfl, .inl rfl, .inl rfl, .inl rfl, .inl rfl, .inl rfl, .inl rfl, .inl rfl, .inl rfl, .inl rfl, .inl rfl, .inl rfl, .inl rfl, .inl rfl, .inl rfl, True.intro⟩ (Nat.le_refl 21) (both_below _ _ _ _ _ _ _ (Nat.le_refl 19)) rfl
  have hpl : w.play ⟨k, e, a, s, ps⟩ = w := by
    unfold Wd.play
    rw [if_neg h1, if_neg h2, if_neg h3, if_neg h4, if_neg h5]
  rw [hpl, show w.H = (Wd.mk o sec [d0, d1, d2, d3, d4, d5, d6, d7] [m0, m1, m2, m3, m4, m5, m6, m7]).H from congrArg Wd.H hw]
  refine acalls_of_awp hT mixed Try.func17 rfl (by kernel_rfl) (by kernel_rfl) (Nat.le_of_ble_eq_true rfl) ?_
  refine forkD (fun h => absurd h h1) (fun _ => ?_)
  refine forkD (fun h => absurd h h2) (fun _ => ?_)
  refine forkD (fun h => absurd h h3) (fun _ => ?_)
  refine forkD (fun h => absurd h h4) (fun _ => ?_)
  refine forkD (fun h => absurd h h5) (fun _ => ?_)
  exact endH rfl rfl rfl ⟨.inl rfl, .inl rfl, .inl rfl, .inl rfl, .inl rfl, .inl rfl, .inl rfl, .inl rfl, .inl rfl, .inl rfl, .inl rfl, .inl rfl, .inl rfl, .inl rfl, .inl rfl, .inl rfl, .inl rfl, .inl rfl, .inl rfl, .inl rfl, .inl rfl, True.intro⟩ (Nat.le_refl 21) (both_below _ _ _ _ _ _ _ (Nat.le_refl 19)) rfl
end Go.Proofs.Ytpkbdlocmjgmbaa.A
