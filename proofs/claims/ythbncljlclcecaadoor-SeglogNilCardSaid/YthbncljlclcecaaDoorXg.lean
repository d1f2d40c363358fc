/- extent: Read (printed by genexr.py). No condition. -/
import Derived.Test.YthbncljlclcecaaDoorXf
namespace Go.Proofs.YthbncljlclcecaaDoor.A
open Go
set_option linter.unusedVariables false
set_option linter.unusedSimpArgs false
set_option maxRecDepth 100000
set_option pp.maxSteps 600
theorem rd_str {H : Heap} {p off k : Nat} {x : ByteArray} {R : List ByteArray} (h : nth H p = some (.row (R.map str))) (hk : off = k) (hx : R[k]? = some x) : rd1 H p off = some (str x) := by
  subst hk
  unfold rd1
  rw [h]
  simp only
  rw [nth_eq, List.getElem?_map, hx]
  rfl

theorem read_1 (sec : Nat) (D : List (List ByteArray)) (M : List Mp) (hD : D.length = 1) (hM : M.length = 1) (e k : Int) (d : List ByteArray) (m : Mp) (hd : D[e.toNat]? = some d) (hm : M[e.toNat]? = some m) (x : ByteArray) (hx : d[k.toNat]? = some x) (hin : inS sec 1 e k) :
    ACalls Tryd.prog 27 [.ptr 0 0, i64 e, i64 k] (Wd.mk false sec D M).H (RetH (.tup [str ((m.get k).getD x), i64 0]) (Wd.mk false sec D M).H) := by
  match D, hD, M, hM with
  | [d0], _, [m0], _ =>
  have hp := power_ok false (sec : Nat) 1 e k
  rw [if_neg (by decide), if_pos hin] at hp
  obtain ⟨⟨h1, h2⟩, h3, h4⟩ := hin
  have he : e = 0 := by omega
  rcases he with rfl
  · cases hd; cases hm
    refine acalls_of_awp hT mixed Tryd.func27 rfl (by kernel_rfl) (by kernel_rfl) (Nat.le_of_ble_eq_true rfl) ?_
    refine callW (cs := [bo false, i64 (sec : Nat), .slc 1 0 1 1, .slc 2 0 1 1]) (rest := [i64 0, i64 k]) hp rfl rfl rfl ?_
    refine Ob.intro (show (0 : Int) ≤ 0 ∧ (0 : Int) < ((1 : Nat) : Int) from ⟨by omega, by omega⟩) ?_
    cases hg : getE m.L k with
    | some t =>
      refine optK_intro (lookR_some hg) ?_
      exact endH rfl rfl rfl ⟨.inl rfl, .inl rfl, .inl rfl, .inl rfl, .inl rfl, True.intro⟩ (Nat.le_refl 5) (Wd.below _) (by rw [show m.get k = some t from hg]; rfl)
    | none =>
      refine optK_intro (lookR_none hg) ?_
      refine Ob.intro (show (0 : Int) ≤ 0 ∧ (0 : Int) < ((1 : Nat) : Int) from ⟨by omega, by omega⟩) ?_
      refine Ob.intro (show (0 : Int) ≤ k ∧ k < ((sec : Nat) : Int) from ⟨h3, h4⟩) ?_
      refine optK_intro (rd_str (R := d) (k := k.toNat) (x := x) rfl (by omega) hx) ?_
      exact endH rfl rfl rfl ⟨.inl rfl, .inl rfl, .inl rfl, .inl rfl, .inl rfl, True.intro⟩ (Nat.le_refl 5) (Wd.below _) (by rw [show m.get k = none from hg]; rfl)
theorem read_2 (sec : Nat) (D : List (List ByteArray)) (M : List Mp) (hD : D.length = 2) (hM : M.length = 2) (e k : Int) (d : List ByteArray) (m : Mp) (hd : D[e.toNat]? = some d) (hm : M[e.toNat]? = some m) (x : ByteArray) (hx : d[k.toNat]? = some x) (hin : inS sec 2 e k) :
    ACalls Tryd.prog 27 [.ptr 0 0, i64 e, i64 k] (Wd.mk false sec D M).H (RetH (.tup [str ((m.get k).getD x), i64 0]) (Wd.mk false sec D M).H) := by
  match D, hD, M, hM with
  | [d0, d1], _, [m0, m1], _ =>
  have hp := power_ok false (sec : Nat) 2 e k
  rw [if_neg (by decide), if_pos hin] at hp
  obtain ⟨⟨h1, h2⟩, h3, h4⟩ := hin
  have he : e = 0 ∨ e = 1 := by omega
  rcases he with rfl | rfl
  · cases hd; cases hm
    refine acalls_of_awp hT mixed Tryd.func27 rfl (by kernel_rfl) (by kernel_rfl) (Nat.le_of_ble_eq_true rfl) ?_
    refine callW (cs := [bo false, i64 (sec : Nat), .slc 1 0 2 1, .slc 2 0 2 1]) (rest := [i64 0, i64 k]) hp rfl rfl rfl ?_
    refine Ob.intro (show (0 : Int) ≤ 0 ∧ (0 : Int) < ((2 : Nat) : Int) from ⟨by omega, by omega⟩) ?_
    cases hg : getE m.L k with
    | some t =>
      refine optK_intro (lookR_some hg) ?_
      exact endH rfl rfl rfl ⟨.inl rfl, .inl rfl, .inl rfl, .inl rfl, .inl rfl, .inl rfl, .inl rfl, True.intro⟩ (Nat.le_refl 7) (Wd.below _) (by rw [show m.get k = some t from hg]; rfl)
    | none =>
      refine optK_intro (lookR_none hg) ?_
      refine Ob.intro (show (0 : Int) ≤ 0 ∧ (0 : Int) < ((2 : Nat) : Int) from ⟨by omega, by omega⟩) ?_
      refine Ob.intro (show (0 : Int) ≤ k ∧ k < ((sec : Nat) : Int) from ⟨h3, h4⟩) ?_
      refine optK_intro (rd_str (R := d) (k := k.toNat) (x := x) rfl (by omega) hx) ?_
      exact endH rfl rfl rfl ⟨.inl rfl, .inl rfl, .inl rfl, .inl rfl, .inl rfl, .inl rfl, .inl rfl, True.intro⟩ (Nat.le_refl 7) (Wd.below _) (by rw [show m.get k = none from hg]; rfl)
  · cases hd; cases hm
    refine acalls_of_awp hT mixed Tryd.func27 rfl (by kernel_rfl) (by kernel_rfl) (Nat.le_of_ble_eq_true rfl) ?_
    refine callW (cs := [bo false, i64 (sec : Nat), .slc 1 0 2 1, .slc 2 0 2 1]) (rest := [i64 1, i64 k]) hp rfl rfl rfl ?_
    refine Ob.intro (show (0 : Int) ≤ 1 ∧ (1 : Int) < ((2 : Nat) : Int) from ⟨by omega, by omega⟩) ?_
    cases hg : getE m.L k with
    | some t =>
      refine optK_intro (lookR_some hg) ?_
      exact endH rfl rfl rfl ⟨.inl rfl, .inl rfl, .inl rfl, .inl rfl, .inl rfl, .inl rfl, .inl rfl, True.intro⟩ (Nat.le_refl 7) (Wd.below _) (by rw [show m.get k = some t from hg]; rfl)
    | none =>
      refine optK_intro (lookR_none hg) ?_
      refine Ob.intro (show (0 : Int) ≤ 1 ∧ (1 : Int) < ((2 : Nat) : Int) from ⟨by omega, by omega⟩) ?_
      refine Ob.intro (show (0 : Int) ≤ k ∧ k < ((sec : Nat) : Int) from ⟨h3, h4⟩) ?_
      refine optK_intro (rd_str (R := d) (k := k.toNat) (x := x) rfl (by omega) hx) ?_
      exact endH rfl rfl rfl ⟨.inl rfl, .inl rfl, .inl rfl, .inl rfl, .inl rfl, .inl rfl, .inl rfl, True.intro⟩ (Nat.le_refl 7) (Wd.below _) (by rw [show m.get k = none from hg]; rfl)
theorem read_3 (sec : Nat) (D : List (List ByteArray)) (M : List Mp) (hD : D.length = 3) (hM : M.length = 3) (e k : Int) (d : List ByteArray) (m : Mp) (hd : D[e.toNat]? = some d) (hm : M[e.toNat]? = some m) (x : ByteArray) (hx : d[k.toNat]? = some x) (hin : inS sec 3 e k) :
    ACalls Tryd.prog 27 [.ptr 0 0, i64 e, i64 k] (Wd.mk false sec D M).H (RetH (.tup [str ((m.get k).getD x), i64 0]) (Wd.mk false sec D M).H) := by
  match D, hD, M, hM with
  | [d0, d1, d2], _, [m0, m1, m2], _ =>
  have hp := power_ok false (sec : Nat) 3 e k
  rw [if_neg (by decide), if_pos hin] at hp
  obtain ⟨⟨h1, h2⟩, h3, h4⟩ := hin
  have he : e = 0 ∨ e = 1 ∨ e = 2 := by omega
  rcases he with rfl | rfl | rfl
  · cases hd; cases hm
    refine acalls_of_awp hT mixed Tryd.func27 rfl (by kernel_rfl) (by kernel_rfl) (Nat.le_of_ble_eq_true rfl) ?_
    refine callW (cs := [bo false, i64 (sec : Nat), .slc 1 0 3 1, .slc 2 0 3 1]) (rest := [i64 0, i64 k]) hp rfl rfl rfl ?_
    refine Ob.intro (show (0 : Int) ≤ 0 ∧ (0 : Int) < ((3 : Nat) : Int) from ⟨by omega, by omega⟩) ?_
    cases hg : getE m.L k with
    | some t =>
      refine optK_intro (lookR_some hg) ?_
      exact endH rfl rfl rfl ⟨.inl rfl, .inl rfl, .inl rfl, .inl rfl, .inl rfl, .inl rfl, .inl rfl, .inl rfl, .inl rfl, True.intro⟩ (Nat.le_refl 9) (Wd.below _) (by rw [show m.get k = some t from hg]; rfl)
    | none =>
      refine optK_intro (lookR_none hg) ?_
      refine Ob.intro (show (0 : Int) ≤ 0 ∧ (0 : Int) < ((3 : Nat) : Int) from ⟨by omega, by omega⟩) ?_
      refine Ob.intro (show (0 : Int) ≤ k ∧ k < ((sec : Nat) : Int) from ⟨h3, h4⟩) ?_
      refine optK_intro (rd_str (R := d) (k := k.toNat) (x := x) rfl (by omega) hx) ?_
      exact endH rfl rfl rfl ⟨.inl rfl, .inl rfl, .inl rfl, .inl rfl, .inl rfl, .inl rfl, .inl rfl, .inl rfl, .inl rfl, True.intro⟩ (Nat.le_refl 9) (Wd.below _) (by rw [show m.get k = none from hg]; rfl)
  · cases hd; cases hm
    refine acalls_of_awp hT mixed Tryd.func27 rfl (by kernel_rfl) (by kernel_rfl) (Nat.le_of_ble_eq_true rfl) ?_
    refine callW (cs := [bo false, i64 (sec : Nat), .slc 1 0 3 1, .slc 2 0 3 1]) (rest := [i64 1, i64 k]) hp rfl rfl rfl ?_
    refine Ob.intro (show (0 : Int) ≤ 1 ∧ (1 : Int) < ((3 : Nat) : Int) from ⟨by omega, by omega⟩) ?_
    cases hg : getE m.L k with
    | some t =>
      refine optK_intro (lookR_some hg) ?_
      exact endH rfl rfl rfl ⟨.inl rfl, .inl rfl, .inl rfl, .inl rfl, .inl rfl, .inl rfl, .inl rfl, .inl rfl, .inl rfl, True.intro⟩ (Nat.le_refl 9) (Wd.below _) (by rw [show m.get k = some t from hg]; rfl)
    | none =>
      refine optK_intro (lookR_none hg) ?_
      refine Ob.intro (show (0 : Int) ≤ 1 ∧ (1 : Int) < ((3 : Nat) : Int) from ⟨by omega, by omega⟩) ?_
      refine Ob.intro (show (0 : Int) ≤ k ∧ k < ((sec : Nat) : Int) from ⟨h3, h4⟩) ?_
      refine optK_intro (rd_str (R := d) (k := k.toNat) (x := x) rfl (by omega) hx) ?_
      exact endH rfl rfl rfl ⟨.inl rfl, .inl rfl, .inl rfl, .inl rfl, .inl rfl, .inl rfl, .inl rfl, .inl rfl, .inl rfl, True.intro⟩ (Nat.le_refl 9) (Wd.below _) (by rw [show m.get k = none from hg]; rfl)
  · cases hd; cases hm
    refine acalls_of_awp hT mixed Tryd.func27 rfl (by kernel_rfl) (by kernel_rfl) (Nat.le_of_ble_eq_true rfl) ?_
    refine callW (cs := [bo false, i64 (sec : Nat), .slc 1 0 3 1, .slc 2 0 3 1]) (rest := [i64 2, i64 k]) hp rfl rfl rfl ?_
    refine Ob.intro (show (0 : Int) ≤ 2 ∧ (2 : Int) < ((3 : Nat) : Int) from ⟨by omega, by omega⟩) ?_
    cases hg : getE m.L k with
    | some t =>
      refine optK_intro (lookR_some hg) ?_
      exact endH rfl rfl rfl ⟨.inl rfl, .inl rfl, .inl rfl, .inl rfl, .inl rfl, .inl rfl, .inl rfl, .inl rfl, .inl rfl, True.intro⟩ (Nat.le_refl 9) (Wd.below _) (by rw [show m.get k = some t from hg]; rfl)
    | none =>
      refine optK_intro (lookR_none hg) ?_
      refine Ob.intro (show (0 : Int) ≤ 2 ∧ (2 : Int) < ((3 : Nat) : Int) from ⟨by omega, by omega⟩) ?_
      refine Ob.intro (show (0 : Int) ≤ k ∧ k < ((sec : Nat) : Int) from ⟨h3, h4⟩) ?_
      refine optK_intro (rd_str (R := d) (k := k.toNat) (x := x) rfl (by omega) hx) ?_
      exact endH rfl rfl rfl ⟨.inl rfl, .inl rfl, .inl rfl, .inl rfl, .inl rfl, .inl rfl, .inl rfl, .inl rfl, .inl rfl, True.intro⟩ (Nat.le_refl 9) (Wd.below _) (by rw [show m.get k = none from hg]; rfl)
theorem read_4 (sec : Nat) (D : List (List ByteArray)) (M : List Mp) (hD : D.length = 4) (hM : M.length = 4) (e k : Int) (d : List ByteArray) (m : Mp) (hd : D[e.toNat]? = some d) (hm : M[e.toNat]? = some m) (x : ByteArray) (hx : d[k.toNat]? = some x) (hin : inS sec 4 e k) :
    ACalls Tryd.prog 27 [.ptr 0 0, i64 e, i64 k] (Wd.mk false sec D M).H (RetH (.tup [str ((m.get k).getD x), i64 0]) (Wd.mk false sec D M).H) := by
  match D, hD, M, hM with
  | [d0, d1, d2, d3], _, [m0, m1, m2, m3], _ =>
  have hp := power_ok false (sec : Nat) 4 e k
  rw [if_neg (by decide), if_pos hin] at hp
  obtain ⟨⟨h1, h2⟩, h3, h4⟩ := hin
  have he : e = 0 ∨ e = 1 ∨ e = 2 ∨ e = 3 := by omega
  rcases he with rfl | rfl | rfl | rfl
  · cases hd; cases hm
    refine acalls_of_awp hT mixed Tryd.func27 rfl (by kernel_rfl) (by kernel_rfl) (Nat.le_of_ble_eq_true rfl) ?_
    refine callW (cs := [bo false, i64 (sec : Nat), .slc 1 0 4 1, .slc 2 0 4 1]) (rest := [i64 0, i64 k]) hp rfl rfl rfl ?_
    refine Ob.intro (show (0 : Int) ≤ 0 ∧ (0 : Int) < ((4 : Nat) : Int) from ⟨by omega, by omega⟩) ?_
    cases hg : getE m.L k with
    | some t =>
      refine optK_intro (lookR_some hg) ?_
      exact endH rfl rfl rfl ⟨.inl rfl, .inl rfl, .inl rfl, .inl rfl, .inl rfl, .inl rfl, .inl rfl, .inl rfl, .inl rfl, .inl rfl, .inl rfl, True.intro⟩ (Nat.le_refl 11) (Wd.below _) (by rw [show m.get k = some t from hg]; rfl)
    | none =>
      refine optK_intro (lookR_none hg) ?_
      refine Ob.intro (show (0 : Int) ≤ 0 ∧ (0 : Int) < ((4 : Nat) : Int) from ⟨by omega, by omega⟩) ?_
      refine Ob.intro (show (0 : Int) ≤ k ∧ k < ((sec : Nat) : Int) from ⟨h3, h4⟩) ?_
      refine optK_intro (rd_str (R := d) (k := k.toNat) (x := x) rfl (by omega) hx) ?_
      exact endH rfl rfl rfl ⟨.inl rfl, .inl rfl, .inl rfl, .inl rfl, .inl rfl, .inl rfl, .inl rfl, .inl rfl, .inl rfl, .inl rfl, .inl rfl, True.intro⟩ (Nat.le_refl 11) (Wd.below _) (by rw [show m.get k = none from hg]; rfl)
  · cases hd; cases hm
    refine acalls_of_awp hT mixed Tryd.func27 rfl (by kernel_rfl) (by kernel_rfl) (Nat.le_of_ble_eq_true rfl) ?_
    refine callW (cs := [bo false, i64 (sec : Nat), .slc 1 0 4 1, .slc 2 0 4 1]) (rest := [i64 1, i64 k]) hp rfl rfl rfl ?_
    refine Ob.intro (show (0 : Int) ≤ 1 ∧ (1 : Int) < ((4 : Nat) : Int) from ⟨by omega, by omega⟩) ?_
    cases hg : getE m.L k with
    | some t =>
      refine optK_intro (lookR_some hg) ?_
      exact endH rfl rfl rfl ⟨.inl rfl, .inl rfl, .inl rfl, .inl rfl, .inl rfl, .inl rfl, .inl rfl, .inl rfl, .inl rfl, .inl rfl, .inl rfl, True.intro⟩ (Nat.le_refl 11) (Wd.below _) (by rw [show m.get k = some t from hg]; rfl)
    | none =>
      refine optK_intro (lookR_none hg) ?_
      refine Ob.intro (show (0 : Int) ≤ 1 ∧ (1 : Int) < ((4 : Nat) : Int) from ⟨by omega, by omega⟩) ?_
      refine Ob.intro (show (0 : Int) ≤ k ∧ k < ((sec : Nat) : Int) from ⟨h3, h4⟩) ?_
      refine optK_intro (rd_str (R := d) (k := k.toNat) (x := x) rfl (by omega) hx) ?_
      exact endH rfl rfl rfl ⟨.inl rfl, .inl rfl, .inl rfl, .inl rfl, .inl rfl, .inl rfl, .inl rfl, .inl rfl, .inl rfl, .inl rfl, .inl rfl, True.intro⟩ (Nat.le_refl 11) (Wd.below _) (by rw [show m.get k = none from hg]; rfl)
  · cases hd; cases hm
    refine acalls_of_awp hT mixed Tryd.func27 rfl (by kernel_rfl) (by kernel_rfl) (Nat.le_of_ble_eq_true rfl) ?_
    refine callW (cs := [bo false, i64 (sec : Nat), .slc 1 0 4 1, .slc 2 0 4 1]) (rest := [i64 2, i64 k]) hp rfl rfl rfl ?_
    refine Ob.intro (show (0 : Int) ≤ 2 ∧ (2 : Int) < ((4 : Nat) : Int) from ⟨by omega, by omega⟩) ?_
    cases hg : getE m.L k with
    | some t =>
      refine optK_intro (lookR_some hg) ?_
      exact endH rfl rfl rfl ⟨.inl rfl, .inl rfl, .inl rfl, .inl rfl, .inl rfl, .inl rfl, .inl rfl, .inl rfl, .inl rfl, .inl rfl, .inl rfl, True.intro⟩ (Nat.le_refl 11) (Wd.below _) (by rw [show m.get k = some t from hg]; rfl)
    | none =>
      refine optK_intro (lookR_none hg) ?_
      refine Ob.intro (show (0 : Int) ≤ 2 ∧ (2 : Int) < ((4 : Nat) : Int) from ⟨by omega, by omega⟩) ?_
      refine Ob.intro (show (0 : Int) ≤ k ∧ k < ((sec : Nat) : Int) from ⟨h3, h4⟩) ?_
      refine optK_intro (rd_str (R := d) (k := k.toNat) (x := x) rfl (by omega) hx) ?_
      exact endH rfl rfl rfl ⟨.inl rfl, .inl rfl, .inl rfl, .inl rfl, .inl rfl, .inl rfl, .inl rfl, .inl rfl, .inl rfl, .inl rfl, .inl rfl, True.intro⟩ (Nat.le_refl 11) (Wd.below _) (by rw [show m.get k = none from hg]; rfl)
  · cases hd; cases hm
    refine acalls_of_awp hT mixed Tryd.func27 rfl (by kernel_rfl) (by kernel_rfl) (Nat.le_of_ble_eq_true rfl) ?_
    refine callW (cs := [bo false, i64 (sec : Nat), .slc 1 0 4 1, .slc 2 0 4 1]) (rest := [i64 3, i64 k]) hp rfl rfl rfl ?_
    refine Ob.intro (show (0 : Int) ≤ 3 ∧ (3 : Int) < ((4 : Nat) : Int) from ⟨by omega, by omega⟩) ?_
    cases hg : getE m.L k with
    | some t =>
      refine optK_intro (lookR_some hg) ?_
      exact endH rfl rfl rfl ⟨.inl rfl, .inl rfl, .inl rfl, .inl rfl, .inl rfl, .inl rfl, .inl rfl, .inl rfl, .inl rfl, .inl rfl, .inl rfl, True.intro⟩ (Nat.le_refl 11) (Wd.below _) (by rw [show m.get k = some t from hg]; rfl)
    | none =>
      refine optK_intro (lookR_none hg) ?_
      refine Ob.intro (show (0 : Int) ≤ 3 ∧ (3 : Int) < ((4 : Nat) : Int) from ⟨by omega, by omega⟩) ?_
      refine Ob.intro (show (0 : Int) ≤ k ∧ k < ((sec : Nat) : Int) from ⟨h3, h4⟩) ?_
      refine optK_intro (rd_str (R := d) (k := k.toNat) (x := x) rfl (by omega) hx) ?_
      exact endH rfl rfl rfl ⟨.inl rfl, .inl rfl, .inl rfl, .inl rfl, .inl rfl, .inl rfl, .inl rfl, .inl rfl, .inl rfl, .inl rfl, .inl rfl, True.intro⟩ (Nat.le_refl 11) (Wd.below _) (by rw [show m.get k = none from hg]; rfl)
theorem read_5 (sec : Nat) (D : List (List ByteArray)) (M : List Mp) (hD : D.length = 5) (hM : M.length = 5) (e k : Int) (d : List ByteArray) (m : Mp) (hd : D[e.toNat]? = some d) (hm : M[e.toNat]? = some m) (x : ByteArray) (hx : d[k.toNat]? = some x) (hin : inS sec 5 e k) :
    ACalls Tryd.prog 27 [.ptr 0 0, i64 e, i64 k] (Wd.mk false sec D M).H (RetH (.tup [str ((m.get k).getD x), i64 0]) (Wd.mk false sec D M).H) := by
  match D, hD, M, hM with
  | [d0, d1, d2, d3, d4], _, [m0, m1, m2, m3, m4], _ =>
  have hp := power_ok false (sec : Nat) 5 e k
  rw [if_neg (by decide), if_pos hin] at hp
  obtain ⟨⟨h1, h2⟩, h3, h4⟩ := hin
  have he : e = 0 ∨ e = 1 ∨ e = 2 ∨ e = 3 ∨ e = 4 := by omega
  rcases he with rfl | rfl | rfl | rfl | rfl
  · cases hd; cases hm
    refine acalls_of_awp hT mixed Tryd.func27 rfl (by kernel_rfl) (by kernel_rfl) (Nat.le_of_ble_eq_true rfl) ?_
    refine callW (cs := [bo false, i64 (sec : Nat), .slc 1 0 5 1, .slc 2 0 5 1]) (rest := [i64 0, i64 k]) hp rfl rfl rfl ?_
    refine Ob.intro (show (0 : Int) ≤ 0 ∧ (0 : Int) < ((5 : Nat) : Int) from ⟨by omega, by omega⟩) ?_
    cases hg : getE m.L k with
    | some t =>
      refine optK_intro (lookR_some hg) ?_
      exact endH rfl rfl rfl ⟨.inl rfl, .inl rfl, .inl rfl, .inl rfl, .inl rfl, .inl rfl, .inl rfl, .inl rfl, .inl rfl, .inl rfl, .inl rfl, .inl rfl, .inl rfl, True.intro⟩ (Nat.le_refl 13) (Wd.below _) (by rw [show m.get k = some t from hg]; rfl)
    | none =>
      refine optK_intro (lookR_none hg) ?_
      refine Ob.intro (show (0 : Int) ≤ 0 ∧ (0 : Int) < ((5 : Nat) : Int) from ⟨by omega, by omega⟩) ?_
      refine Ob.intro (show (0 : Int) ≤ k ∧ k < ((sec : Nat) : Int) from ⟨h3, h4⟩) ?_
      refine optK_intro (rd_str (R := d) (k := k.toNat) (x := x) rfl (by omega) hx) ?_
      exact endH rfl rfl rfl ⟨.inl rfl, .inl rfl, .inl rfl, .inl rfl, .inl rfl, .inl rfl, .inl rfl, .inl rfl, .inl rfl, .inl rfl, .inl rfl, .inl rfl, .inl rfl, True.intro⟩ (Nat.le_refl 13) (Wd.below _) (by rw [show m.get k = none from hg]; rfl)
  · cases hd; cases hm
    refine acalls_of_awp hT mixed Tryd.func27 rfl (by kernel_rfl) (by kernel_rfl) (Nat.le_of_ble_eq_true rfl) ?_
    refine callW (cs := [bo false, i64 (sec : Nat), .slc 1 0 5 1, .slc 2 0 5 1]) (rest := [i64 1, i64 k]) hp rfl rfl rfl ?_
    refine Ob.intro (show (0 : Int) ≤ 1 ∧ (1 : Int) < ((5 : Nat) : Int) from ⟨by omega, by omega⟩) ?_
    cases hg : getE m.L k with
    | some t =>
      refine optK_intro (lookR_some hg) ?_
      exact endH rfl rfl rfl ⟨.inl rfl, .inl rfl, .inl rfl, .inl rfl, .inl rfl, .inl rfl, .inl rfl, .inl rfl, .inl rfl, .inl rfl, .inl rfl, .inl rfl, .inl rfl, True.intro⟩ (Nat.le_refl 13) (Wd.below _) (by rw [show m.get k = some t from hg]; rfl)
    | none =>
      refine optK_intro (lookR_none hg) ?_
      refine Ob.intro (show (0 : Int) ≤ 1 ∧ (1 : Int) < ((5 : Nat) : Int) from ⟨by omega, by omega⟩) ?_
      refine Ob.intro (show (0 : Int) ≤ k ∧ k < ((sec : Nat) : Int) from ⟨h3, h4⟩) ?_
      refine optK_intro (rd_str (R := d) (k := k.toNat) (x := x) rfl (by omega) hx) ?_
      exact endH rfl rfl rfl ⟨.inl rfl, .inl rfl, .inl rfl, .inl rfl, .inl rfl, .inl rfl, .inl rfl, .inl rfl, .inl rfl, .inl rfl, .inl rfl, .inl rfl, .inl rfl, True.intro⟩ (Nat.le_refl 13) (Wd.below _) (by rw [show m.get k = none from hg]; rfl)
  · cases hd; cases hm
    refine acalls_of_awp hT mixed Tryd.func27 rfl (by kernel_rfl) (by kernel_rfl) (Nat.le_of_ble_eq_true rfl) ?_
    refine callW (cs := [bo false, i64 (sec : Nat), .slc 1 0 5 1, .slc 2 0 5 1]) (rest := [i64 2, i64 k]) hp rfl rfl rfl ?_
    refine Ob.intro (show (0 : Int) ≤ 2 ∧ (2 : Int) < ((5 : Nat) : Int) from ⟨by omega, by omega⟩) ?_
    cases hg : getE m.L k with
    | some t =>
      refine optK_intro (lookR_some hg) ?_
      exact endH rfl rfl rfl ⟨.inl rfl, .inl rfl, .inl rfl, .inl rfl, .inl rfl, .inl rfl, .inl rfl, .inl rfl, .inl rfl, .inl rfl, .inl rfl, .inl rfl, .inl rfl, True.intro⟩ (Nat.le_refl 13) (Wd.below _) (by rw [show m.get k = some t from hg]; rfl)
    | none =>
      refine optK_intro (lookR_none hg) ?_
      refine Ob.intro (show (0 : Int) ≤ 2 ∧ (2 : Int) < ((5 : Nat) : Int) from ⟨by omega, by omega⟩) ?_
      refine Ob.intro (show (0 : Int) ≤ k ∧ k < ((sec : Nat) : Int) from ⟨h3, h4⟩) ?_
      refine optK_intro (rd_str (R := d) (k := k.toNat) (x := x) rfl (by omega) hx) ?_
      exact endH rfl rfl rfl ⟨.inl rfl, .inl rfl, .inl rfl, .inl rfl, .inl rfl, .inl rfl, .inl rfl, .inl rfl, .inl rfl, .inl rfl, .inl rfl, .inl rfl, .inl rfl, True.intro⟩ (Nat.le_refl 13) (Wd.below _) (by rw [show m.get k = none from hg]; rfl)
  · cases hd; cases hm
    refine acalls_of_awp hT mixed Tryd.func27 rfl (by kernel_rfl) (by kernel_rfl) (Nat.le_of_ble_eq_true rfl) ?_
    refine callW (cs := [bo false, i64 (sec : Nat), .slc 1 0 5 1, .slc 2 0 5 1]) (rest := [i64 3, i64 k]) hp rfl rfl rfl ?_
    refine Ob.intro (show (0 : Int) ≤ 3 ∧ (3 : Int) < ((5 : Nat) : Int) from ⟨by omega, by omega⟩) ?_
    cases hg : getE m.L k with
    | some t =>
      refine optK_intro (lookR_some hg) ?_
      exact endH rfl rfl rfl ⟨.inl rfl, .inl rfl, .inl rfl, .inl rfl, .inl rfl, .inl rfl, .inl rfl, .inl rfl, .inl rfl, .inl rfl, .inl rfl, .inl rfl, .inl rfl, True.intro⟩ (Nat.le_refl 13) (Wd.below _) (by rw [show m.get k = some t from hg]; rfl)
    | none =>
      refine optK_intro (lookR_none hg) ?_
      refine Ob.intro (show (0 : Int) ≤ 3 ∧ (3 : Int) < ((5 : Nat) : Int) from ⟨by omega, by omega⟩) ?_
      refine Ob.intro (show (0 : Int) ≤ k ∧ k < ((sec : Nat) : Int) from ⟨h3, h4⟩) ?_
      refine optK_intro (rd_str (R := d) (k := k.toNat) (x := x) rfl (by omega) hx) ?_
      exact endH rfl rfl rfl ⟨.inl rfl, .inl rfl, .inl rfl, .inl rfl, .inl rfl, .inl rfl, .inl rfl, .inl rfl, .inl rfl, .inl rfl, .inl rfl, .inl rfl, .inl rfl, True.intro⟩ (Nat.le_refl 13) (Wd.below _) (by rw [show m.get k = none from hg]; rfl)
  · cases hd; cases hm
    refine acalls_of_awp hT mixed Tryd.func27 rfl (by kernel_rfl) (by kernel_rfl) (Nat.le_of_ble_eq_true rfl) ?_
    refine callW (cs := [bo false, i64 (sec : Nat), .slc 1 0 5 1, .slc 2 0 5 1]) (rest := [i64 4, i64 k]) hp rfl rfl rfl ?_
    refine Ob.intro (show (0 : Int) ≤ 4 ∧ (4 : Int) < ((5 : Nat) : Int) from ⟨by omega, by omega⟩) ?_
    cases hg : getE m.L k with
    | some t =>
      refine optK_intro (lookR_some hg) ?_
      exact endH rfl rfl rfl ⟨.inl rfl, .inl rfl, .inl rfl, .inl rfl, .inl rfl, .inl rfl, .inl rfl, .inl rfl, .inl rfl, .inl rfl, .inl rfl, .inl rfl, .inl rfl, True.intro⟩ (Nat.le_refl 13) (Wd.below _) (by rw [show m.get k = some t from hg]; rfl)
    | none =>
      refine optK_intro (lookR_none hg) ?_
      refine Ob.intro (show (0 : Int) ≤ 4 ∧ (4 : Int) < ((5 : Nat) : Int) from ⟨by omega, by omega⟩) ?_
      refine Ob.intro (show (0 : Int) ≤ k ∧ k < ((sec : Nat) : Int) from ⟨h3, h4⟩) ?_
      refine optK_intro (rd_str (R := d) (k := k.toNat) (x := x) rfl (by omega) hx) ?_
      exact endH rfl rfl rfl ⟨.inl rfl, .inl rfl, .inl rfl, .inl rfl, .inl rfl, .inl rfl, .inl rfl, .inl rfl, .inl rfl, .inl rfl, .inl rfl, .inl rfl, .inl rfl, True.intro⟩ (Nat.le_refl 13) (Wd.below _) (by rw [show m.get k = none from hg]; rfl)
theorem read_6 (sec : Nat) (D : List (List ByteArray)) (M : List Mp) (hD : D.length = 6) (hM : M.length = 6) (e k : Int) (d : List ByteArray) (m : Mp) (hd : D[e.toNat]? = some d) (hm : M[e.toNat]? = some m) (x : ByteArray) (hx : d[k.toNat]? = some x) (hin : inS sec 6 e k) :
    ACalls Tryd.prog 27 [.ptr 0 0, i64 e, i64 k] (Wd.mk false sec D M).H (RetH (.tup [str ((m.get k).getD x), i64 0]) (Wd.mk false sec D M).H) := by
  match D, hD, M, hM with
  | [d0, d1, d2, d3, d4, d5], _, [m0, m1, m2, m3, m4, m5], _ =>
  have hp := power_ok false (sec : Nat) 6 e k
  rw [if_neg (by decide), if_pos hin] at hp
  obtain ⟨⟨h1, h2⟩, h3, h4⟩ := hin
  have he : e = 0 ∨ e = 1 ∨ e = 2 ∨ e = 3 ∨ e = 4 ∨ e = 5 := by omega
  rcases he with rfl | rfl | rfl | rfl | rfl | rfl
  · cases hd; cases hm
    refine acalls_of_awp hT mixed Tryd.func27 rfl (by kernel_rfl) (by kernel_rfl) (Nat.le_of_ble_eq_true rfl) ?_
    refine callW (cs := [bo false, i64 (sec : Nat), .slc 1 0 6 1, .slc 2 0 6 1]) (rest := [i64 0, i64 k]) hp rfl rfl rfl ?_
    refine Ob.intro (show (0 : Int) ≤ 0 ∧ (0 : Int) < ((6 : Nat) : Int) from ⟨by omega, by omega⟩) ?_
    cases hg : getE m.L k with
    | some t =>
      refine optK_intro (lookR_some hg) ?_
      exact endH rfl rfl rfl ⟨.inl rfl, .inl rfl, .inl rfl, .inl rfl, .inl rfl, .inl rfl, .inl rfl, .inl rfl, .inl rfl, .inl rfl, .inl rfl, .inl rfl, .inl rfl, .inl rfl, .inl rfl, True.intro⟩ (Nat.le_refl 15) (Wd.below _) (by rw [show m.get k = some t from hg]; rfl)
    | none =>
      refine optK_intro (lookR_none hg) ?_
      refine Ob.intro (show (0 : Int) ≤ 0 ∧ (0 : Int) < ((6 : Nat) : Int) from ⟨by omega, by omega⟩) ?_
      refine Ob.intro (show (0 : Int) ≤ k ∧ k < ((sec : Nat) : Int) from ⟨h3, h4⟩) ?_
      refine optK_intro (rd_str (R := d) (k := k.toNat) (x := x) rfl (by omega) hx) ?_
      exact endH rfl rfl rfl ⟨.inl rfl, .inl rfl, .inl rfl, .inl rfl, .inl rfl, .inl rfl, .inl rfl, .inl rfl, .inl rfl, .inl rfl, .inl rfl, .inl rfl, .inl rfl, .inl rfl, .inl rfl, True.intro⟩ (Nat.le_refl 15) (Wd.below _) (by rw [show m.get k = none from hg]; rfl)
  · cases hd; cases hm
    refine acalls_of_awp hT mixed Tryd.func27 rfl (by kernel_rfl) (by kernel_rfl) (Nat.le_of_ble_eq_true rfl) ?_
    refine callW (cs := [bo false, i64 (sec : Nat), .slc 1 0 6 1, .slc 2 0 6 1]) (rest := [i64 1, i64 k]) hp rfl rfl rfl ?_
    refine Ob.intro (show (0 : Int) ≤ 1 ∧ (1 : Int) < ((6 : Nat) : Int) from ⟨by omega, by omega⟩) ?_
    cases hg : getE m.L k with
    | some t =>
      refine optK_intro (lookR_some hg) ?_
      exact endH rfl rfl rfl ⟨.inl rfl, .inl rfl, .inl rfl, .inl rfl, .inl rfl, .inl rfl, .inl rfl, .inl rfl, .inl rfl, .inl rfl, .inl rfl, .inl rfl, .inl rfl, .inl rfl, .inl rfl, True.intro⟩ (Nat.le_refl 15) (Wd.below _) (by rw [show m.get k = some t from hg]; rfl)
    | none =>
      refine optK_intro (lookR_none hg) ?_
      refine Ob.intro (show (0 : Int) ≤ 1 ∧ (1 : Int) < ((6 : Nat) : Int) from ⟨by omega, by omega⟩) ?_
      refine Ob.intro (show (0 : Int) ≤ k ∧ k < ((sec : Nat) : Int) from ⟨h3, h4⟩) ?_
      refine optK_intro (rd_str (R := d) (k := k.toNat) (x := x) rfl (by omega) hx) ?_
      exact endH rfl rfl rfl ⟨.inl rfl, .inl rfl, .inl rfl, .inl rfl, .inl rfl, .inl rfl, .inl rfl, .inl rfl, .inl rfl, .inl rfl, .inl rfl, .inl rfl, .inl rfl, .inl rfl, .inl rfl, True.intro⟩ (Nat.le_refl 15) (Wd.below _) (by rw [show m.get k = none from hg]; rfl)
  · cases hd; cases hm
    refine acalls_of_awp hT mixed Tryd.func27 rfl (by kernel_rfl) (by kernel_rfl) (Nat.le_of_ble_eq_true rfl) ?_
    refine callW (cs := [bo false, i64 (sec : Nat), .slc 1 0 6 1, .slc 2 0 6 1]) (rest := [i64 2, i64 k]) hp rfl rfl rfl ?_
    refine Ob.intro (show (0 : Int) ≤ 2 ∧ (2 : Int) < ((6 : Nat) : Int) from ⟨by omega, by omega⟩) ?_
    cases hg : getE m.L k with
    | some t =>
      refine optK_intro (lookR_some hg) ?_
      exact endH rfl rfl rfl ⟨.inl rfl, .inl rfl, .inl rfl, .inl rfl, .inl rfl, .inl rfl, .inl rfl, .inl rfl, .inl rfl, .inl rfl, .inl rfl, .inl rfl, .inl rfl, .inl rfl, .inl rfl, True.intro⟩ (Nat.le_refl 15) (Wd.below _) (by rw [show m.get k = some t from hg]; rfl)
    | none =>
      refine optK_intro (lookR_none hg) ?_
      refine Ob.intro (show (0 : Int) ≤ 2 ∧ (2 : Int) < ((6 : Nat) : Int) from ⟨by omega, by omega⟩) ?_
      refine Ob.intro (show (0 : Int) ≤ k ∧ k < ((sec : Nat) : Int) from ⟨h3, h4⟩) ?_
      refine optK_intro (rd_str (R := d) (k := k.toNat) (x := x) rfl (by omega) hx) ?_
      exact endH rfl rfl rfl ⟨.inl rfl, .inl rfl, .inl rfl, .inl rfl, .inl rfl, .inl rfl, .inl rfl, .inl rfl, .inl rfl, .inl rfl, .inl rfl, .inl rfl, .inl rfl, .inl rfl, .inl rfl, True.intro⟩ (Nat.le_refl 15) (Wd.below _) (by rw [show m.get k = none from hg]; rfl)
  · cases hd; cases hm
    refine acalls_of_awp hT mixed Tryd.func27 rfl (by kernel_rfl) (by kernel_rfl) (Nat.le_of_ble_eq_true rfl) ?_
    refine callW (cs := [bo false, i64 (sec : Nat), .slc 1 0 6 1, .slc 2 0 6 1]) (rest := [i64 3, i64 k]) hp rfl rfl rfl ?_
    refine Ob.intro (show (0 : Int) ≤ 3 ∧ (3 : Int) < ((6 : Nat) : Int) from ⟨by omega, by omega⟩) ?_
    cases hg : getE m.L k with
    | some t =>
      refine optK_intro (lookR_some hg) ?_
      exact endH rfl rfl rfl ⟨.inl rfl, .inl rfl, .inl rfl, .inl rfl, .inl rfl, .inl rfl, .inl rfl, .inl rfl, .inl rfl, .inl rfl, .inl rfl, .inl rfl, .inl rfl, .inl rfl, .inl rfl, True.intro⟩ (Nat.le_refl 15) (Wd.below _) (by rw [show m.get k = some t from hg]; rfl)
    | none =>
      refine optK_intro (lookR_none hg) ?_
      refine Ob.intro (show (0 : Int) ≤ 3 ∧ (3 : Int) < ((6 : Nat) : Int) from ⟨by omega, by omega⟩) ?_
      refine Ob.intro (show (0 : Int) ≤ k ∧ k < ((sec : Nat) : Int) from ⟨h3, h4⟩) ?_
      refine optK_intro (rd_str (R := d) (k := k.toNat) (x := x) rfl (by omega) hx) ?_
      exact endH rfl rfl rfl ⟨.inl rfl, .inl rfl, .inl rfl, .inl rfl, .inl rfl, .inl rfl, .inl rfl, .inl rfl, .inl rfl, .inl rfl, .inl rfl, .inl rfl, .inl rfl, .inl rfl, .inl rfl, True.intro⟩ (Nat.le_refl 15) (Wd.below _) (by rw [show m.get k = none from hg]; rfl)
  · cases hd; cases hm
    refine acalls_of_awp hT mixed Tryd.func27 rfl (by kernel_rfl) (by kernel_rfl) (Nat.le_of_ble_eq_true rfl) ?_
    refine callW (cs := [bo false, i64 (sec : Nat), .slc 1 0 6 1, .slc 2 0 6 1]) (rest := [i64 4, i64 k]) hp rfl rfl rfl ?_
    refine Ob.intro (show (0 : Int) ≤ 4 ∧ (4 : Int) < ((6 : Nat) : Int) from ⟨by omega, by omega⟩) ?_
    cases hg : getE m.L k with
    | some t =>
      refine optK_intro (lookR_some hg) ?_
      exact endH rfl rfl rfl ⟨.inl rfl, .inl rfl, .inl rfl, .inl rfl, .inl rfl, .inl rfl, .inl rfl, .inl rfl, .inl rfl, .inl rfl, .inl rfl, .inl rfl, .inl rfl, .inl rfl, .inl rfl, True.intro⟩ (Nat.le_refl 15) (Wd.below _) (by rw [show m.get k = some t from hg]; rfl)
    | none =>
      refine optK_intro (lookR_none hg) ?_
      refine Ob.intro (show (0 : Int) ≤ 4 ∧ (4 : Int) < ((6 : Nat) : Int) from ⟨by omega, by omega⟩) ?_
      refine Ob.intro (show (0 : Int) ≤ k ∧ k < ((sec : Nat) : Int) from ⟨h3, h4⟩) ?_
      refine optK_intro (rd_str (R := d) (k := k.toNat) (x := x) rfl (by omega) hx) ?_
      exact endH rfl rfl rfl ⟨.inl rfl, .inl rfl, .inl rfl, .inl rfl, .inl rfl, .inl rfl, .inl rfl, .inl rfl, .inl rfl, .inl rfl, .inl rfl, .inl rfl, .inl rfl, .inl rfl, .inl rfl, True.intro⟩ (Nat.le_refl 15) (Wd.below _) (by rw [show m.get k = none from hg]; rfl)
  · cases hd; cases hm
    refine acalls_of_awp hT mixed Tryd.func27 rfl (by kernel_rfl) (by kernel_rfl) (Nat.le_of_ble_eq_true rfl) ?_
    refine callW (cs := [bo false, i64 (sec : Nat), .slc 1 0 6 1, .slc 2 0 6 1]) (rest := [i64 5, i64 k]) hp rfl rfl rfl ?_
    refine Ob.intro (show (0 : Int) ≤ 5 ∧ (5 : Int) < ((6 : Nat) : Int) from ⟨by omega, by omega⟩) ?_
    cases hg : getE m.L k with
    | some t =>
      refine optK_intro (lookR_some hg) ?_
      exact endH rfl rfl rfl ⟨.inl rfl, .inl rfl, .inl rfl, .inl rfl, .inl rfl, .inl rfl, .inl rfl, .inl rfl, .inl rfl, .inl rfl, .inl rfl, .inl rfl, .inl rfl, .inl rfl, .inl rfl, True.intro⟩ (Nat.le_refl 15) (Wd.below _) (by rw [show m.get k = some t from hg]; rfl)
    | none =>
      refine optK_intro (lookR_none hg) ?_
      refine Ob.intro (show (0 : Int) ≤ 5 ∧ (5 : Int) < ((6 : Nat) : Int) from ⟨by omega, by omega⟩) ?_
      refine Ob.intro (show (0 : Int) ≤ k ∧ k < ((sec : Nat) : Int) from ⟨h3, h4⟩) ?_
      refine optK_intro (rd_str (R := d) (k := k.toNat) (x := x) rfl (by omega) hx) ?_
      exact endH rfl rfl rfl ⟨.inl rfl, .inl rfl, .inl rfl, .inl rfl, .inl rfl, .inl rfl, .inl rfl, .inl rfl, .inl rfl, .inl rfl, .inl rfl, .inl rfl, .inl rfl, .inl rfl, .inl rfl, True.intro⟩ (Nat.le_refl 15) (Wd.below _) (by rw [show m.get k = none from hg]; rfl)
theorem read_7 (sec : Nat) (D : List (List ByteArray)) (M : List Mp) (hD : D.length = 7) (hM : M.length = 7) (e k : Int) (d : List ByteArray) (m : Mp) (hd : D[e.toNat]? = some d) (hm : M[e.toNat]? = some m) (x : ByteArray) (hx : d[k.toNat]? = some x) (hin : inS sec 7 e k) :
    ACalls Tryd.prog 27 [.ptr 0 0, i64 e, i64 k] (Wd.mk false sec D M).H (RetH (.tup [str ((m.get k).getD x), i64 0]) (Wd.mk false sec D M).H) := by
  match D, hD, M, hM with
  | [d0, d1, d2, d3, d4, d5, d6], _, [m0, m1, m2, m3, m4, m5, m6], _ =>
  have hp := power_ok false (sec : Nat) 7 e k
  rw [if_neg (by decide), if_pos hin] at hp
  obtain ⟨⟨h1, h2⟩, h3, h4⟩ := hin
  have he : e = 0 ∨ e = 1 ∨ e = 2 ∨ e = 3 ∨ e = 4 ∨ e = 5 ∨ e = 6 := by omega
  rcases he with rfl | rfl | rfl | rfl | rfl | rfl | rfl
  · cases hd; cases hm
    refine acalls_of_awp hT mixed Tryd.func27 rfl (by kernel_rfl) (by kernel_rfl) (Nat.le_of_ble_eq_true rfl) ?_
    refine callW (cs := [bo false, i64 (sec : Nat), .slc 1 0 7 1, .slc 2 0 7 1]) (rest := [i64 0, i64 k]) hp rfl rfl rfl ?_
    refine Ob.intro (show (0 : Int) ≤ 0 ∧ (0 : Int) < ((7 : Nat) : Int) from ⟨by omega, by omega⟩) ?_
    cases hg : getE m.L k with
    | some t =>
      refine optK_intro (lookR_some hg) ?_
      exact endH rfl rfl rfl ⟨.inl rfl, .inl rfl, .inl rfl, .inl rfl, .inl rfl, .inl rfl, .inl rfl, .inl rfl, .inl rfl, .inl rfl, .inl rfl, .inl rfl, .inl rfl, .inl rfl, .inl rfl, .inl rfl, .inl rfl, True.intro⟩ (Nat.le_refl 17) (Wd.below _) (by rw [show m.get k = some t from hg]; rfl)
    | none =>
      refine optK_intro (lookR_none hg) ?_
      refine Ob.intro (show (0 : Int) ≤ 0 ∧ (0 : Int) < ((7 : Nat) : Int) from ⟨by omega, by omega⟩) ?_
      refine Ob.intro (show (0 : Int) ≤ k ∧ k < ((sec : Nat) : Int) from ⟨h3, h4⟩) ?_
      refine optK_intro (rd_str (R := d) (k := k.toNat) (x := x) rfl (by omega) hx) ?_
      exact endH rfl rfl rfl ⟨.inl rfl, .inl rfl, .inl rfl, .inl rfl, .inl rfl, .inl rfl, .inl rfl, .inl rfl, .inl rfl, .inl rfl, .inl rfl, .inl rfl, .inl rfl, .inl rfl, .inl rfl, .inl rfl, .inl rfl, True.intro⟩ (Nat.le_refl 17) (Wd.below _) (by rw [show m.get k = none from hg]; rfl)
  · cases hd; cases hm
    refine acalls_of_awp hT mixed Tryd.func27 rfl (by kernel_rfl) (by kernel_rfl) (Nat.le_of_ble_eq_true rfl) ?_
    refine callW (cs := [bo false, i64 (sec : Nat), .slc 1 0 7 1, .slc 2 0 7 1]) (rest := [i64 1, i64 k]) hp rfl rfl rfl ?_
    refine Ob.intro (show (0 : Int) ≤ 1 ∧ (1 : Int) < ((7 : Nat) : Int) from ⟨by omega, by omega⟩) ?_
    cases hg : getE m.L k with
    | some t =>
      refine optK_intro (lookR_some hg) ?_
      exact endH rfl rfl rfl ⟨.inl rfl, .inl rfl, .inl rfl, .inl rfl, .inl rfl, .inl rfl, .inl rfl, .inl rfl, .inl rfl, .inl rfl, .inl rfl, .inl rfl, .inl rfl, .inl rfl, .inl rfl, .inl rfl, .inl rfl, True.intro⟩ (Nat.le_refl 17) (Wd.below _) (by rw [show m.get k = some t from hg]; rfl)
    | none =>
      refine optK_intro (lookR_none hg) ?_
      refine Ob.intro (show (0 : Int) ≤ 1 ∧ (1 : Int) < ((7 : Nat) : Int) from ⟨by omega, by omega⟩) ?_
      refine Ob.intro (show (0 : Int) ≤ k ∧ k < ((sec : Nat) : Int) from ⟨h3, h4⟩) ?_
      refine optK_intro (rd_str (R := d) (k := k.toNat) (x := x) rfl (by omega) hx) ?_
      exact endH rfl rfl rfl ⟨.inl rfl, .inl rfl, .inl rfl, .inl rfl, .inl rfl, .inl rfl, .inl rfl, .inl rfl, .inl rfl, .inl rfl, .inl rfl, .inl rfl, .inl rfl, .inl rfl, .inl rfl, .inl rfl, .inl rfl, True.intro⟩ (Nat.le_refl 17) (Wd.below _) (by rw [show m.get k = none from hg]; rfl)
  · cases hd; cases hm
    refine acalls_of_awp hT mixed Tryd.func27 rfl (by kernel_rfl) (by kernel_rfl) (Nat.le_of_ble_eq_true rfl) ?_
    refine callW (cs := [bo false, i64 (sec : Nat), .slc 1 0 7 1, .slc 2 0 7 1]) (rest := [i64 2, i64 k]) hp rfl rfl rfl ?_
    refine Ob.intro (show (0 : Int) ≤ 2 ∧ (2 : Int) < ((7 : Nat) : Int) from ⟨by omega, by omega⟩) ?_
    cases hg : getE m.L k with
    | some t =>
      refine optK_intro (lookR_some hg) ?_
      exact endH rfl rfl rfl ⟨.inl rfl, .inl rfl, .inl rfl, .inl rfl, .inl rfl, .inl rfl, .inl rfl, .inl rfl, .inl rfl, .inl rfl, .inl rfl, .inl rfl, .inl rfl, .inl rfl, .inl rfl, .inl rfl, .inl rfl, True.intro⟩ (Nat.le_refl 17) (Wd.below _) (by rw [show m.get k = some t from hg]; rfl)
    | none =>
      refine optK_intro (lookR_none hg) ?_
      refine Ob.intro (show (0 : Int) ≤ 2 ∧ (2 : Int) < ((7 : Nat) : Int) from ⟨by omega, by omega⟩) ?_
      refine Ob.intro (show (0 : Int) ≤ k ∧ k < ((sec : Nat) : Int) from ⟨h3, h4⟩) ?_
      refine optK_intro (rd_str (R := d) (k := k.toNat) (x := x) rfl (by omega) hx) ?_
      exact endH rfl rfl rfl ⟨.inl rfl, .inl rfl, .inl rfl, .inl rfl, .inl rfl, .inl rfl, .inl rfl, .inl rfl, .inl rfl, .inl rfl, .inl rfl, .inl rfl, .inl rfl, .inl rfl, .inl rfl, .inl rfl, .inl rfl, True.intro⟩ (Nat.le_refl 17) (Wd.below _) (by rw [show m.get k = none from hg]; rfl)
  · cases hd; cases hm
    refine acalls_of_awp hT mixed Tryd.func27 rfl (by kernel_rfl) (by kernel_rfl) (Nat.le_of_ble_eq_true rfl) ?_
    refine callW (cs := [bo false, i64 (sec : Nat), .slc 1 0 7 1, .slc 2 0 7 1]) (rest := [i64 3, i64 k]) hp rfl rfl rfl ?_
    refine Ob.intro (show (0 : Int) ≤ 3 ∧ (3 : Int) < ((7 : Nat) : Int) from ⟨by omega, by omega⟩) ?_
    cases hg : getE m.L k with
    | some t =>
      refine optK_intro (lookR_some hg) ?_
      exact endH rfl rfl rfl ⟨.inl rfl, .inl rfl, .inl rfl, .inl rfl, .inl rfl, .inl rfl, .inl rfl, .inl rfl, .inl rfl, .inl rfl, .inl rfl, .inl rfl, .inl rfl, .inl rfl, .inl rfl, .inl rfl, .inl rfl, True.intro⟩ (Nat.le_refl 17) (Wd.below _) (by rw [show m.get k = some t from hg]; rfl)
    | none =>
      refine optK_intro (lookR_none hg) ?_
      refine Ob.intro (show (0 : Int) ≤ 3 ∧ (3 : Int) < ((7 : Nat) : Int) from ⟨by omega, by omega⟩) ?_
      refine Ob.intro (show (0 : Int) ≤ k ∧ k < ((sec : Nat) : Int) from ⟨h3, h4⟩) ?_
      refine optK_intro (rd_str (R := d) (k := k.toNat) (x := x) rfl (by omega) hx) ?_
      exact endH rfl rfl rfl ⟨.inl rfl, .inl rfl, .inl rfl, .inl rfl, .inl rfl, .inl rfl, .inl rfl, .inl rfl, .inl rfl, .inl rfl, .inl rfl, .inl rfl, .inl rfl, .inl rfl, .inl rfl, .inl rfl, .inl rfl, True.intro⟩ (Nat.le_refl 17) (Wd.below _) (by rw [show m.get k = none from hg]; rfl)
  · cases hd; cases hm
    refine acalls_of_awp hT mixed Tryd.func27 rfl (by kernel_rfl) (by kernel_rfl) (Nat.le_of_ble_eq_true rfl) ?_
    refine callW (cs := [bo false, i64 (sec : Nat), .slc 1 0 7 1, .slc 2 0 7 1]) (rest := [i64 4, i64 k]) hp rfl rfl rfl ?_
    refine Ob.intro (show (0 : Int) ≤ 4 ∧ (4 : Int) < ((7 : Nat) : Int) from ⟨by omega, by omega⟩) ?_
    cases hg : getE m.L k with
    | some t =>
      refine optK_intro (lookR_some hg) ?_
      exact endH rfl rfl rfl ⟨.inl rfl, .inl rfl, .inl rfl, .inl rfl, .inl rfl, .inl rfl, .inl rfl, .inl rfl, .inl rfl, .inl rfl, .inl rfl, .inl rfl, .inl rfl, .inl rfl, .inl rfl, .inl rfl, .inl rfl, True.intro⟩ (Nat.le_refl 17) (Wd.below _) (by rw [show m.get k = some t from hg]; rfl)
    | none =>
      refine optK_intro (lookR_none hg) ?_
      refine Ob.intro (show (0 : Int) ≤ 4 ∧ (4 : Int) < ((7 : Nat) : Int) from ⟨by omega, by omega⟩) ?_
      refine Ob.intro (show (0 : Int) ≤ k ∧ k < ((sec : Nat) : Int) from ⟨h3, h4⟩) ?_
      refine optK_intro (rd_str (R := d) (k := k.toNat) (x := x) rfl (by omega) hx) ?_
      exact endH rfl rfl rfl ⟨.inl rfl, .inl rfl, .inl rfl, .inl rfl, .inl rfl, .inl rfl, .inl rfl, .inl rfl, .inl rfl, .inl rfl, .inl rfl, .inl rfl, .inl rfl, .inl rfl, .inl rfl, .inl rfl, .inl rfl, True.intro⟩ (Nat.le_refl 17) (Wd.below _) (by rw [show m.get k = none from hg]; rfl)
  · cases hd; cases hm
    refine acalls_of_awp hT mixed Tryd.func27 rfl (by kernel_rfl) (by kernel_rfl) (Nat.le_of_ble_eq_true rfl) ?_
    refine callW (cs := [bo false, i64 (sec : Nat), .slc 1 0 7 1, .slc 2 0 7 1]) (rest := [i64 5, i64 k]) hp rfl rfl rfl ?_
    refine Ob.intro (show (0 : Int) ≤ 5 ∧ (5 : Int) < ((7 : Nat) : Int) from ⟨by omega, by omega⟩) ?_
    cases hg : getE m.L k with
    | some t =>
      refine optK_intro (lookR_some hg) ?_
      exact endH rfl rfl rfl ⟨.inl rfl, .inl rfl, .inl rfl, .inl rfl, .inl rfl, .inl rfl, .inl rfl, .inl rfl, .inl rfl, .inl rfl, .inl rfl, .inl rfl, .inl rfl, .inl rfl, .inl rfl, .inl rfl, .inl rfl, True.intro⟩ (Nat.le_refl 17) (Wd.below _) (by rw [show m.get k = some t from hg]; rfl)
    | none =>
      refine optK_intro (lookR_none hg) ?_
      refine Ob.intro (show (0 : Int) ≤ 5 ∧ (5 : Int) < ((7 : Nat) : Int) from ⟨by omega, by omega⟩) ?_
      refine Ob.intro (show (0 : Int) ≤ k ∧ k < ((sec : Nat) : Int) from ⟨h3, h4⟩) ?_
      refine optK_intro (rd_str (R := d) (k := k.toNat) (x := x) rfl (by omega) hx) ?_
      exact endH rfl rfl rfl ⟨.inl rfl, .inl rfl, .inl rfl, .inl rfl, .inl rfl, .inl rfl, .inl rfl, .inl rfl, .inl rfl, .inl rfl, .inl rfl, .inl rfl, .inl rfl, .inl rfl, .inl rfl, .inl rfl, .inl rfl, True.intro⟩ (Nat.le_refl 17) (Wd.below _) (by rw [show m.get k = none from hg]; rfl)
  · cases hd; cases hm
    refine acalls_of_awp hT mixed Tryd.func27 rfl (by kernel_rfl) (by kernel_rfl) (Nat.le_of_ble_eq_true rfl) ?_
    refine callW (cs := [bo false, i64 (sec : Nat), .slc 1 0 7 1, .slc 2 0 7 1]) (rest := [i64 6, i64 k]) hp rfl rfl rfl ?_
    refine Ob.intro (show (0 : Int) ≤ 6 ∧ (6 : Int) < ((7 : Nat) : Int) from ⟨by omega, by omega⟩) ?_
    cases hg : getE m.L k with
    | some t =>
      refine optK_intro (lookR_some hg) ?_
      exact endH rfl rfl rfl ⟨.inl rfl, .inl rfl, .inl rfl, .inl rfl, .inl rfl, .inl rfl, .inl rfl, .inl rfl, .inl rfl, .inl rfl, .inl rfl, .inl rfl, .inl rfl, .inl rfl, .inl rfl, .inl rfl, .inl rfl, True.intro⟩ (Nat.le_refl 17) (Wd.below _) (by rw [show m.get k = some t from hg]; rfl)
    | none =>
      refine optK_intro (lookR_none hg) ?_
      refine Ob.intro (show (0 : Int) ≤ 6 ∧ (6 : Int) < ((7 : Nat) : Int) from ⟨by omega, by omega⟩) ?_
      refine Ob.intro (show (0 : Int) ≤ k ∧ k < ((sec : Nat) : Int) from ⟨h3, h4⟩) ?_
      refine optK_intro (rd_str (R := d) (k := k.toNat) (x := x) rfl (by omega) hx) ?_
      exact endH rfl rfl rfl ⟨.inl rfl, .inl rfl, .inl rfl, .inl rfl, .inl rfl, .inl rfl, .inl rfl, .inl rfl, .inl rfl, .inl rfl, .inl rfl, .inl rfl, .inl rfl, .inl rfl, .inl rfl, .inl rfl, .inl rfl, True.intro⟩ (Nat.le_refl 17) (Wd.below _) (by rw [show m.get k = none from hg]; rfl)
theorem read_8 (sec : Nat) (D : List (List ByteArray)) (M : List Mp) (hD : D.length = 8) (hM : M.length = 8) (e k : Int) (d : List ByteArray) (m : Mp) (hd : D[e.toNat]? = some d) (hm : M[e.toNat]? = some m) (x : ByteArray) (hx : d[k.toNat]? = some x) (hin : inS sec 8 e k) :
    ACalls Tryd.prog 27 [.ptr 0 0, i64 e, i64 k] (Wd.mk false sec D M).H (RetH (.tup [str ((m.get k).getD x), i64 0]) (Wd.mk false sec D M).H) := by
  match D, hD, M, hM with
  | [d0, d1, d2, d3, d4, d5, d6, d7], _, [m0, m1, m2, m3, m4, m5, m6, m7], _ =>
  have hp := power_ok false (sec : Nat) 8 e k
  rw [if_neg (by decide), if_pos hin] at hp
  obtain ⟨⟨h1, h2⟩, h3, h4⟩ := hin
  have he : e = 0 ∨ e = 1 ∨ e = 2 ∨ e = 3 ∨ e = 4 ∨ e = 5 ∨ e = 6 ∨ e = 7 := by omega
  rcases he with rfl | rfl | rfl | rfl | rfl | rfl | rfl | rfl
  · cases hd; cases hm
    refine acalls_of_awp hT mixed Tryd.func27 rfl (by kernel_rfl) (by kernel_rfl) (Nat.le_of_ble_eq_true rfl) ?_
    refine callW (cs := [bo false, i64 (sec : Nat), .slc 1 0 8 1, .slc 2 0 8 1]) (rest := [i64 0, i64 k]) hp rfl rfl rfl ?_
    refine Ob.intro (show (0 : Int) ≤ 0 ∧ (0 : Int) < ((8 : Nat) : Int) from ⟨by omega, by omega⟩) ?_
    cases hg : getE m.L k with
    | some t =>
      refine optK_intro (lookR_some hg) ?_
      exact endH rfl rfl rfl ⟨.inl rfl, .inl rfl, .inl rfl, .inl rfl, .inl rfl, .inl rfl, .inl rfl, .inl rfl, .inl rfl, .inl rfl, .inl rfl, .inl rfl, .inl rfl, .inl rfl, .inl rfl, .inl rfl, .inl rfl, .inl rfl, .inl rfl, True.intro⟩ (Nat.le_refl 19) (Wd.below _) (by rw [show m.get k = some t from hg]; rfl)
    | none =>
      refine optK_intro (lookR_none hg) ?_
      refine Ob.intro (show (0 : Int) ≤ 0 ∧ (0 : Int) < ((8 : Nat) : Int) from ⟨by omega, by omega⟩) ?_
      refine Ob.intro (show (0 : Int) ≤ k ∧ k < ((sec : Nat) : Int) from ⟨h3, h4⟩) ?_
      refine optK_intro (rd_str (R := d) (k := k.toNat) (x := x) rfl (by omega) hx) ?_
      exact endH rfl rfl rfl ⟨.inl rfl, .inl rfl, .inl rfl, .inl rfl, .inl rfl, .inl rfl, .inl rfl, .inl rfl, .inl rfl, .inl rfl, .inl rfl, .inl rfl, .inl rfl, .inl rfl, .inl rfl, .inl rfl, .inl rfl, .inl rfl, .inl rfl, True.intro⟩ (Nat.le_refl 19) (Wd.below _) (by rw [show m.get k = none from hg]; rfl)
  · cases hd; cases hm
    refine acalls_of_awp hT mixed Tryd.func27 rfl (by kernel_rfl) (by kernel_rfl) (Nat.le_of_ble_eq_true rfl) ?_
    refine callW (cs := [bo false, i64 (sec : Nat), .slc 1 0 8 1, .slc 2 0 8 1]) (rest := [i64 1, i64 k]) hp rfl rfl rfl ?_
    refine Ob.intro (show (0 : Int) ≤ 1 ∧ (1 : Int) < ((8 : Nat) : Int) from ⟨by omega, by omega⟩) ?_
    cases hg : getE m.L k with
    | some t =>
      refine optK_intro (lookR_some hg) ?_
      exact endH rfl rfl rfl ⟨.inl rfl, .inl rfl, .inl rfl, .inl rfl, .inl rfl, .inl rfl, .inl rfl, .inl rfl, .inl rfl, .inl rfl, .inl rfl, .inl rfl, .inl rfl, .inl rfl, .inl rfl, .inl rfl, .inl rfl, .inl rfl, .inl rfl, True.intro⟩ (Nat.le_refl 19) (Wd.below _) (by rw [show m.get k = some t from hg]; rfl)
    | none =>
      refine optK_intro (lookR_none hg) ?_
      refine Ob.intro (show (0 : Int) ≤ 1 ∧ (1 : Int) < ((8 : Nat) : Int) from ⟨by omega, by omega⟩) ?_
      refine Ob.intro (show (0 : Int) ≤ k ∧ k < ((sec : Nat) : Int) from ⟨h3, h4⟩) ?_
      refine optK_intro (rd_str (R := d) (k := k.toNat) (x := x) rfl (by omega) hx) ?_
      exact endH rfl rfl rfl ⟨.inl rfl, .inl rfl, .inl rfl, .inl rfl, .inl rfl, .inl rfl, .inl rfl, .inl rfl, .inl rfl, .inl rfl, .inl rfl, .inl rfl, .inl rfl, .inl rfl, .inl rfl, .inl rfl, .inl rfl, .inl rfl, .inl rfl, True.intro⟩ (Nat.le_refl 19) (Wd.below _) (by rw [show m.get k = none from hg]; rfl)
  · cases hd; cases hm
    refine acalls_of_awp hT mixed Tryd.func27 rfl (by kernel_rfl) (by kernel_rfl) (Nat.le_of_ble_eq_true rfl) ?_
    refine callW (cs := [bo false, i64 (sec : Nat), .slc 1 0 8 1, .slc 2 0 8 1]) (rest := [i64 2, i64 k]) hp rfl rfl rfl ?_
    refine Ob.intro (show (0 : Int) ≤ 2 ∧ (2 : Int) < ((8 : Nat) : Int) from ⟨by omega, by omega⟩) ?_
    cases hg : getE m.L k with
    | some t =>
      refine optK_intro (lookR_some hg) ?_
      exact endH rfl rfl rfl ⟨.inl rfl, .inl rfl, .inl rfl, .inl rfl, .inl rfl, .inl rfl, .inl rfl, .inl rfl, .inl rfl, .inl rfl, .inl rfl, .inl rfl, .inl rfl, .inl rfl, .inl rfl, .inl rfl, .inl rfl, .inl rfl, .inl rfl, True.intro⟩ (Nat.le_refl 19) (Wd.below _) (by rw [show m.get k = some t from hg]; rfl)
    | none =>
      refine optK_intro (lookR_none hg) ?_
      refine Ob.intro (show (0 : Int) ≤ 2 ∧ (2 : Int) < ((8 : Nat) : Int) from ⟨by omega, by omega⟩) ?_
      refine Ob.intro (show (0 : Int) ≤ k ∧ k < ((sec : Nat) : Int) from ⟨h3, h4⟩) ?_
      refine optK_intro (rd_str (R := d) (k := k.toNat) (x := x) rfl (by omega) hx) ?_
      exact endH rfl rfl rfl ⟨.inl rfl, .inl rfl, .inl rfl, .inl rfl, .inl rfl, .inl rfl, .inl rfl, .inl rfl, .inl rfl, .inl rfl, .inl rfl, .inl rfl, .inl rfl, .inl rfl, .inl rfl, .inl rfl, .inl rfl, .inl rfl, .inl rfl, True.intro⟩ (Nat.le_refl 19) (Wd.below _) (by rw [show m.get k = none from hg]; rfl)
  · cases hd; cases hm
    refine acalls_of_awp hT mixed Tryd.func27 rfl (by kernel_rfl) (by kernel_rfl) (Nat.le_of_ble_eq_true rfl) ?_
    refine callW (cs := [bo false, i64 (sec : Nat), .slc 1 0 8 1, .slc 2 0 8 1]) (rest := [i64 3, i64 k]) hp rfl rfl rfl ?_
    refine Ob.intro (show (0 : Int) ≤ 3 ∧ (3 : Int) < ((8 : Nat) : Int) from ⟨by omega, by omega⟩) ?_
    cases hg : getE m.L k with
    | some t =>
      refine optK_intro (lookR_some hg) ?_
      exact endH rfl rfl rfl ⟨.inl rfl, .inl rfl, .inl rfl, .inl rfl, .inl rfl, .inl rfl, .inl rfl, .inl rfl, .inl rfl, .inl rfl, .inl rfl, .inl rfl, .inl rfl, .inl rfl, .inl rfl, .inl rfl, .inl rfl, .inl rfl, .inl rfl, True.intro⟩ (Nat.le_refl 19) (Wd.below _) (by rw [show m.get k = some t from hg]; rfl)
    | none =>
      refine optK_intro (lookR_none hg) ?_
      refine Ob.intro (show (0 : Int) ≤ 3 ∧ (3 : Int) < ((8 : Nat) : Int) from ⟨by omega, by omega⟩) ?_
      refine Ob.intro (show (0 : Int) ≤ k ∧ k < ((sec : Nat) : Int) from ⟨h3, h4⟩) ?_
      refine optK_intro (rd_str (R := d) (k := k.toNat) (x := x) rfl (by omega) hx) ?_
      exact endH rfl rfl rfl ⟨.inl rfl, .inl rfl, .inl rfl, .inl rfl, .inl rfl, .inl rfl, .inl rfl, .inl rfl, .inl rfl, .inl rfl, .inl rfl, .inl rfl, .inl rfl, .inl rfl, .inl rfl, .inl rfl, .inl rfl, .inl rfl, .inl rfl, True.intro⟩ (Nat.le_refl 19) (Wd.below _) (by rw [show m.get k = none from hg]; rfl)
  · cases hd; cases hm
    refine acalls_of_awp hT mixed Tryd.func27 rfl (by kernel_rfl) (by kernel_rfl) (Nat.le_of_ble_eq_true rfl) ?_
    refine callW (cs := [bo false, i64 (sec : Nat), .slc 1 0 8 1, .slc 2 0 8 1]) (rest := [i64 4, i64 k]) hp rfl rfl rfl ?_
    refine Ob.intro (show (0 : Int) ≤ 4 ∧ (4 : Int) < ((8 : Nat) : Int) from ⟨by omega, by omega⟩) ?_
    cases hg : getE m.L k with
    | some t =>
      refine optK_intro (lookR_some hg) ?_
      exact endH rfl rfl rfl ⟨.inl rfl, .inl rfl, .inl rfl, .inl rfl, .inl rfl, .inl rfl, .inl rfl, .inl rfl, .inl rfl, .inl rfl, .inl rfl, .inl rfl, .inl rfl, .inl rfl, .inl rfl, .inl rfl, .inl rfl, .inl rfl, .inl rfl, True.intro⟩ (Nat.le_refl 19) (Wd.below _) (by rw [show m.get k = some t from hg]; rfl)
    | none =>
      refine optK_intro (lookR_none hg) ?_
      refine Ob.intro (show (0 : Int) ≤ 4 ∧ (4 : Int) < ((8 : Nat) : Int) from ⟨by omega, by omega⟩) ?_
      refine Ob.intro (show (0 : Int) ≤ k ∧ k < ((sec : Nat) : Int) from ⟨h3, h4⟩) ?_
      refine optK_intro (rd_str (R := d) (k := k.toNat) (x := x) rfl (by omega) hx) ?_
      exact endH rfl rfl rfl ⟨.inl rfl, .inl rfl, .inl rfl, .inl rfl, .inl rfl, .inl rfl, .inl rfl, .inl rfl, .inl rfl, .inl rfl, .inl rfl, .inl rfl, .inl rfl, .inl rfl, .inl rfl, .inl rfl, .inl rfl, .inl rfl, .inl rfl, True.intro⟩ (Nat.le_refl 19) (Wd.below _) (by rw [show m.get k = none from hg]; rfl)
  · cases hd; cases hm
    refine acalls_of_awp hT mixed Tryd.func27 rfl (by kernel_rfl) (by kernel_rfl) (Nat.le_of_ble_eq_true rfl) ?_
    refine callW (cs := [bo false, i64 (sec : Nat), .slc 1 0 8 1, .slc 2 0 8 1]) (rest := [i64 5, i64 k]) hp rfl rfl rfl ?_
    refine Ob.intro (show (0 : Int) ≤ 5 ∧ (5 : Int) < ((8 : Nat) : Int) from ⟨by omega, by omega⟩) ?_
    cases hg : getE m.L k with
    | some t =>
      refine optK_intro (lookR_some hg) ?_
      exact endH rfl rfl rfl ⟨.inl rfl, .inl rfl, .inl rfl, .inl rfl, .inl rfl, .inl rfl, .inl rfl, .inl rfl, .inl rfl, .inl rfl, .inl rfl, .inl rfl, .inl rfl, .inl rfl, .inl rfl, .inl rfl, .inl rfl, .inl rfl, .inl rfl, True.intro⟩ (Nat.le_refl 19) (Wd.below _) (by rw [show m.get k = some t from hg]; rfl)
    | none =>
      refine optK_intro (lookR_none hg) ?_
      refine Ob.intro (show (0 : Int) ≤ 5 ∧ (5 : Int) < ((8 : Nat) : Int) from ⟨by omega, by omega⟩) ?_
      refine Ob.intro (show (0 : Int) ≤ k ∧ k < ((sec : Nat) : Int) from ⟨h3, h4⟩) ?_
      refine optK_intro (rd_str (R := d) (k := k.toNat) (x := x) rfl (by omega) hx) ?_
      exact endH rfl rfl rfl ⟨.inl rfl, .inl rfl, .inl rfl, .inl rfl, .inl rfl, .inl rfl, .inl rfl, .inl rfl, .inl rfl, .inl rfl, .inl rfl, .inl rfl, .inl rfl, .inl rfl, .inl rfl, .inl rfl, .inl rfl, .inl rfl, .inl rfl, True.intro⟩ (Nat.le_refl 19) (Wd.below _) (by rw [show m.get k = none from hg]; rfl)
  · cases hd; cases hm
    refine acalls_of_awp hT mixed Tryd.func27 rfl (by kernel_rfl) (by kernel_rfl) (Nat.le_of_ble_eq_true rfl) ?_
    refine callW (cs := [bo false, i64 (sec : Nat), .slc 1 0 8 1, .slc 2 0 8 1]) (rest := [i64 6, i64 k]) hp rfl rfl rfl ?_
    refine Ob.intro (show (0 : Int) ≤ 6 ∧ (6 : Int) < ((8 : Nat) : Int) from ⟨by omega, by omega⟩) ?_
    cases hg : getE m.L k with
    | some t =>
      refine optK_intro (lookR_some hg) ?_
      exact endH rfl rfl rfl ⟨.inl rfl, .inl rfl, .inl rfl, .inl rfl, .inl rfl, .inl rfl, .inl rfl, .inl rfl, .inl rfl, .inl rfl, .inl rfl, .inl rfl, .inl rfl, .inl rfl, .inl rfl, .inl rfl, .inl rfl, .inl rfl, .inl rfl, True.intro⟩ (Nat.le_refl 19) (Wd.below _) (by rw [show m.get k = some t from hg]; rfl)
    | none =>
      refine optK_intro (lookR_none hg) ?_
      refine Ob.intro (show (0 : Int) ≤ 6 ∧ (6 : Int) < ((8 : Nat) : Int) from ⟨by omega, by omega⟩) ?_
      refine Ob.intro (show (0 : Int) ≤ k ∧ k < ((sec : Nat) : Int) from ⟨h3, h4⟩) ?_
      refine optK_intro (rd_str (R := d) (k := k.toNat) (x := x) rfl (by omega) hx) ?_
      exact endH rfl rfl rfl ⟨.inl rfl, .inl rfl, .inl rfl, .inl rfl, .inl rfl, .inl rfl, .inl rfl, .inl rfl, .inl rfl, .inl rfl, .inl rfl, .inl rfl, .inl rfl, .inl rfl, .inl rfl, .inl rfl, .inl rfl, .inl rfl, .inl rfl, True.intro⟩ (Nat.le_refl 19) (Wd.below _) (by rw [show m.get k = none from hg]; rfl)
  · cases hd; cases hm
    refine acalls_of_awp hT mixed Tryd.func27 rfl (by kernel_rfl) (by kernel_rfl) (Nat.le_of_ble_eq_true rfl) ?_
    refine callW (cs := [bo false, i64 (sec : Nat), .slc 1 0 8 1, .slc 2 0 8 1]) (rest := [i64 7, i64 k]) hp rfl rfl rfl ?_
    refine Ob.intro (show (0 : Int) ≤ 7 ∧ (7 : Int) < ((8 : Nat) : Int) from ⟨by omega, by omega⟩) ?_
    cases hg : getE m.L k with
    | some t =>
      refine optK_intro (lookR_some hg) ?_
      exact endH rfl rfl rfl ⟨.inl rfl, .inl rfl, .inl rfl, .inl rfl, .inl rfl, .inl rfl, .inl rfl, .inl rfl, .inl rfl, .inl rfl, .inl rfl, .inl rfl, .inl rfl, .inl rfl, .inl rfl, .inl rfl, .inl rfl, .inl rfl, .inl rfl, True.intro⟩ (Nat.le_refl 19) (Wd.below _) (by rw [show m.get k = some t from hg]; rfl)
    | none =>
      refine optK_intro (lookR_none hg) ?_
      refine Ob.intro (show (0 : Int) ≤ 7 ∧ (7 : Int) < ((8 : Nat) : Int) from ⟨by omega, by omega⟩) ?_
      refine Ob.intro (show (0 : Int) ≤ k ∧ k < ((sec : Nat) : Int) from ⟨h3, h4⟩) ?_
      refine optK_intro (rd_str (R := d) (k := k.toNat) (x := x) rfl (by omega) hx) ?_
      exact endH rfl rfl rfl ⟨.inl rfl, .inl rfl, .inl rfl, .inl rfl, .inl rfl, .inl rfl, .inl rfl, .inl rfl, .inl rfl, .inl rfl, .inl rfl, .inl rfl, .inl rfl, .inl rfl, .inl rfl, .inl rfl, .inl rfl, .inl rfl, .inl rfl, True.intro⟩ (Nat.le_refl 19) (Wd.below _) (by rw [show m.get k = none from hg]; rfl)
end Go.Proofs.YthbncljlclcecaaDoor.A
