/- extent: Wet (printed by genexw.py). No condition. -/
import Derived.Test.YtpkbdlocmjgmbaaXk
namespace Go.Proofs.Ytpkbdlocmjgmbaa.A
open Go
set_option linter.unusedVariables false
set_option linter.unusedSimpArgs false
set_option maxRecDepth 100000
set_option pp.maxSteps 600
theorem renM_ent (r : Nat → Nat) : ∀ L : List En, renM r (L.map ent) = L.map ent
  | [] => rfl
  | e :: L => by rw [List.map_cons, ent, renM, renM_ent r L]; rfl
theorem renO_mp (r : Nat → Nat) (m : Mp) : renO r (.mp m.E) = .mp m.E := by
  unfold Mp.E mpE
  rw [renO, renM, renM_ent]
  rfl
theorem oM {H : Heap} {j : Nat} {r : Nat → Nat} {m : Mp} {p : Prop} (h : nth H j = some (.mp m.E)) : nth H j = some (renO r (.mp m.E)) ∨ p := .inl (by rw [renO_mp]; exact h)

theorem wet_1 (off : Bool) (sec : Nat) (D : List (List ByteArray)) (M : List Mp) (hD : D.length = 1) (hM : M.length = 1) (e : Int) (m : Mp) (hm : M[e.toNat]? = some m) (he0 : 0 ≤ e ∧ e < ((1 : Nat) : Int)) (hok : ∀ m ∈ M, m.ok) (hlen : ∀ m ∈ M, m.L.length ≤ 1000) (hwf : ∀ m ∈ M, ∀ e ∈ m.L, (Lit.int .i64 e.1).wf = true) :
    ACalls Try.prog 15 [.ptr 0 0, i64 e] (Wd.mk off sec D M).H (RetH (iV (ksE m.L)) (Wd.mk off sec D M).H) := by
  match D, hD, M, hM with
  | [d0], _, [m0], _ =>
  have hp := there_ok off (sec : Nat) 1 e
  rw [decide_eq_true he0] at hp
  have he : e = 0 := by omega
  rcases he with rfl
  · cases hm
    refine acalls_of_awp hT mixed Try.func15 rfl (by kernel_rfl) (by kernel_rfl) (Nat.le_of_ble_eq_true rfl) ?_
    refine callW (cs := [bo off, i64 (sec : Nat), .slc 1 0 1 1, .slc 2 0 1 1]) (rest := [i64 0]) hp rfl rfl rfl ?_
    refine Ob.intro (show (0 : Int) ≤ 0 ∧ (0 : Int) < ((1 : Nat) : Int) from ⟨by omega, by omega⟩) ?_
    refine callH (keysF_ok m.E) [4] rfl ⟨oM rfl, True.intro⟩ rfl rfl (by simp only [renH, renO_mp]; rfl) ?_
    refine callH (sortedF_ok m (hok m (by simp)) (hlen m (by simp)) (hwf m (by simp))) [4, 5] rfl ⟨oM rfl, .inl rfl, True.intro⟩ rfl rfl (by simp only [renH, renO_mp]; rfl) ?_
    exact endH rfl rfl rfl ⟨.inl rfl, .inl rfl, .inl rfl, .inl rfl, .inl rfl, True.intro⟩ (Nat.le_refl 5) (Wd.below _) rfl
theorem wet_2 (off : Bool) (sec : Nat) (D : List (List ByteArray)) (M : List Mp) (hD : D.length = 2) (hM : M.length = 2) (e : Int) (m : Mp) (hm : M[e.toNat]? = some m) (he0 : 0 ≤ e ∧ e < ((2 : Nat) : Int)) (hok : ∀ m ∈ M, m.ok) (hlen : ∀ m ∈ M, m.L.length ≤ 1000) (hwf : ∀ m ∈ M, ∀ e ∈ m.L, (Lit.int .i64 e.1).wf = true) :
    ACalls Try.prog 15 [.ptr 0 0, i64 e] (Wd.mk off sec D M).H (RetH (iV (ksE m.L)) (Wd.mk off sec D M).H) := by
  match D, hD, M, hM with
  | [d0, d1], _, [m0, m1], _ =>
  have hp := there_ok off (sec : Nat) 2 e
  rw [decide_eq_true he0] at hp
  have he : e = 0 ∨ e = 1 := by omega
  rcases he with rfl | rfl
  · cases hm
    refine acalls_of_awp hT mixed Try.func15 rfl (by kernel_rfl) (by kernel_rfl) (Nat.le_of_ble_eq_true rfl) ?_
    refine callW (cs := [bo off, i64 (sec : Nat), .slc 1 0 2 1, .slc 2 0 2 1]) (rest := [i64 0]) hp rfl rfl rfl ?_
    refine Ob.intro (show (0 : Int) ≤ 0 ∧ (0 : Int) < ((2 : Nat) : Int) from ⟨by omega, by omega⟩) ?_
    refine callH (keysF_ok m.E) [5] rfl ⟨oM rfl, True.intro⟩ rfl rfl (by simp only [renH, renO_mp]; rfl) ?_
    refine callH (sortedF_ok m (hok m (by simp)) (hlen m (by simp)) (hwf m (by simp))) [5, 7] rfl ⟨oM rfl, .inl rfl, True.intro⟩ rfl rfl (by simp only [renH, renO_mp]; rfl) ?_
    exact endH rfl rfl rfl ⟨.inl rfl, .inl rfl, .inl rfl, .inl rfl, .inl rfl, .inl rfl, .inl rfl, True.intro⟩ (Nat.le_refl 7) (Wd.below _) rfl
  · cases hm
    refine acalls_of_awp hT mixed Try.func15 rfl (by kernel_rfl) (by kernel_rfl) (Nat.le_of_ble_eq_true rfl) ?_
    refine callW (cs := [bo off, i64 (sec : Nat), .slc 1 0 2 1, .slc 2 0 2 1]) (rest := [i64 1]) hp rfl rfl rfl ?_
    refine Ob.intro (show (0 : Int) ≤ 1 ∧ (1 : Int) < ((2 : Nat) : Int) from ⟨by omega, by omega⟩) ?_
    refine callH (keysF_ok m.E) [6] rfl ⟨oM rfl, True.intro⟩ rfl rfl (by simp only [renH, renO_mp]; rfl) ?_
    refine callH (sortedF_ok m (hok m (by simp)) (hlen m (by simp)) (hwf m (by simp))) [6, 7] rfl ⟨oM rfl, .inl rfl, True.intro⟩ rfl rfl (by simp only [renH, renO_mp]; rfl) ?_
    exact endH rfl rfl rfl ⟨.inl rfl, .inl rfl, .inl rfl, .inl rfl, .inl rfl, .inl rfl, .inl rfl, True.intro⟩ (Nat.le_refl 7) (Wd.below _) rfl
theorem wet_3 (off : Bool) (sec : Nat) (D : List (List ByteArray)) (M : List Mp) (hD : D.length = 3) (hM : M.length = 3) (e : Int) (m : Mp) (hm : M[e.toNat]? = some m) (he0 : 0 ≤ e ∧ e < ((3 : Nat) : Int)) (hok : ∀ m ∈ M, m.ok) (hlen : ∀ m ∈ M, m.L.length ≤ 1000) (hwf : ∀ m ∈ M, ∀ e ∈ m.L, (Lit.int .i64 e.1).wf = true) :
    ACalls Try.prog 15 [.ptr 0 0, i64 e] (Wd.mk off sec D M).H (RetH (iV (ksE m.L)) (Wd.mk off sec D M).H) := by
  match D, hD, M, hM with
  | [d0, d1, d2], _, [m0, m1, m2], _ =>
  have hp := there_ok off (sec : Nat) 3 e
  rw [decide_eq_true he0] at hp
  have he : e = 0 ∨ e = 1 ∨ e = 2 := by omega
  rcases he with rfl | rfl | rfl
  · cases hm
    refine acalls_of_awp hT mixed Try.func15 rfl (by kernel_rfl) (by kernel_rfl) (Nat.le_of_ble_eq_true rfl) ?_
    refine callW (cs := [bo off, i64 (sec : Nat), .slc 1 0 3 1, .slc 2 0 3 1]) (rest := [i64 0]) hp rfl rfl rfl ?_
    refine Ob.intro (show (0 : Int) ≤ 0 ∧ (0 : Int) < ((3 : Nat) : Int) from ⟨by omega, by omega⟩) ?_
    refine callH (keysF_ok m.E) [6] rfl ⟨oM rfl, True.intro⟩ rfl rfl (by simp only [renH, renO_mp]; rfl) ?_
    refine callH (sortedF_ok m (hok m (by simp)) (hlen m (by simp)) (hwf m (by simp))) [6, 9] rfl ⟨oM rfl, .inl rfl, True.intro⟩ rfl rfl (by simp only [renH, renO_mp]; rfl) ?_
    exact endH rfl rfl rfl ⟨.inl rfl, .inl rfl, .inl rfl, .inl rfl, .inl rfl, .inl rfl, .inl rfl, .inl rfl, .inl rfl, True.intro⟩ (Nat.le_refl 9) (Wd.below _) rfl
  · cases hm
    refine acalls_of_awp hT mixed Try.func15 rfl (by kernel_rfl) (by kernel_rfl) (Nat.le_of_ble_eq_true rfl) ?_
    refine callW (cs := [bo off, i64 (sec : Nat), .slc 1 0 3 1, .slc 2 0 3 1]) (rest := [i64 1]) hp rfl rfl rfl ?_
    refine Ob.intro (show (0 : Int) ≤ 1 ∧ (1 : Int) < ((3 : Nat) : Int) from ⟨by omega, by omega⟩) ?_
    refine callH (keysF_ok m.E) [7] rfl ⟨oM rfl, True.intro⟩ rfl rfl (by simp only [renH, renO_mp]; rfl) ?_
    refine callH (sortedF_ok m (hok m (by simp)) (hlen m (by simp)) (hwf m (by simp))) [7, 9] rfl ⟨oM rfl, .inl rfl, True.intro⟩ rfl rfl (by simp only [renH, renO_mp]; rfl) ?_
    exact endH rfl rfl rfl ⟨.inl rfl, .inl rfl, .inl rfl, .inl rfl, .inl rfl, .inl rfl, .inl rfl, .inl rfl, .inl rfl, True.intro⟩ (Nat.le_refl 9) (Wd.below _) rfl
  · cases hm
    refine acalls_of_awp hT mixed Try.func15 rfl (by kernel_rfl) (by kernel_rfl) (Nat.le_of_ble_eq_true rfl) ?_
    refine callW (cs := [bo off, i64 (sec : Nat), .slc 1 0 3 1, .slc 2 0 3 1]) (rest := [i64 2]) hp rfl rfl rfl ?_
    refine Ob.intro (show (0 : Int) ≤ 2 ∧ (2 : Int) < ((3 : Nat) : Int) from ⟨by omega, by omega⟩) ?_
    refine callH (keysF_ok m.E) [8] rfl ⟨oM rfl, True.intro⟩ rfl rfl (by simp only [renH, renO_mp]; rfl) ?_
    refine callH (sortedF_ok m (hok m (by simp)) (hlen m (by simp)) (hwf m (by simp))) [8, 9] rfl ⟨oM rfl, .inl rfl, True.intro⟩ rfl rfl (by simp only [renH, renO_mp]; rfl) ?_
    exact endH rfl rfl rfl ⟨.inl rfl, .inl rfl, .inl rfl, .inl rfl, .inl rfl, .inl rfl, .inl rfl, .inl rfl, .inl rfl, True.intro⟩ (Nat.le_refl 9) (Wd.below _) rfl
theorem wet_4 (off : Bool) (sec : Nat) (D : List (List ByteArray)) (M : List Mp) (hD : D.length = 4) (hM : M.length = 4) (e : Int) (m : Mp) (hm : M[e.toNat]? = some m) (he0 : 0 ≤ e ∧ e < ((4 : Nat) : Int)) (hok : ∀ m ∈ M, m.ok) (hlen : ∀ m ∈ M, m.L.length ≤ 1000) (hwf : ∀ m ∈ M, ∀ e ∈ m.L, (Lit.int .i64 e.1).wf = true) :
    ACalls Try.prog 15 [.ptr 0 0, i64 e] (Wd.mk off sec D M).H (RetH (iV (ksE m.L)) (Wd.mk off sec D M).H) := by
  match D, hD, M, hM with
  | [d0, d1, d2, d3], _, [m0, m1, m2, m3], _ =>
  have hp := there_ok off (sec : Nat) 4 e
  rw [decide_eq_true he0] at hp
  have he : e = 0 ∨ e = 1 ∨ e = 2 ∨ e = 3 := by omega
  rcases he with rfl | rfl | rfl | rfl
  · cases hm
    refine acalls_of_awp hT mixed Try.func15 rfl (by kernel_rfl) (by kernel_rfl) (Nat.le_of_ble_eq_true rfl) ?_
    refine callW (cs := [bo off, i64 (sec : Nat), .slc 1 0 4 1, .slc 2 0 4 1]) (rest := [i64 0]) hp rfl rfl rfl ?_
    refine Ob.intro (show (0 : Int) ≤ 0 ∧ (0 : Int) < ((4 : Nat) : Int) from ⟨by omega, by omega⟩) ?_
    refine callH (keysF_ok m.E) [7] rfl ⟨oM rfl, True.intro⟩ rfl rfl (by simp only [renH, renO_mp]; rfl) ?_
    refine callH (sortedF_ok m (hok m (by simp)) (hlen m (by simp)) (hwf m (by simp))) [7, 11] rfl ⟨oM rfl, .inl rfl, True.intro⟩ rfl rfl (by simp only [renH, renO_mp]; rfl) ?_
    exact endH rfl rfl rfl ⟨.inl rfl, .inl rfl, .inl rfl, .inl rfl, .inl rfl, .inl rfl, .inl rfl, .inl rfl, .inl rfl, .inl rfl, .inl rfl, True.intro⟩ (Nat.le_refl 11) (Wd.below _) rfl
  · cases hm
    refine acalls_of_awp hT mixed Try.func15 rfl (by kernel_rfl) (by kernel_rfl) (Nat.le_of_ble_eq_true rfl) ?_
    refine callW (cs := [bo off, i64 (sec : Nat), .slc 1 0 4 1, .slc 2 0 4 1]) (rest := [i64 1]) hp rfl rfl rfl ?_
    refine Ob.intro (show (0 : Int) ≤ 1 ∧ (1 : Int) < ((4 : Nat) : Int) from ⟨by omega, by omega⟩) ?_
    refine callH (keysF_ok m.E) [8] rfl ⟨oM rfl, True.intro⟩ rfl rfl (by simp only [renH, renO_mp]; rfl) ?_
    refine callH (sortedF_ok m (hok m (by simp)) (hlen m (by simp)) (hwf m (by simp))) [8, 11] rfl ⟨oM rfl, .inl rfl, True.intro⟩ rfl rfl (by simp only [renH, renO_mp]; rfl) ?_
    exact endH rfl rfl rfl ⟨.inl rfl, .inl rfl, .inl rfl, .inl rfl, .inl rfl, .inl rfl, .inl rfl, .inl rfl, .inl rfl, .inl rfl, .inl rfl, True.intro⟩ (Nat.le_refl 11) (Wd.below _) rfl
  · cases hm
    refine acalls_of_awp hT mixed Try.func15 rfl (by kernel_rfl) (by kernel_rfl) (Nat.le_of_ble_eq_true rfl) ?_
    refine callW (cs := [bo off, i64 (sec : Nat), .slc 1 0 4 1, .slc 2 0 4 1]) (rest := [i64 2]) hp rfl rfl rfl ?_
    refine Ob.intro (show (0 : Int) ≤ 2 ∧ (2 : Int) < ((4 : Nat) : Int) from ⟨by omega, by omega⟩) ?_
    refine callH (keysF_ok m.E) [9] rfl ⟨oM rfl, True.intro⟩ rfl rfl (by simp only [renH, renO_mp]; rfl) ?_
    refine callH (sortedF_ok m (hok m (by simp)) (hlen m (by simp)) (hwf m (by simp))) [9, 11] rfl ⟨oM rfl, .inl rfl, True.intro⟩ rfl rfl (by simp only [renH, renO_mp]; rfl) ?_
    exact endH rfl rfl rfl ⟨.inl rfl, .inl rfl, .inl rfl, .inl rfl, .inl rfl, .inl rfl, .inl rfl, .inl rfl, .inl rfl, .inl rfl, .inl rfl, True.intro⟩ (Nat.le_refl 11) (Wd.below _) rfl
  · cases hm
    refine acalls_of_awp hT mixed Try.func15 rfl (by kernel_rfl) (by kernel_rfl) (Nat.le_of_ble_eq_true rfl) ?_
    refine callW (cs := [bo off, i64 (sec : Nat), .slc 1 0 4 1, .slc 2 0 4 1]) (rest := [i64 3]) hp rfl rfl rfl ?_
    refine Ob.intro (show (0 : Int) ≤ 3 ∧ (3 : Int) < ((4 : Nat) : Int) from ⟨by omega, by omega⟩) ?_
    refine callH (keysF_ok m.E) [10] rfl ⟨oM rfl, True.intro⟩ rfl rfl (by simp only [renH, renO_mp]; rfl) ?_
    refine callH (sortedF_ok m (hok m (by simp)) (hlen m (by simp)) (hwf m (by simp))) [10, 11] rfl ⟨oM rfl, .inl rfl, True.intro⟩ rfl rfl (by simp only [renH, renO_mp]; rfl) ?_
    exact endH rfl rfl rfl ⟨.inl rfl, .inl rfl, .inl rfl, .inl rfl, .inl rfl, .inl rfl, .inl rfl, .inl rfl, .inl rfl, .inl rfl, .inl rfl, True.intro⟩ (Nat.le_refl 11) (Wd.below _) rfl
theorem wet_5 (off : Bool) (sec : Nat) (D : List (List ByteArray)) (M : List Mp) (hD : D.length = 5) (hM : M.length = 5) (e : Int) (m : Mp) (hm : M[e.toNat]? = some m) (he0 : 0 ≤ e ∧ e < ((5 : Nat) : Int)) (hok : ∀ m ∈ M, m.ok) (hlen : ∀ m ∈ M, m.L.length ≤ 1000) (hwf : ∀ m ∈ M, ∀ e ∈ m.L, (Lit.int .i64 e.1).wf = true) :
    ACalls Try.prog 15 [.ptr 0 0, i64 e] (Wd.mk off sec D M).H (RetH (iV (ksE m.L)) (Wd.mk off sec D M).H) := by
  match D, hD, M, hM with
  | [d0, d1, d2, d3, d4], _, [m0, m1, m2, m3, m4], _ =>
  have hp := there_ok off (sec : Nat) 5 e
  rw [decide_eq_true he0] at hp
  have he : e = 0 ∨ e = 1 ∨ e = 2 ∨ e = 3 ∨ e = 4 := by omega
  rcases he with rfl | rfl | rfl | rfl | rfl
  · cases hm
    refine acalls_of_awp hT mixed Try.func15 rfl (by kernel_rfl) (by kernel_rfl) (Nat.le_of_ble_eq_true rfl) ?_
    refine callW (cs := [bo off, i64 (sec : Nat), .slc 1 0 5 1, .slc 2 0 5 1]) (rest := [i64 0]) hp rfl rfl rfl ?_
    refine Ob.intro (show (0 : Int) ≤ 0 ∧ (0 : Int) < ((5 : Nat) : Int) from ⟨by omega, by omega⟩) ?_
    refine callH (keysF_ok m.E) [8] rfl ⟨oM rfl, True.intro⟩ rfl rfl (by simp only [renH, renO_mp]; rfl) ?_
    refine callH (sortedF_ok m (hok m (by simp)) (hlen m (by simp)) (hwf m (by simp))) [8, 13] rfl ⟨oM rfl, .inl rfl, True.intro⟩ rfl rfl (by simp only [renH, renO_mp]; rfl) ?_
    exact endH rfl rfl rfl ⟨.inl rfl, .inl rfl, .inl rfl, .inl rfl, .inl rfl, .inl rfl, .inl rfl, .inl rfl, .inl rfl, .inl rfl, .inl rfl, .inl rfl, .inl rfl, True.intro⟩ (Nat.le_refl 13) (Wd.below _) rfl
  · cases hm
    refine acalls_of_awp hT mixed Try.func15 rfl (by kernel_rfl) (by kernel_rfl) (Nat.le_of_ble_eq_true rfl) ?_
    refine callW (cs := [bo off, i64 (sec : Nat), .slc 1 0 5 1, .slc 2 0 5 1]) (rest := [i64 1]) hp rfl rfl rfl ?_
    refine Ob.intro (show (0 : Int) ≤ 1 ∧ (1 : Int) < ((5 : Nat) : Int) from ⟨by omega, by omega⟩) ?_
    refine callH (keysF_ok m.E) [9] rfl ⟨oM rfl, True.intro⟩ rfl rfl (by simp only [renH, renO_mp]; rfl) ?_
    refine callH (sortedF_ok m (hok m (by simp)) (hlen m (by simp)) (hwf m (by simp))) [9, 13] rfl ⟨oM rfl, .inl rfl, True.intro⟩ rfl rfl (by simp only [renH, renO_mp]; rfl) ?_
    exact endH rfl rfl rfl ⟨.inl rfl, .inl rfl, .inl rfl, .inl rfl, .inl rfl, .inl rfl, .inl rfl, .inl rfl, .inl rfl, .inl rfl, .inl rfl, .inl rfl, .inl rfl, True.intro⟩ (Nat.le_refl 13) (Wd.below _) rfl
  · cases hm
    refine acalls_of_awp hT mixed Try.func15 rfl (by kernel_rfl) (by kernel_rfl) (Nat.le_of_ble_eq_true rfl) ?_
    refine callW (cs := [bo off, i64 (sec : Nat), .slc 1 0 5 1, .slc 2 0 5 1]) (rest := [i64 2]) hp rfl rfl rfl ?_
    refine Ob.intro (show (0 : Int) ≤ 2 ∧ (2 : Int) < ((5 : Nat) : Int) from ⟨by omega, by omega⟩) ?_
    refine callH (keysF_ok m.E) [10] rfl ⟨oM rfl, True.intro⟩ rfl rfl (by simp only [renH, renO_mp]; rfl) ?_
    refine callH (sortedF_ok m (hok m (by simp)) (hlen m (by simp)) (hwf m (by simp))) [10, 13] rfl ⟨oM rfl, .inl rfl, True.intro⟩ rfl rfl (by simp only [renH, renO_mp]; rfl) ?_
    exact endH rfl rfl rfl ⟨.inl rfl, .inl rfl, .inl rfl, .inl rfl, .inl rfl, .inl rfl, .inl rfl, .inl rfl, .inl rfl, .inl rfl, .inl rfl, .inl rfl, .inl rfl, True.intro⟩ (Nat.le_refl 13) (Wd.below _) rfl
  · cases hm
    refine acalls_of_awp hT mixed Try.func15 rfl (by kernel_rfl) (by kernel_rfl) (Nat.le_of_ble_eq_true rfl) ?_
    refine callW (cs := [bo off, i64 (sec : Nat), .slc 1 0 5 1, .slc 2 0 5 1]) (rest := [i64 3]) hp rfl rfl rfl ?_
    refine Ob.intro (show (0 : Int) ≤ 3 ∧ (3 : Int) < ((5 : Nat) : Int) from ⟨by omega, by omega⟩) ?_
    refine callH (keysF_ok m.E) [11] rfl ⟨oM rfl, True.intro⟩ rfl rfl (by simp only [renH, renO_mp]; rfl) ?_
    refine callH (sortedF_ok m (hok m (by simp)) (hlen m (by simp)) (hwf m (by simp))) [11, 13] rfl ⟨oM rfl, .inl rfl, True.intro⟩ rfl rfl (by simp only [renH, renO_mp]; rfl) ?_
    exact endH rfl rfl rfl ⟨.inl rfl, .inl rfl, .inl rfl, .inl rfl, .inl rfl, .inl rfl, .inl rfl, .inl rfl, .inl rfl, .inl rfl, .inl rfl, .inl rfl, .inl rfl, True.intro⟩ (Nat.le_refl 13) (Wd.below _) rfl
  · cases hm
    refine acalls_of_awp hT mixed Try.func15 rfl (by kernel_rfl) (by kernel_rfl) (Nat.le_of_ble_eq_true rfl) ?_
    refine callW (cs := [bo off, i64 (sec : Nat), .slc 1 0 5 1, .slc 2 0 5 1]) (rest := [i64 4]) hp rfl rfl rfl ?_
    refine Ob.intro (show (0 : Int) ≤ 4 ∧ (4 : Int) < ((5 : Nat) : Int) from ⟨by omega, by omega⟩) ?_
    refine callH (keysF_ok m.E) [12] rfl ⟨oM rfl, True.intro⟩ rfl rfl (by simp only [renH, renO_mp]; rfl) ?_
    refine callH (sortedF_ok m (hok m (by simp)) (hlen m (by simp)) (hwf m (by simp))) [12, 13] rfl ⟨oM rfl, .inl rfl, True.intro⟩ rfl rfl (by simp only [renH, renO_mp]; rfl) ?_
    exact endH rfl rfl rfl ⟨.inl rfl, .inl rfl, .inl rfl, .inl rfl, .inl rfl, .inl rfl, .inl rfl, .inl rfl, .inl rfl, .inl rfl, .inl rfl, .inl rfl, .inl rfl, True.intro⟩ (Nat.le_refl 13) (Wd.below _) rfl
theorem wet_6 (off : Bool) (sec : Nat) (D : List (List ByteArray)) (M : List Mp) (hD : D.length = 6) (hM : M.length = 6) (e : Int) (m : Mp) (hm : M[e.toNat]? = some m) (he0 : 0 ≤ e ∧ e < ((6 : Nat) : Int)) (hok : ∀ m ∈ M, m.ok) (hlen : ∀ m ∈ M, m.L.length ≤ 1000) (hwf : ∀ m ∈ M, ∀ e ∈ m.L, (Lit.int .i64 e.1).wf = true) :
    ACalls Try.prog 15 [.ptr 0 0, i64 e] (Wd.mk off sec D M).H (RetH (iV (ksE m.L)) (Wd.mk off sec D M).H) := by
  match D, hD, M, hM with
  | [d0, d1, d2, d3, d4, d5], _, [m0, m1, m2, m3, m4, m5], _ =>
  have hp := there_ok off (sec : Nat) 6 e
  rw [decide_eq_true he0] at hp
  have he : e = 0 ∨ e = 1 ∨ e = 2 ∨ e = 3 ∨ e = 4 ∨ e = 5 := by omega
  rcases he with rfl | rfl | rfl | rfl | rfl | rfl
  · cases hm
    refine acalls_of_awp hT mixed Try.func15 rfl (by kernel_rfl) (by kernel_rfl) (Nat.le_of_ble_eq_true rfl) ?_
    refine callW (cs := [bo off, i64 (sec : Nat), .slc 1 0 6 1, .slc 2 0 6 1]) (rest := [i64 0]) hp rfl rfl rfl ?_
    refine Ob.intro (show (0 : Int) ≤ 0 ∧ (0 : Int) < ((6 : Nat) : Int) from ⟨by omega, by omega⟩) ?_
    refine callH (keysF_ok m.E) [9] rfl ⟨oM rfl, True.intro⟩ rfl rfl (by simp only [renH, renO_mp]; rfl) ?_
    refine callH (sortedF_ok m (hok m (by simp)) (hlen m (by simp)) (hwf m (by simp))) [9, 15] rfl ⟨oM rfl, .inl rfl, True.intro⟩ rfl rfl (by simp only [renH, renO_mp]; rfl) ?_
    exact endH rfl rfl rfl ⟨.inl rfl, .inl rfl, .inl rfl, .inl rfl, .inl rfl, .inl rfl, .inl rfl, .inl rfl, .inl rfl, .inl rfl, .inl rfl, .inl rfl, .inl rfl, .inl rfl, .inl rfl, True.intro⟩ (Nat.le_refl 15) (Wd.below _) rfl
  · cases hm
    refine acalls_of_awp hT mixed Try.func15 rfl (by kernel_rfl) (by kernel_rfl) (Nat.le_of_ble_eq_true rfl) ?_
    refine callW (cs := [bo off, i64 (sec : Nat), .slc 1 0 6 1, .slc 2 0 6 1]) (rest := [i64 1]) hp rfl rfl rfl ?_
    refine Ob.intro (show (0 : Int) ≤ 1 ∧ (1 : Int) < ((6 : Nat) : Int) from ⟨by omega, by omega⟩) ?_
    refine callH (keysF_ok m.E) [10] rfl ⟨oM rfl, True.intro⟩ rfl rfl (by simp only [renH, renO_mp]; rfl) ?_
    refine callH (sortedF_ok m (hok m (by simp)) (hlen m (by simp)) (hwf m (by simp))) [10, 15] rfl ⟨oM rfl, .inl rfl, True.intro⟩ rfl rfl (by simp only [renH, renO_mp]; rfl) ?_
    exact endH rfl rfl rfl ⟨.inl rfl, .inl rfl, .inl rfl, .inl rfl, .inl rfl, .inl rfl, .inl rfl, .inl rfl, .inl rfl, .inl rfl, .inl rfl, .inl rfl, .inl rfl, .inl rfl, .inl rfl, True.intro⟩ (Nat.le_refl 15) (Wd.below _) rfl
  · cases hm
    refine acalls_of_awp hT mixed Try.func15 rfl (by kernel_rfl) (by kernel_rfl) (Nat.le_of_ble_eq_true rfl) ?_
    refine callW (cs := [bo off, i64 (sec : Nat), .slc 1 0 6 1, .slc 2 0 6 1]) (rest := [i64 2]) hp rfl rfl rfl ?_
    refine Ob.intro (show (0 : Int) ≤ 2 ∧ (2 : Int) < ((6 : Nat) : Int) from ⟨by omega, by omega⟩) ?_
    refine callH (keysF_ok m.E) [11] rfl ⟨oM rfl, True.intro⟩ rfl rfl (by simp only [renH, renO_mp]; rfl) ?_
    refine callH (sortedF_ok m (hok m (by simp)) (hlen m (by simp)) (hwf m (by simp))) [11, 15] rfl ⟨oM rfl, .inl rfl, True.intro⟩ rfl rfl (by simp only [renH, renO_mp]; rfl) ?_
    exact endH rfl rfl rfl ⟨.inl rfl, .inl rfl, .inl rfl, .inl rfl, .inl rfl, .inl rfl, .inl rfl, .inl rfl, .inl rfl, .inl rfl, .inl rfl, .inl rfl, .inl rfl, .inl rfl, .inl rfl, True.intro⟩ (Nat.le_refl 15) (Wd.below _) rfl
  · cases hm
    refine acalls_of_awp hT mixed Try.func15 rfl (by kernel_rfl) (by kernel_rfl) (Nat.le_of_ble_eq_true rfl) ?_
    refine callW (cs := [bo off, i64 (sec : Nat), .slc 1 0 6 1, .slc 2 0 6 1]) (rest := [i64 3]) hp rfl rfl rfl ?_
    refine Ob.intro (show (0 : Int) ≤ 3 ∧ (3 : Int) < ((6 : Nat) : Int) from ⟨by omega, by omega⟩) ?_
    refine callH (keysF_ok m.E) [12] rfl ⟨oM rfl, True.intro⟩ rfl rfl (by simp only [renH, renO_mp]; rfl) ?_
    refine callH (sortedF_ok m (hok m (by simp)) (hlen m (by simp)) (hwf m (by simp))) [12, 15] rfl ⟨oM rfl, .inl rfl, True.intro⟩ rfl rfl (by simp only [renH, renO_mp]; rfl) ?_
    exact endH rfl rfl rfl ⟨.inl rfl, .inl rfl, .inl rfl, .inl rfl, .inl rfl, .inl rfl, .inl rfl, .inl rfl, .inl rfl, .inl rfl, .inl rfl, .inl rfl, .inl rfl, .inl rfl, .inl rfl, True.intro⟩ (Nat.le_refl 15) (Wd.below _) rfl
  · cases hm
    refine acalls_of_awp hT mixed Try.func15 rfl (by kernel_rfl) (by kernel_rfl) (Nat.le_of_ble_eq_true rfl) ?_
    refine callW (cs := [bo off, i64 (sec : Nat), .slc 1 0 6 1, .slc 2 0 6 1]) (rest := [i64 4]) hp rfl rfl rfl ?_
    refine Ob.intro (show (0 : Int) ≤ 4 ∧ (4 : Int) < ((6 : Nat) : Int) from ⟨by omega, by omega⟩) ?_
    refine callH (keysF_ok m.E) [13] rfl ⟨oM rfl, True.intro⟩ rfl rfl (by simp only [renH, renO_mp]; rfl) ?_
    refine callH (sortedF_ok m (hok m (by simp)) (hlen m (by simp)) (hwf m (by simp))) [13, 15] rfl ⟨oM rfl, .inl rfl, True.intro⟩ rfl rfl (by simp only [renH, renO_mp]; rfl) ?_
    exact endH rfl rfl rfl ⟨.inl rfl, .inl rfl, .inl rfl, .inl rfl, .inl rfl, .inl rfl, .inl rfl, .inl rfl, .inl rfl, .inl rfl, .inl rfl, .inl rfl, .inl rfl, .inl rfl, .inl rfl, True.intro⟩ (Nat.le_refl 15) (Wd.below _) rfl
  · cases hm
    refine acalls_of_awp hT mixed Try.func15 rfl (by kernel_rfl) (by kernel_rfl) (Nat.le_of_ble_eq_true rfl) ?_
    refine callW (cs := [bo off, i64 (sec : Nat), .slc 1 0 6 1, .slc 2 0 6 1]) (rest := [i64 5]) hp rfl rfl rfl ?_
    refine Ob.intro (show (0 : Int) ≤ 5 ∧ (5 : Int) < ((6 : Nat) : Int) from ⟨by omega, by omega⟩) ?_
    refine callH (keysF_ok m.E) [14] rfl ⟨oM rfl, True.intro⟩ rfl rfl (by simp only [renH, renO_mp]; rfl) ?_
    refine callH (sortedF_ok m (hok m (by simp)) (hlen m (by simp)) (hwf m (by simp))) [14, 15] rfl ⟨oM rfl, .inl rfl, True.intro⟩ rfl rfl (by simp only [renH, renO_mp]; rfl) ?_
    exact endH rfl rfl rfl ⟨.inl rfl, .inl rfl, .inl rfl, .inl rfl, .inl rfl, .inl rfl, .inl rfl, .inl rfl, .inl rfl, .inl rfl, .inl rfl, .inl rfl, .inl rfl, .inl rfl, .inl rfl, True.intro⟩ (Nat.le_refl 15) (Wd.below _) rfl
theorem wet_7 (off : Bool) (sec : Nat) (D : List (List ByteArray)) (M : List Mp) (hD : D.length = 7) (hM : M.length = 7) (e : Int) (m : Mp) (hm : M[e.toNat]? = some m) (he0 : 0 ≤ e ∧ e < ((7 : Nat) : Int)) (hok : ∀ m ∈ M, m.ok) (hlen : ∀ m ∈ M, m.L.length ≤ 1000) (hwf : ∀ m ∈ M, ∀ e ∈ m.L, (Lit.int .i64 e.1).wf = true) :
    ACalls Try.prog 15 [.ptr 0 0, i64 e] (Wd.mk off sec D M).H (RetH (iV (ksE m.L)) (Wd.mk off sec D M).H) := by
  match D, hD, M, hM with
  | [d0, d1, d2, d3, d4, d5, d6], _, [m0, m1, m2, m3, m4, m5, m6], _ =>
  have hp := there_ok off (sec : Nat) 7 e
  rw [decide_eq_true he0] at hp
  have he : e = 0 ∨ e = 1 ∨ e = 2 ∨ e = 3 ∨ e = 4 ∨ e = 5 ∨ e = 6 := by omega
  rcases he with rfl | rfl | rfl | rfl | rfl | rfl | rfl
  · cases hm
    refine acalls_of_awp hT mixed Try.func15 rfl (by kernel_rfl) (by kernel_rfl) (Nat.le_of_ble_eq_true rfl) ?_
    refine callW (cs := [bo off, i64 (sec : Nat), .slc 1 0 7 1, .slc 2 0 7 1]) (rest := [i64 0]) hp rfl rfl rfl ?_
    refine Ob.intro (show (0 : Int) ≤ 0 ∧ (0 : Int) < ((7 : Nat) : Int) from ⟨by omega, by omega⟩) ?_
    refine callH (keysF_ok m.E) [10] rfl ⟨oM rfl, True.intro⟩ rfl rfl (by simp only [renH, renO_mp]; rfl) ?_
    refine callH (sortedF_ok m (hok m (by simp)) (hlen m (by simp)) (hwf m (by simp))) [10, 17] rfl ⟨oM rfl, .inl rfl, True.intro⟩ rfl rfl (by simp only [renH, renO_mp]; rfl) ?_
    exact endH rfl rfl rfl ⟨.inl rfl, .inl rfl, .inl rfl, .inl rfl, .inl rfl, .inl rfl, .inl rfl, .inl rfl, .inl rfl, .inl rfl, .inl rfl, .inl rfl, .inl rfl, .inl rfl, .inl rfl, .inl rfl, .inl rfl, True.intro⟩ (Nat.le_refl 17) (Wd.below _) rfl
  · cases hm
    refine acalls_of_awp hT mixed Try.func15 rfl (by kernel_rfl) (by kernel_rfl) (Nat.le_of_ble_eq_true rfl) ?_
    refine callW (cs := [bo off, i64 (sec : Nat), .slc 1 0 7 1, .slc 2 0 7 1]) (rest := [i64 1]) hp rfl rfl rfl ?_
    refine Ob.intro (show (0 : Int) ≤ 1 ∧ (1 : Int) < ((7 : Nat) : Int) from ⟨by omega, by omega⟩) ?_
    refine callH (keysF_ok m.E) [11] rfl ⟨oM rfl, True.intro⟩ rfl rfl (by simp only [renH, renO_mp]; rfl) ?_
    refine callH (sortedF_ok m (hok m (by simp)) (hlen m (by simp)) (hwf m (by simp))) [11, 17] rfl ⟨oM rfl, .inl rfl, True.intro⟩ rfl rfl (by simp only [renH, renO_mp]; rfl) ?_
    exact endH rfl rfl rfl ⟨.inl rfl, .inl rfl, .inl rfl, .inl rfl, .inl rfl, .inl rfl, .inl rfl, .inl rfl, .inl rfl, .inl rfl, .inl rfl, .inl rfl, .inl rfl, .inl rfl, .inl rfl, .inl rfl, .inl rfl, True.intro⟩ (Nat.le_refl 17) (Wd.below _) rfl
  · cases hm
    refine acalls_of_awp hT mixed Try.func15 rfl (by kernel_rfl) (by kernel_rfl) (Nat.le_of_ble_eq_true rfl) ?_
    refine callW (cs := [bo off, i64 (sec : Nat), .slc 1 0 7 1, .slc 2 0 7 1]) (rest := [i64 2]) hp rfl rfl rfl ?_
    refine Ob.intro (show (0 : Int) ≤ 2 ∧ (2 : Int) < ((7 : Nat) : Int) from ⟨by omega, by omega⟩) ?_
    refine callH (keysF_ok m.E) [12] rfl ⟨oM rfl, True.intro⟩ rfl rfl (by simp only [renH, renO_mp]; rfl) ?_
    refine callH (sortedF_ok m (hok m (by simp)) (hlen m (by simp)) (hwf m (by simp))) [12, 17] rfl ⟨oM rfl, .inl rfl, True.intro⟩ rfl rfl (by simp only [renH, renO_mp]; rfl) ?_
    exact endH rfl rfl rfl ⟨.inl rfl, .inl rfl, .inl rfl, .inl rfl, .inl rfl, .inl rfl, .inl rfl, .inl rfl, .inl rfl, .inl rfl, .inl rfl, .inl rfl, .inl rfl, .inl rfl, .inl rfl, .inl rfl, .inl rfl, True.intro⟩ (Nat.le_refl 17) (Wd.below _) rfl
  · cases hm
    refine acalls_of_awp hT mixed Try.func15 rfl (by kernel_rfl) (by kernel_rfl) (Nat.le_of_ble_eq_true rfl) ?_
    refine callW (cs := [bo off, i64 (sec : Nat), .slc 1 0 7 1, .slc 2 0 7 1]) (rest := [i64 3]) hp rfl rfl rfl ?_
    refine Ob.intro (show (0 : Int) ≤ 3 ∧ (3 : Int) < ((7 : Nat) : Int) from ⟨by omega, by omega⟩) ?_
    refine callH (keysF_ok m.E) [13] rfl ⟨oM rfl, True.intro⟩ rfl rfl (by simp only [renH, renO_mp]; rfl) ?_
    refine callH (sortedF_ok m (hok m (by simp)) (hlen m (by simp)) (hwf m (by simp))) [13, 17] rfl ⟨oM rfl, .inl rfl, True.intro⟩ rfl rfl (by simp only [renH, renO_mp]; rfl) ?_
    exact endH rfl rfl rfl ⟨.inl rfl, .inl rfl, .inl rfl, .inl rfl, .inl rfl, .inl rfl, .inl rfl, .inl rfl, .inl rfl, .inl rfl, .inl rfl, .inl rfl, .inl rfl, .inl rfl, .inl rfl, .inl rfl, .inl rfl, True.intro⟩ (Nat.le_refl 17) (Wd.below _) rfl
  · cases hm
    refine acalls_of_awp hT mixed Try.func15 rfl (by kernel_rfl) (by kernel_rfl) (Nat.le_of_ble_eq_true rfl) ?_
    refine callW (cs := [bo off, i64 (sec : Nat), .slc 1 0 7 1, .slc 2 0 7 1]) (rest := [i64 4]) hp rfl rfl rfl ?_
    refine Ob.intro (show (0 : Int) ≤ 4 ∧ (4 : Int) < ((7 : Nat) : Int) from ⟨by omega, by omega⟩) ?_
    refine callH (keysF_ok m.E) [14] rfl ⟨oM rfl, True.intro⟩ rfl rfl (by simp only [renH, renO_mp]; rfl) ?_
    refine callH (sortedF_ok m (hok m (by simp)) (hlen m (by simp)) (hwf m (by simp))) [14, 17] rfl ⟨oM rfl, .inl rfl, True.intro⟩ rfl rfl (by simp only [renH, renO_mp]; rfl) ?_
    exact endH rfl rfl rfl ⟨.inl rfl, .inl rfl, .inl rfl, .inl rfl, .inl rfl, .inl rfl, .inl rfl, .inl rfl, .inl rfl, .inl rfl, .inl rfl, .inl rfl, .inl rfl, .inl rfl, .inl rfl, .inl rfl, .inl rfl, True.intro⟩ (Nat.le_refl 17) (Wd.below _) rfl
  · cases hm
    refine acalls_of_awp hT mixed Try.func15 rfl (by kernel_rfl) (by kernel_rfl) (Nat.le_of_ble_eq_true rfl) ?_
    refine callW (cs := [bo off, i64 (sec : Nat), .slc 1 0 7 1, .slc 2 0 7 1]) (rest := [i64 5]) hp rfl rfl rfl ?_
    refine Ob.intro (show (0 : Int) ≤ 5 ∧ (5 : Int) < ((7 : Nat) : Int) from ⟨by omega, by omega⟩) ?_
    refine callH (keysF_ok m.E) [15] rfl ⟨oM rfl, True.intro⟩ rfl rfl (by simp only [renH, renO_mp]; rfl) ?_
    refine callH (sortedF_ok m (hok m (by simp)) (hlen m (by simp)) (hwf m (by simp))) [15, 17] rfl ⟨oM rfl, .inl rfl, True.intro⟩ rfl rfl (by simp only [renH, renO_mp]; rfl) ?_
    exact endH rfl rfl rfl ⟨.inl rfl, .inl rfl, .inl rfl, .inl rfl, .inl rfl, .inl rfl, .inl rfl, .inl rfl, .inl rfl, .inl rfl, .inl rfl, .inl rfl, .inl rfl, .inl rfl, .inl rfl, .inl rfl, .inl rfl, True.intro⟩ (Nat.le_refl 17) (Wd.below _) rfl
  · cases hm
    refine acalls_of_awp hT mixed Try.func15 rfl (by kernel_rfl) (by kernel_rfl) (Nat.le_of_ble_eq_true rfl) ?_
    refine callW (cs := [bo off, i64 (sec : Nat), .slc 1 0 7 1, .slc 2 0 7 1]) (rest := [i64 6]) hp rfl rfl rfl ?_
    refine Ob.intro (show (0 : Int) ≤ 6 ∧ (6 : Int) < ((7 : Nat) : Int) from ⟨by omega, by omega⟩) ?_
    refine callH (keysF_ok m.E) [16] rfl ⟨oM rfl, True.intro⟩ rfl rfl (by simp only [renH, renO_mp]; rfl) ?_
    refine callH (sortedF_ok m (hok m (by simp)) (hlen m (by simp)) (hwf m (by simp))) [16, 17] rfl ⟨oM rfl, .inl rfl, True.intro⟩ rfl rfl (by simp only [renH, renO_mp]; rfl) ?_
    exact endH rfl rfl rfl ⟨.inl rfl, .inl rfl, .inl rfl, .inl rfl, .inl rfl, .inl rfl, .inl rfl, .inl rfl, .inl rfl, .inl rfl, .inl rfl, .inl rfl, .inl rfl, .inl rfl, .inl rfl, .inl rfl, .inl rfl, True.intro⟩ (Nat.le_refl 17) (Wd.below _) rfl
theorem wet_8 (off : Bool) (sec : Nat) (D : List (List ByteArray)) (M : List Mp) (hD : D.length = 8) (hM : M.length = 8) (e : Int) (m : Mp) (hm : M[e.toNat]? = some m) (he0 : 0 ≤ e ∧ e < ((8 : Nat) : Int)) (hok : ∀ m ∈ M, m.ok) (hlen : ∀ m ∈ M, m.L.length ≤ 1000) (hwf : ∀ m ∈ M, ∀ e ∈ m.L, (Lit.int .i64 e.1).wf = true) :
    ACalls Try.prog 15 [.ptr 0 0, i64 e] (Wd.mk off sec D M).H (RetH (iV (ksE m.L)) (Wd.mk off sec D M).H) := by
  match D, hD, M, hM with
  | [d0, d1, d2, d3, d4, d5, d6, d7], _, [m0, m1, m2, m3, m4, m5, m6, m7], _ =>
  have hp := there_ok off (sec : Nat) 8 e
  rw [decide_eq_true he0] at hp
  have he : e = 0 ∨ e = 1 ∨ e = 2 ∨ e = 3 ∨ e = 4 ∨ e = 5 ∨ e = 6 ∨ e = 7 := by omega
  rcases he with rfl | rfl | rfl | rfl | rfl | rfl | rfl | rfl
  · cases hm
    refine acalls_of_awp hT mixed Try.func15 rfl (by kernel_rfl) (by kernel_rfl) (Nat.le_of_ble_eq_true rfl) ?_
    refine callW (cs := [bo off, i64 (sec : Nat), .slc 1 0 8 1, .slc 2 0 8 1]) (rest := [i64 0]) hp rfl rfl rfl ?_
    refine Ob.intro (show (0 : Int) ≤ 0 ∧ (0 : Int) < ((8 : Nat) : Int) from ⟨by omega, by omega⟩) ?_
    refine callH (keysF_ok m.E) [11] rfl ⟨oM rfl, True.intro⟩ rfl rfl (by simp only [renH, renO_mp]; rfl) ?_
    refine callH (sortedF_ok m (hok m (by simp)) (hlen m (by simp)) (hwf m (by simp))) [11, 19] rfl ⟨oM rfl, .inl rfl, True.intro⟩ rfl rfl (by simp only [renH, renO_mp]; rfl) ?_
    exact endH rfl rfl rfl ⟨.inl rfl, .inl rfl, .inl rfl, .inl rfl, .inl rfl, .inl rfl, .inl rfl, .inl rfl, .inl rfl, .inl rfl, .inl rfl, .inl rfl, .inl rfl, .inl rfl, .inl rfl, .inl rfl, .inl rfl, .inl rfl, .inl rfl, True.intro⟩ (Nat.le_refl 19) (Wd.below _) rfl
  · cases hm
    refine acalls_of_awp hT mixed Try.func15 rfl (by kernel_rfl) (by kernel_rfl) (Nat.le_of_ble_eq_true rfl) ?_
    refine callW (cs := [bo off, i64 (sec : Nat), .slc 1 0 8 1, .slc 2 0 8 1]) (rest := [i64 1]) hp rfl rfl rfl ?_
    refine Ob.intro (show (0 : Int) ≤ 1 ∧ (1 : Int) < ((8 : Nat) : Int) from ⟨by omega, by omega⟩) ?_
    refine callH (keysF_ok m.E) [12] rfl ⟨oM rfl, True.intro⟩ rfl rfl (by simp only [renH, renO_mp]; rfl) ?_
    refine callH (sortedF_ok m (hok m (by simp)) (hlen m (by simp)) (hwf m (by simp))) [12, 19] rfl ⟨oM rfl, .inl rfl, True.intro⟩ rfl rfl (by simp only [renH, renO_mp]; rfl) ?_
    exact endH rfl rfl rfl ⟨.inl rfl, .inl rfl, .inl rfl, .inl rfl, .inl rfl, .inl rfl, .inl rfl, .inl rfl, .inl rfl, .inl rfl, .inl rfl, .inl rfl, .inl rfl, .inl rfl, .inl rfl, .inl rfl, .inl rfl, .inl rfl, .inl rfl, True.intro⟩ (Nat.le_refl 19) (Wd.below _) rfl
  · cases hm
    refine acalls_of_awp hT mixed Try.func15 rfl (by kernel_rfl) (by kernel_rfl) (Nat.le_of_ble_eq_true rfl) ?_
    refine callW (cs := [bo off, i64 (sec : Nat), .slc 1 0 8 1, .slc 2 0 8 1]) (rest := [i64 2]) hp rfl rfl rfl ?_
    refine Ob.intro (show (0 : Int) ≤ 2 ∧ (2 : Int) < ((8 : Nat) : Int) from ⟨by omega, by omega⟩) ?_
    refine callH (keysF_ok m.E) [13] rfl ⟨oM rfl, True.intro⟩ rfl rfl (by simp only [renH, renO_mp]; rfl) ?_
    refine callH (sortedF_ok m (hok m (by simp)) (hlen m (by simp)) (hwf m (by simp))) [13, 19] rfl ⟨oM rfl, .inl rfl, True.intro⟩ rfl rfl (by simp only [renH, renO_mp]; rfl) ?_
    exact endH rfl rfl rfl ⟨.inl rfl, .inl rfl, .inl rfl, .inl rfl, .inl rfl, .inl rfl, .inl rfl, .inl rfl, .inl rfl, .inl rfl, .inl rfl, .inl rfl, .inl rfl, .inl rfl, .inl rfl, .inl rfl, .inl rfl, .inl rfl, .inl rfl, True.intro⟩ (Nat.le_refl 19) (Wd.below _) rfl
  · cases hm
    refine acalls_of_awp hT mixed Try.func15 rfl (by kernel_rfl) (by kernel_rfl) (Nat.le_of_ble_eq_true rfl) ?_
    refine callW (cs := [bo off, i64 (sec : Nat), .slc 1 0 8 1, .slc 2 0 8 1]) (rest := [i64 3]) hp rfl rfl rfl ?_
    refine Ob.intro (show (0 : Int) ≤ 3 ∧ (3 : Int) < ((8 : Nat) : Int) from ⟨by omega, by omega⟩) ?_
    refine callH (keysF_ok m.E) [14] rfl ⟨oM rfl, True.intro⟩ rfl rfl (by simp only [renH, renO_mp]; rfl) ?_
    refine callH (sortedF_ok m (hok m (by simp)) (hlen m (by simp)) (hwf m (by simp))) [14, 19] rfl ⟨oM rfl, .inl rfl, True.intro⟩ rfl rfl (by simp only [renH, renO_mp]; rfl) ?_
    exact endH rfl rfl rfl ⟨.inl rfl, .inl rfl, .inl rfl, .inl rfl, .inl rfl, .inl rfl, .inl rfl, .inl rfl, .inl rfl, .inl rfl, .inl rfl, .inl rfl, .inl rfl, .inl rfl, .inl rfl, .inl rfl, .inl rfl, .inl rfl, .inl rfl, True.intro⟩ (Nat.le_refl 19) (Wd.below _) rfl
  · cases hm
    refine acalls_of_awp hT mixed Try.func15 rfl (by kernel_rfl) (by kernel_rfl) (Nat.le_of_ble_eq_true rfl) ?_
    refine callW (cs := [bo off, i64 (sec : Nat), .slc 1 0 8 1, .slc 2 0 8 1]) (rest := [i64 4]) hp rfl rfl rfl ?_
    refine Ob.intro (show (0 : Int) ≤ 4 ∧ (4 : Int) < ((8 : Nat) : Int) from ⟨by omega, by omega⟩) ?_
    refine callH (keysF_ok m.E) [15] rfl ⟨oM rfl, True.intro⟩ rfl rfl (by simp only [renH, renO_mp]; rfl) ?_
    refine callH (sortedF_ok m (hok m (by simp)) (hlen m (by simp)) (hwf m (by simp))) [15, 19] rfl ⟨oM rfl, .inl rfl, True.intro⟩ rfl rfl (by simp only [renH, renO_mp]; rfl) ?_
    exact endH rfl rfl rfl ⟨.inl rfl, .inl rfl, .inl rfl, .inl rfl, .inl rfl, .inl rfl, .inl rfl, .inl rfl, .inl rfl, .inl rfl, .inl rfl, .inl rfl, .inl rfl, .inl rfl, .inl rfl, .inl rfl, .inl rfl, .inl rfl, .inl rfl, True.intro⟩ (Nat.le_refl 19) (Wd.below _) rfl
  · cases hm
    refine acalls_of_awp hT mixed Try.func15 rfl (by kernel_rfl) (by kernel_rfl) (Nat.le_of_ble_eq_true rfl) ?_
    refine callW (cs := [bo off, i64 (sec : Nat), .slc 1 0 8 1, .slc 2 0 8 1]) (rest := [i64 5]) hp rfl rfl rfl ?_
    refine Ob.intro (show (0 : Int) ≤ 5 ∧ (5 : Int) < ((8 : Nat) : Int) from ⟨by omega, by omega⟩) ?_
    refine callH (keysF_ok m.E) [16] rfl ⟨oM rfl, True.intro⟩ rfl rfl (by simp only [renH, renO_mp]; rfl) ?_
    refine callH (sortedF_ok m (hok m (by simp)) (hlen m (by simp)) (hwf m (by simp))) [16, 19] rfl ⟨oM rfl, .inl rfl, True.intro⟩ rfl rfl (by simp only [renH, renO_mp]; rfl) ?_
    exact endH rfl rfl rfl ⟨.inl rfl, .inl rfl, .inl rfl, .inl rfl, .inl rfl, .inl rfl, .inl rfl, .inl rfl, .inl rfl, .inl rfl, .inl rfl, .inl rfl, .inl rfl, .inl rfl, .inl rfl, .inl rfl, .inl rfl, .inl rfl, .inl rfl, True.intro⟩ (Nat.le_refl 19) (Wd.below _) rfl
  · cases hm
    refine acalls_of_awp hT mixed Try.func15 rfl (by kernel_rfl) (by kernel_rfl) (Nat.le_of_ble_eq_true rfl) ?_
    refine callW (cs := [bo off, i64 (sec : Nat), .slc 1 0 8 1, .slc 2 0 8 1]) (rest := [i64 6]) hp rfl rfl rfl ?_
    refine Ob.intro (show (0 : Int) ≤ 6 ∧ (6 : Int) < ((8 : Nat) : Int) from ⟨by omega, by omega⟩) ?_
    refine callH (keysF_ok m.E) [17] rfl ⟨oM rfl, True.intro⟩ rfl rfl (by simp only [renH, renO_mp]; rfl) ?_
    refine callH (sortedF_ok m (hok m (by simp)) (hlen m (by simp)) (hwf m (by simp))) [17, 19] rfl ⟨oM rfl, .inl rfl, True.intro⟩ rfl rfl (by simp only [renH, renO_mp]; rfl) ?_
    exact endH rfl rfl rfl ⟨.inl rfl, .inl rfl, .inl rfl, .inl rfl, .inl rfl, .inl rfl, .inl rfl, .inl rfl, .inl rfl, .inl rfl, .inl rfl, .inl rfl, .inl rfl, .inl rfl, .inl rfl, .inl rfl, .inl rfl, .inl rfl, .inl rfl, True.intro⟩ (Nat.le_refl 19) (Wd.below _) rfl
  · cases hm
    refine acalls_of_awp hT mixed Try.func15 rfl (by kernel_rfl) (by kernel_rfl) (Nat.le_of_ble_eq_true rfl) ?_
    refine callW (cs := [bo off, i64 (sec : Nat), .slc 1 0 8 1, .slc 2 0 8 1]) (rest := [i64 7]) hp rfl rfl rfl ?_
    refine Ob.intro (show (0 : Int) ≤ 7 ∧ (7 : Int) < ((8 : Nat) : Int) from ⟨by omega, by omega⟩) ?_
    refine callH (keysF_ok m.E) [18] rfl ⟨oM rfl, True.intro⟩ rfl rfl (by simp only [renH, renO_mp]; rfl) ?_
    refine callH (sortedF_ok m (hok m (by simp)) (hlen m (by simp)) (hwf m (by simp))) [18, 19] rfl ⟨oM rfl, .inl rfl, True.intro⟩ rfl rfl (by simp only [renH, renO_mp]; rfl) ?_
    exact endH rfl rfl rfl ⟨.inl rfl, .inl rfl, .inl rfl, .inl rfl, .inl rfl, .inl rfl, .inl rfl, .inl rfl, .inl rfl, .inl rfl, .inl rfl, .inl rfl, .inl rfl, .inl rfl, .inl rfl, .inl rfl, .inl rfl, .inl rfl, .inl rfl, True.intro⟩ (Nat.le_refl 19) (Wd.below _) rfl
end Go.Proofs.Ytpkbdlocmjgmbaa.A
