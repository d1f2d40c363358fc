/- extent: New. No condition. -/
import Derived.Test.YthbncljlclcecaaDoorXm
namespace Go.Proofs.YthbncljlclcecaaDoor.A
open Go
set_option linter.unusedVariables false
set_option linter.unusedSimpArgs false
set_option maxRecDepth 100000
set_option pp.maxSteps 1600
abbrev dlXo1a : List Nat := [0, 0, 0, 0, 0, 0, 0, 0, 1, 1, 1, 2]
abbrev dlXo1b : List (List Nat) := [[], [], [1], [1, 2], [1, 2, 3], [], [5], [5, 6], [1, 2, 3, 4, 5, 6, 7], [0, 1, 2, 3, 4, 5, 6, 7, 8], [0, 1, 2, 3, 4, 5, 6, 7, 8, 9], [0, 1, 2, 3, 4, 5, 6, 7, 8, 9, 10]]
abbrev dlXo1c : List Nat := [0, 0, 0, 0, 0, 0, 0, 1, 2, 2, 2, 2]
abbrev dlXo1d : List Nat := [8, 11]
abbrev dlXo1e : List (List Nat) := [[6], [6], [28], [29], [30], [1], [32, 32], [33], [31, 34], [27], [36], [37, 35]]
theorem wincQ {n : Nat} (h : n < 1000000) : wrp .i64 ((n : Int) + 1) = ((n + 1 : Nat) : Int) := by rw [wrpE, wi64]; omega
theorem zeros_str (k : Nat) : zerosA ti9.zero k = (List.replicate k ByteArray.empty).map str := by
  unfold zerosA
  induction k with
  | zero => rfl
  | succ k ih => rw [List.replicate_succ, List.replicate_succ, List.flatten_cons, List.map_cons, ih]; rfl
def newW (n sec : Nat) : Wd := ⟨false, sec, List.replicate n (List.replicate sec ByteArray.empty), List.replicate n ⟨0, []⟩⟩
set_option maxHeartbeats 4000000 in
theorem newE_ok (n sec : Nat) (h1 : 1 ≤ n) (h8 : n ≤ 8) (h2 : 1 ≤ sec) (h3 : sec ≤ 128) : ACalls Tryd.prog 8 [i64 n, i64 sec] [] (RetH (.tup [.ptr 0 0, i64 0]) (newW n sec).H) := by
  refine acalls_of_awpC [7] hT mixed Tryd.func8 rfl (by kernel_rfl) (by kernel_rfl) (Nat.le_of_ble_eq_true rfl) ?_
  refine forkD (fun h => ?_) (fun _ => ?_)
  · exact absurd h (by omega)
  refine forkD (fun h => ?_) (fun _ => ?_)
  · exact absurd h (by omega)
  refine forkD (fun h => ?_) (fun _ => ?_)
  · exact absurd h (by omega)
  refine forkD (fun h => ?_) (fun _ => ?_)
  · exact absurd h (by omega)
  refine loopG (α := { j : Nat // j ≤ n }) (fun z => [(1, i64 (sec : Nat)), (6, .ptr 0 0), (24, i64 (n : Nat)), (25, i64 (z.val : Nat))]) (fun z => (newW z.val sec).H) [] (fun z => n - z.val) ⟨0, Nat.zero_le _⟩ [.cell 0 2 1, .cell 0 3 1] [0, 1, 2] ⟨⟨rfl, rfl, rfl, rfl, True.intro⟩, ⟨.inl rfl, .inl rfl, .inl rfl, True.intro⟩, rfl, rfl, rfl⟩ ?_
  rintro ⟨j, hj⟩ K hK
  dsimp only at hj ⊢
  refine forkD (fun g => ?_) (fun g => ?_)
  · have g' : j < n := by have : (j : Int) < (n : Int) := g; omega
    have hmk : (0 : Int) ≤ (sec : Nat) ∧ ((sec : Nat) : Int) ≤ (sec : Nat) ∧ ((sec : Nat) : Int) ≤ 140737488355328 ∧ (16 : Int) * (sec : Nat) ≤ 140737488355328 := by omega
    match j, hj, g' with
    | 0, hj, g' =>
      refine cutI (α := Unit) (fun _ => [(1, i64 (sec : Nat)), (6, .ptr 0 0), (24, i64 (n : Nat)), (25, i64 ((0 : Nat) : Nat))]) (fun _ => (Wd.mk false sec (List.replicate 1 (List.replicate sec ByteArray.empty)) (List.replicate 0 ⟨0, []⟩)).H) [] (fun K1 hK1 => ?_) (fun _ => ?_)
      · clear hK
        refine ⟨dlXo1a, dlXo1b, dlXo1c, dlXo1d, dlXo1e, Ob.intro (by kernel_rfl) ?_⟩
        repeat first | refine same ?_ | refine Ob.intro hmk ?_ | refine Ob.intro rfl ?_ | refine Ob.intro ⟨Nat.le_of_ble_eq_true rfl, Nat.le_of_ble_eq_true rfl⟩ ?_
        exact hK1 () [] [0, 5, 2, 3] _ ⟨⟨rfl, rfl, rfl, rfl, True.intro⟩, ⟨.inl rfl, .inl rfl, .inl rfl, .inl (by rw [renO_str]; exact congrArg (fun l => some (AObj.row l)) (zeros_str sec)), True.intro⟩, rfl, rfl, rfl⟩
      · repeat first | refine same ?_ | refine Ob.intro rfl ?_ | refine Ob.intro ⟨Nat.le_of_ble_eq_true rfl, Nat.le_of_ble_eq_true rfl⟩ ?_
        exact hK ⟨1, g'⟩ [] [0, 1, 6, 3, 4] _ (show n - 0 = n - 1 + 1 by omega) ⟨⟨rfl, rfl, rfl, congrArg i64 (wincQ (n := 0) (by omega)), True.intro⟩, ⟨.inl rfl, .inl rfl, .inl rfl, oS rfl, .inl rfl, True.intro⟩, rfl, rfl, rfl⟩
    | 1, hj, g' =>
      refine cutI (α := Unit) (fun _ => [(1, i64 (sec : Nat)), (6, .ptr 0 0), (24, i64 (n : Nat)), (25, i64 ((1 : Nat) : Nat))]) (fun _ => (Wd.mk false sec (List.replicate 2 (List.replicate sec ByteArray.empty)) (List.replicate 1 ⟨0, []⟩)).H) [] (fun K1 hK1 => ?_) (fun _ => ?_)
      · clear hK
        refine ⟨dlXo1a, dlXo1b, dlXo1c, dlXo1d, dlXo1e, Ob.intro (by kernel_rfl) ?_⟩
        repeat first | refine same ?_ | refine Ob.intro hmk ?_ | refine Ob.intro rfl ?_ | refine Ob.intro ⟨Nat.le_of_ble_eq_true rfl, Nat.le_of_ble_eq_true rfl⟩ ?_
        exact hK1 () [] [0, 7, 2, 3, 5, 4] _ ⟨⟨rfl, rfl, rfl, rfl, True.intro⟩, ⟨.inl rfl, .inl rfl, .inl rfl, oS rfl, .inl (by rw [renO_str]; exact congrArg (fun l => some (AObj.row l)) (zeros_str sec)), oM rfl, True.intro⟩, rfl, rfl, rfl⟩
      · repeat first | refine same ?_ | refine Ob.intro rfl ?_ | refine Ob.intro ⟨Nat.le_of_ble_eq_true rfl, Nat.le_of_ble_eq_true rfl⟩ ?_
        exact hK ⟨2, g'⟩ [] [0, 1, 8, 3, 4, 5, 6] _ (show n - 1 = n - 2 + 1 by omega) ⟨⟨rfl, rfl, rfl, congrArg i64 (wincQ (n := 1) (by omega)), True.intro⟩, ⟨.inl rfl, .inl rfl, .inl rfl, oS rfl, oS rfl, oM rfl, .inl rfl, True.intro⟩, rfl, rfl, rfl⟩
    | 2, hj, g' =>
      refine cutI (α := Unit) (fun _ => [(1, i64 (sec : Nat)), (6, .ptr 0 0), (24, i64 (n : Nat)), (25, i64 ((2 : Nat) : Nat))]) (fun _ => (Wd.mk false sec (List.replicate 3 (List.replicate sec ByteArray.empty)) (List.replicate 2 ⟨0, []⟩)).H) [] (fun K1 hK1 => ?_) (fun _ => ?_)
      · clear hK
        refine ⟨dlXo1a, dlXo1b, dlXo1c, dlXo1d, dlXo1e, Ob.intro (by kernel_rfl) ?_⟩
        repeat first | refine same ?_ | refine Ob.intro hmk ?_ | refine Ob.intro rfl ?_ | refine Ob.intro ⟨Nat.le_of_ble_eq_true rfl, Nat.le_of_ble_eq_true rfl⟩ ?_
        exact hK1 () [] [0, 9, 2, 3, 4, 7, 5, 6] _ ⟨⟨rfl, rfl, rfl, rfl, True.intro⟩, ⟨.inl rfl, .inl rfl, .inl rfl, oS rfl, oS rfl, .inl (by rw [renO_str]; exact congrArg (fun l => some (AObj.row l)) (zeros_str sec)), oM rfl, oM rfl, True.intro⟩, rfl, rfl, rfl⟩
      · repeat first | refine same ?_ | refine Ob.intro rfl ?_ | refine Ob.intro ⟨Nat.le_of_ble_eq_true rfl, Nat.le_of_ble_eq_true rfl⟩ ?_
        exact hK ⟨3, g'⟩ [] [0, 1, 10, 3, 4, 5, 6, 7, 8] _ (show n - 2 = n - 3 + 1 by omega) ⟨⟨rfl, rfl, rfl, congrArg i64 (wincQ (n := 2) (by omega)), True.intro⟩, ⟨.inl rfl, .inl rfl, .inl rfl, oS rfl, oS rfl, oS rfl, oM rfl, oM rfl, .inl rfl, True.intro⟩, rfl, rfl, rfl⟩
    | 3, hj, g' =>
      refine cutI (α := Unit) (fun _ => [(1, i64 (sec : Nat)), (6, .ptr 0 0), (24, i64 (n : Nat)), (25, i64 ((3 : Nat) : Nat))]) (fun _ => (Wd.mk false sec (List.replicate 4 (List.replicate sec ByteArray.empty)) (List.replicate 3 ⟨0, []⟩)).H) [] (fun K1 hK1 => ?_) (fun _ => ?_)
      · clear hK
        refine ⟨dlXo1a, dlXo1b, dlXo1c, dlXo1d, dlXo1e, Ob.intro (by kernel_rfl) ?_⟩
        repeat first | refine same ?_ | refine Ob.intro hmk ?_ | refine Ob.intro rfl ?_ | refine Ob.intro ⟨Nat.le_of_ble_eq_true rfl, Nat.le_of_ble_eq_true rfl⟩ ?_
        exact hK1 () [] [0, 11, 2, 3, 4, 5, 9, 6, 7, 8] _ ⟨⟨rfl, rfl, rfl, rfl, True.intro⟩, ⟨.inl rfl, .inl rfl, .inl rfl, oS rfl, oS rfl, oS rfl, .inl (by rw [renO_str]; exact congrArg (fun l => some (AObj.row l)) (zeros_str sec)), oM rfl, oM rfl, oM rfl, True.intro⟩, rfl, rfl, rfl⟩
      · repeat first | refine same ?_ | refine Ob.intro rfl ?_ | refine Ob.intro ⟨Nat.le_of_ble_eq_true rfl, Nat.le_of_ble_eq_true rfl⟩ ?_
        exact hK ⟨4, g'⟩ [] [0, 1, 12, 3, 4, 5, 6, 7, 8, 9, 10] _ (show n - 3 = n - 4 + 1 by omega) ⟨⟨rfl, rfl, rfl, congrArg i64 (wincQ (n := 3) (by omega)), True.intro⟩, ⟨.inl rfl, .inl rfl, .inl rfl, oS rfl, oS rfl, oS rfl, oS rfl, oM rfl, oM rfl, oM rfl, .inl rfl, True.intro⟩, rfl, rfl, rfl⟩
    | 4, hj, g' =>
      refine cutI (α := Unit) (fun _ => [(1, i64 (sec : Nat)), (6, .ptr 0 0), (24, i64 (n : Nat)), (25, i64 ((4 : Nat) : Nat))]) (fun _ => (Wd.mk false sec (List.replicate 5 (List.replicate sec ByteArray.empty)) (List.replicate 4 ⟨0, []⟩)).H) [] (fun K1 hK1 => ?_) (fun _ => ?_)
      · clear hK
        refine ⟨dlXo1a, dlXo1b, dlXo1c, dlXo1d, dlXo1e, Ob.intro (by kernel_rfl) ?_⟩
        repeat first | refine same ?_ | refine Ob.intro hmk ?_ | refine Ob.intro rfl ?_ | refine Ob.intro ⟨Nat.le_of_ble_eq_true rfl, Nat.le_of_ble_eq_true rfl⟩ ?_
        exact hK1 () [] [0, 13, 2, 3, 4, 5, 6, 11, 7, 8, 9, 10] _ ⟨⟨rfl, rfl, rfl, rfl, True.intro⟩, ⟨.inl rfl, .inl rfl, .inl rfl, oS rfl, oS rfl, oS rfl, oS rfl, .inl (by rw [renO_str]; exact congrArg (fun l => some (AObj.row l)) (zeros_str sec)), oM rfl, oM rfl, oM rfl, oM rfl, True.intro⟩, rfl, rfl, rfl⟩
      · repeat first | refine same ?_ | refine Ob.intro rfl ?_ | refine Ob.intro ⟨Nat.le_of_ble_eq_true rfl, Nat.le_of_ble_eq_true rfl⟩ ?_
        exact hK ⟨5, g'⟩ [] [0, 1, 14, 3, 4, 5, 6, 7, 8, 9, 10, 11, 12] _ (show n - 4 = n - 5 + 1 by omega) ⟨⟨rfl, rfl, rfl, congrArg i64 (wincQ (n := 4) (by omega)), True.intro⟩, ⟨.inl rfl, .inl rfl, .inl rfl, oS rfl, oS rfl, oS rfl, oS rfl, oS rfl, oM rfl, oM rfl, oM rfl, oM rfl, .inl rfl, True.intro⟩, rfl, rfl, rfl⟩
    | 5, hj, g' =>
      refine cutI (α := Unit) (fun _ => [(1, i64 (sec : Nat)), (6, .ptr 0 0), (24, i64 (n : Nat)), (25, i64 ((5 : Nat) : Nat))]) (fun _ => (Wd.mk false sec (List.replicate 6 (List.replicate sec ByteArray.empty)) (List.replicate 5 ⟨0, []⟩)).H) [] (fun K1 hK1 => ?_) (fun _ => ?_)
      · clear hK
        refine ⟨dlXo1a, dlXo1b, dlXo1c, dlXo1d, dlXo1e, Ob.intro (by kernel_rfl) ?_⟩
        repeat first | refine same ?_ | refine Ob.intro hmk ?_ | refine Ob.intro rfl ?_ | refine Ob.intro ⟨Nat.le_of_ble_eq_true rfl, Nat.le_of_ble_eq_true rfl⟩ ?_
        exact hK1 () [] [0, 15, 2, 3, 4, 5, 6, 7, 13, 8, 9, 10, 11, 12] _ ⟨⟨rfl, rfl, rfl, rfl, True.intro⟩, ⟨.inl rfl, .inl rfl, .inl rfl, oS rfl, oS rfl, oS rfl, oS rfl, oS rfl, .inl (by rw [renO_str]; exact congrArg (fun l => some (AObj.row l)) (zeros_str sec)), oM rfl, oM rfl, oM rfl, oM rfl, oM rfl, True.intro⟩, rfl, rfl, rfl⟩
      · repeat first | refine same ?_ | refine Ob.intro rfl ?_ | refine Ob.intro ⟨Nat.le_of_ble_eq_true rfl, Nat.le_of_ble_eq_true rfl⟩ ?_
        exact hK ⟨6, g'⟩ [] [0, 1, 16, 3, 4, 5, 6, 7, 8, 9, 10, 11, 12, 13, 14] _ (show n - 5 = n - 6 + 1 by omega) ⟨⟨rfl, rfl, rfl, congrArg i64 (wincQ (n := 5) (by omega)), True.intro⟩, ⟨.inl rfl, .inl rfl, .inl rfl, oS rfl, oS rfl, oS rfl, oS rfl, oS rfl, oS rfl, oM rfl, oM rfl, oM rfl, oM rfl, oM rfl, .inl rfl, True.intro⟩, rfl, rfl, rfl⟩
    | 6, hj, g' =>
      refine cutI (α := Unit) (fun _ => [(1, i64 (sec : Nat)), (6, .ptr 0 0), (24, i64 (n : Nat)), (25, i64 ((6 : Nat) : Nat))]) (fun _ => (Wd.mk false sec (List.replicate 7 (List.replicate sec ByteArray.empty)) (List.replicate 6 ⟨0, []⟩)).H) [] (fun K1 hK1 => ?_) (fun _ => ?_)
      · clear hK
        refine ⟨dlXo1a, dlXo1b, dlXo1c, dlXo1d, dlXo1e, Ob.intro (by kernel_rfl) ?_⟩
        repeat first | refine same ?_ | refine Ob.intro hmk ?_ | refine Ob.intro rfl ?_ | refine Ob.intro ⟨Nat.le_of_ble_eq_true rfl, Nat.le_of_ble_eq_true rfl⟩ ?_
        exact hK1 () [] [0, 17, 2, 3, 4, 5, 6, 7, 8, 15, 9, 10, 11, 12, 13, 14] _ ⟨⟨rfl, rfl, rfl, rfl, True.intro⟩, ⟨.inl rfl, .inl rfl, .inl rfl, oS rfl, oS rfl, oS rfl, oS rfl, oS rfl, oS rfl, .inl (by rw [renO_str]; exact congrArg (fun l => some (AObj.row l)) (zeros_str sec)), oM rfl, oM rfl, oM rfl, oM rfl, oM rfl, oM rfl, True.intro⟩, rfl, rfl, rfl⟩
      · repeat first | refine same ?_ | refine Ob.intro rfl ?_ | refine Ob.intro ⟨Nat.le_of_ble_eq_true rfl, Nat.le_of_ble_eq_true rfl⟩ ?_
        exact hK ⟨7, g'⟩ [] [0, 1, 18, 3, 4, 5, 6, 7, 8, 9, 10, 11, 12, 13, 14, 15, 16] _ (show n - 6 = n - 7 + 1 by omega) ⟨⟨rfl, rfl, rfl, congrArg i64 (wincQ (n := 6) (by omega)), True.intro⟩, ⟨.inl rfl, .inl rfl, .inl rfl, oS rfl, oS rfl, oS rfl, oS rfl, oS rfl, oS rfl, oS rfl, oM rfl, oM rfl, oM rfl, oM rfl, oM rfl, oM rfl, .inl rfl, True.intro⟩, rfl, rfl, rfl⟩
    | 7, hj, g' =>
      refine cutI (α := Unit) (fun _ => [(1, i64 (sec : Nat)), (6, .ptr 0 0), (24, i64 (n : Nat)), (25, i64 ((7 : Nat) : Nat))]) (fun _ => (Wd.mk false sec (List.replicate 8 (List.replicate sec ByteArray.empty)) (List.replicate 7 ⟨0, []⟩)).H) [] (fun K1 hK1 => ?_) (fun _ => ?_)
      · clear hK
        refine ⟨dlXo1a, dlXo1b, dlXo1c, dlXo1d, dlXo1e, Ob.intro (by kernel_rfl) ?_⟩
        repeat first | refine same ?_ | refine Ob.intro hmk ?_ | refine Ob.intro rfl ?_ | refine Ob.intro ⟨Nat.le_of_ble_eq_true rfl, Nat.le_of_ble_eq_true rfl⟩ ?_
        exact hK1 () [] [0, 19, 2, 3, 4, 5, 6, 7, 8, 9, 17, 10, 11, 12, 13, 14, 15, 16] _ ⟨⟨rfl, rfl, rfl, rfl, True.intro⟩, ⟨.inl rfl, .inl rfl, .inl rfl, oS rfl, oS rfl, oS rfl, oS rfl, oS rfl, oS rfl, oS rfl, .inl (by rw [renO_str]; exact congrArg (fun l => some (AObj.row l)) (zeros_str sec)), oM rfl, oM rfl, oM rfl, oM rfl, oM rfl, oM rfl, oM rfl, True.intro⟩, rfl, rfl, rfl⟩
      · repeat first | refine same ?_ | refine Ob.intro rfl ?_ | refine Ob.intro ⟨Nat.le_of_ble_eq_true rfl, Nat.le_of_ble_eq_true rfl⟩ ?_
        exact hK ⟨8, g'⟩ [] [0, 1, 20, 3, 4, 5, 6, 7, 8, 9, 10, 11, 12, 13, 14, 15, 16, 17, 18] _ (show n - 7 = n - 8 + 1 by omega) ⟨⟨rfl, rfl, rfl, congrArg i64 (wincQ (n := 7) (by omega)), True.intro⟩, ⟨.inl rfl, .inl rfl, .inl rfl, oS rfl, oS rfl, oS rfl, oS rfl, oS rfl, oS rfl, oS rfl, oS rfl, oM rfl, oM rfl, oM rfl, oM rfl, oM rfl, oM rfl, oM rfl, .inl rfl, True.intro⟩, rfl, rfl, rfl⟩
    | j + 8, hj, g' => exact absurd g' (by omega)
  · have e : j = n := by
      have : ¬ (j : Int) < (n : Int) := g
      omega
    subst e
    match j, h8, h1 with
    | 1, _, _ => exact endH rfl rfl rfl ⟨.inl rfl, .inl rfl, .inl rfl, .inl rfl, .inl rfl, True.intro⟩ (Nat.zero_le _) (Wd.below _) rfl
    | 2, _, _ => exact endH rfl rfl rfl ⟨.inl rfl, .inl rfl, .inl rfl, .inl rfl, .inl rfl, .inl rfl, .inl rfl, True.intro⟩ (Nat.zero_le _) (Wd.below _) rfl
    | 3, _, _ => exact endH rfl rfl rfl ⟨.inl rfl, .inl rfl, .inl rfl, .inl rfl, .inl rfl, .inl rfl, .inl rfl, .inl rfl, .inl rfl, True.intro⟩ (Nat.zero_le _) (Wd.below _) rfl
    | 4, _, _ => exact endH rfl rfl rfl ⟨.inl rfl, .inl rfl, .inl rfl, .inl rfl, .inl rfl, .inl rfl, .inl rfl, .inl rfl, .inl rfl, .inl rfl, .inl rfl, True.intro⟩ (Nat.zero_le _) (Wd.below _) rfl
    | 5, _, _ => exact endH rfl rfl rfl ⟨.inl rfl, .inl rfl, .inl rfl, .inl rfl, .inl rfl, .inl rfl, .inl rfl, .inl rfl, .inl rfl, .inl rfl, .inl rfl, .inl rfl, .inl rfl, True.intro⟩ (Nat.zero_le _) (Wd.below _) rfl
    | 6, _, _ => exact endH rfl rfl rfl ⟨.inl rfl, .inl rfl, .inl rfl, .inl rfl, .inl rfl, .inl rfl, .inl rfl, .inl rfl, .inl rfl, .inl rfl, .inl rfl, .inl rfl, .inl rfl, .inl rfl, .inl rfl, True.intro⟩ (Nat.zero_le _) (Wd.below _) rfl
    | 7, _, _ => exact endH rfl rfl rfl ⟨.inl rfl, .inl rfl, .inl rfl, .inl rfl, .inl rfl, .inl rfl, .inl rfl, .inl rfl, .inl rfl, .inl rfl, .inl rfl, .inl rfl, .inl rfl, .inl rfl, .inl rfl, .inl rfl, .inl rfl, True.intro⟩ (Nat.zero_le _) (Wd.below _) rfl
    | 8, _, _ => exact endH rfl rfl rfl ⟨.inl rfl, .inl rfl, .inl rfl, .inl rfl, .inl rfl, .inl rfl, .inl rfl, .inl rfl, .inl rfl, .inl rfl, .inl rfl, .inl rfl, .inl rfl, .inl rfl, .inl rfl, .inl rfl, .inl rfl, .inl rfl, .inl rfl, True.intro⟩ (Nat.zero_le _) (Wd.below _) rfl
    | 0, _, h => exact absurd h (by omega)
    | j + 9, h, _ => exact absurd h (by omega)
end Go.Proofs.YthbncljlclcecaaDoor.A
