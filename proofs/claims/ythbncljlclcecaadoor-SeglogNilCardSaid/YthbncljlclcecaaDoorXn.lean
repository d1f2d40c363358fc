/- extent: Crash (printed by genexc.py). No condition. -/
import Derived.Test.YthbncljlclcecaaDoorXm
namespace Go.Proofs.YthbncljlclcecaaDoor.A
open Go
set_option linter.unusedVariables false
set_option linter.unusedSimpArgs false
set_option maxRecDepth 100000
set_option pp.maxSteps 600
abbrev dlXn2a : List Nat := [0, 0, 0, 0, 0, 0, 0, 0, 0, 0, 0, 0, 0, 0, 0, 0]
abbrev dlXn2b : List (List Nat) := [[], [0], [0, 1], [0, 1, 2], [], [4], [0, 1, 2, 3, 4, 5], [0, 1, 2, 3, 4, 5, 6], [], [8], [0, 1, 2, 3, 4, 5, 6, 7, 8, 9], [0, 1, 2, 3, 4, 5, 6, 7, 8, 9, 10], [0, 1, 2, 3, 4, 5, 6, 7, 8, 9, 10, 11], [0, 1, 2, 3, 4, 5, 6, 7, 8, 9, 10, 11], [0, 1, 2, 3, 4, 5, 6, 7, 8, 9, 10, 11, 12], [0, 1, 2, 3, 4, 5, 6, 7, 8, 9, 10, 11, 12, 13, 14]]
abbrev dlXn2c : List Nat := [0, 0, 0, 0, 0, 0, 0, 0, 0, 0, 0, 0, 0, 0, 0, 0]
abbrev dlXn2d : List Nat := []
abbrev dlXn2e : List (List Nat) := [[0], [33], [34], [35], [6], [37], [36, 38], [39], [6], [41], [40, 42], [43], [32], [32], [44], [45]]
abbrev dlXn1a : List Nat := [0, 0, 0, 0, 0, 0, 0, 0, 0, 0, 0, 0, 1]
abbrev dlXn1b : List (List Nat) := [[], [0], [0, 1], [0, 1, 2], [], [4], [0, 1, 2, 3, 4, 5], [0, 1, 2, 3, 4, 5, 6], [], [8], [], [0, 1, 2, 3, 4, 5, 6, 7, 8, 9, 10], [0, 1, 2, 3, 4, 5, 6, 7, 8, 9, 10, 11]]
abbrev dlXn1c : List Nat := [0, 0, 0, 0, 0, 0, 0, 0, 0, 0, 0, 0, 0]
abbrev dlXn1d : List Nat := [12]
abbrev dlXn1e : List (List Nat) := [[0], [47], [48], [49], [6], [51], [50, 52], [53], [6], [55], [7], [54, 56], [58, 57]]
/-- A pick's cells. -/
def pkC (p : Int × Int) : List AV := [i64 p.1, i64 p.2]
def pick1 (sec : Nat) (M : List Mp) (D : List (List ByteArray)) (p : Int × Int) : List (List ByteArray) :=
  if inS sec M.length p.1 p.2 then
    match M[p.1.toNat]?.bind fun m => m.get p.2 with
    | some s => D.modify p.1.toNat fun d => d.set p.2.toNat s
    | none => D
  else D
/-- What is dry behind the picks. -/
def picksD (sec : Nat) (M : List Mp) (D : List (List ByteArray)) (ps : List (Int × Int)) : List (List ByteArray) := ps.foldl (pick1 sec M) D
theorem picksD_snoc {sec : Nat} {M : List Mp} {D : List (List ByteArray)} {ps : List (Int × Int)} {j : Nat} {p : Int × Int} (h : ps[j]? = some p) : picksD sec M D (ps.take (j + 1)) = pick1 sec M (picksD sec M D (ps.take j)) p := by
  unfold picksD
  rw [List.take_add_one, h, List.foldl_append]
  rfl
theorem pick1_no {sec : Nat} {M : List Mp} {D : List (List ByteArray)} {p : Int × Int} (h : ¬ inS sec M.length p.1 p.2) : pick1 sec M D p = D := if_neg h
theorem pick1_none {sec : Nat} {M : List Mp} {D : List (List ByteArray)} {p : Int × Int} {m : Mp} (hm : M[p.1.toNat]? = some m) (h : getE m.L p.2 = none) : pick1 sec M D p = D := by
  unfold pick1
  rw [hm]
  show (if _ then (match getE m.L p.2 with | some s => _ | none => D) else D) = D
  rw [h]
  split <;> rfl
theorem pick1_some {sec : Nat} {M : List Mp} {D : List (List ByteArray)} {p : Int × Int} {m : Mp} {s : ByteArray} (hin : inS sec M.length p.1 p.2) (hm : M[p.1.toNat]? = some m) (h : getE m.L p.2 = some s) : pick1 sec M D p = D.modify p.1.toNat fun d => d.set p.2.toNat s := by
  unfold pick1
  rw [if_pos hin, hm]
  show (match getE m.L p.2 with | some s => _ | none => D) = _
  rw [h]
theorem wincP {n : Nat} (h : n < 1000000) : wrp .i64 ((n : Int) + 1) = ((n + 1 : Nat) : Int) := by rw [wrpE, wi64]; omega

structure Cr1 (sec : Nat) (M : List Mp) (D : List (List ByteArray)) (ps : List (Int × Int)) where
  j : Nat
  x0 : List ByteArray
  hj : j ≤ ps.length
  hx : picksD sec M D (ps.take j) = [x0]
  l0 : x0.length = sec
def clr1 (j : Nat) (M : List Mp) : List Mp := (M.take j).map Mp.clr ++ M.drop j
theorem crash_1 (sec : Nat) (D : List (List ByteArray)) (M : List Mp) (ps : List (Int × Int)) (hD : D.length = 1) (hM : M.length = 1) (hps : ps.length ≤ 100000) (hl : ∀ d ∈ D, d.length = sec) :
    ACalls Tryd.prog 21 [.ptr 0 0, .view ps.length (flat pkC ps)] (Wd.mk false sec D M).H (RetH (i64 0) (Wd.mk true sec (picksD sec M D ps) (M.map Mp.clr)).H) := by
  match D, hD, M, hM with
  | [d0], _, [m0], _ =>
  refine acalls_of_awp hT mixed Tryd.func21 rfl (by kernel_rfl) (by kernel_rfl) (Nat.le_of_ble_eq_true rfl) ?_
  refine loopI (α := Cr1 sec [m0] [d0] ps) (fun z => [(0, .ptr 0 0), (1, .view ps.length (flat pkC ps)), (19, .view ps.length (flat pkC ps)), (20, i64 (ps.length : Nat)), (21, i64 (z.j : Nat))]) (fun z => (Wd.mk false sec [z.x0] [m0]).H) (fun z => ps.length - z.j) (Cr1.mk 0 d0 (Nat.zero_le _) rfl (hl d0 (by simp))) [0, 1, 2, 3, 4] ⟨⟨rfl, rfl, rfl, rfl, rfl, True.intro⟩, ⟨.inl rfl, .inl rfl, .inl rfl, oS rfl, oM rfl, True.intro⟩, rfl, rfl, rfl⟩ ?_
  rintro ⟨j, x0, hj, hx, l0⟩ K hK
  dsimp only at hj hx l0 ⊢
  refine forkD (fun g => ?_) (fun g => ?_)
  · have g' : j < ps.length := by have : (j : Int) < (ps.length : Int) := g; omega
    obtain ⟨⟨a, b⟩, hp⟩ : ∃ p, ps[j]? = some p := ⟨_, List.getElem?_eq_getElem g'⟩
    have hm := may_ok false (sec : Nat) 1 a b
    refine Ob.intro (show (0 : Int) ≤ (j : Nat) ∧ ((j : Nat) : Int) < (ps.length : Nat) by omega) ?_
    refine optK_intro (flat_takeN (f := pkC) (n := 2) (fun _ => rfl) hp) ?_
    by_cases hin : inS sec 1 a b
    · rw [if_pos hin] at hm
      have hin0 := hin
      obtain ⟨⟨h1, h2⟩, h3, h4⟩ := hin
      have he : a = 0 := by omega
      rcases he with rfl
      · refine callW (cs := [bo false, i64 (sec : Nat), .slc 1 0 1 1, .slc 2 0 1 1]) (rest := [i64 0, i64 b]) hm rfl rfl rfl ?_
        refine ⟨dlXn2a, dlXn2b, dlXn2c, dlXn2d, dlXn2e, Ob.intro (by kernel_rfl) ?_⟩
        repeat first | refine same ?_ | refine Ob.intro (show (0 : Int) ≤ 0 ∧ (0 : Int) < ((1 : Nat) : Int) from ⟨by omega, by omega⟩) ?_
        cases hg : getE m0.L b with
        | some s =>
          repeat first | refine same ?_ | refine Ob.intro (show (0 : Int) ≤ 0 ∧ (0 : Int) < ((1 : Nat) : Int) from ⟨by omega, by omega⟩) ?_ | refine optK_intro (lookR_some hg) ?_
          refine ⟨dlXn1a, dlXn1b, dlXn1c, dlXn1d, dlXn1e, Ob.intro (by kernel_rfl) ?_⟩
          repeat first | refine same ?_ | refine Ob.intro (show (0 : Int) ≤ 0 ∧ (0 : Int) < ((1 : Nat) : Int) from ⟨by omega, by omega⟩) ?_ | refine Ob.intro (show (0 : Int) ≤ b ∧ (b : Int) < ((sec : Nat) : Int) from ⟨h3, h4⟩) ?_
          refine wr_str (R := x0) (k := b.toNat) rfl rfl (by omega) (by omega) ?_
          exact hK (Cr1.mk (j + 1) (x0.set b.toNat s) (by omega) (by rw [picksD_snoc hp, hx]; exact pick1_some (p := (0, b)) (m := m0) hin0 rfl hg) (by rw [List.length_set]; exact l0)) [0, 1, 2, 3, 4] _ (show ps.length - j = ps.length - (j + 1) + 1 by omega) ⟨⟨rfl, rfl, rfl, rfl, congrArg i64 (wincP (by omega)), True.intro⟩, ⟨.inl rfl, .inl rfl, .inl rfl, oS rfl, oM rfl, True.intro⟩, rfl, rfl, rfl⟩
        | none =>
          repeat first | refine same ?_ | refine Ob.intro (show (0 : Int) ≤ 0 ∧ (0 : Int) < ((1 : Nat) : Int) from ⟨by omega, by omega⟩) ?_ | refine optK_intro (lookR_none hg) ?_
          exact hK (Cr1.mk (j + 1) (x0) (by omega) (by rw [picksD_snoc hp, hx]; exact pick1_none (p := (0, b)) (m := m0) rfl hg) l0) [0, 1, 2, 3, 4] _ (show ps.length - j = ps.length - (j + 1) + 1 by omega) ⟨⟨rfl, rfl, rfl, rfl, congrArg i64 (wincP (by omega)), True.intro⟩, ⟨.inl rfl, .inl rfl, .inl rfl, oS rfl, oM rfl, True.intro⟩, rfl, rfl, rfl⟩
    · rw [if_neg hin] at hm
      refine callW (cs := [bo false, i64 (sec : Nat), .slc 1 0 1 1, .slc 2 0 1 1]) (rest := [i64 a, i64 b]) hm rfl rfl rfl ?_
      exact hK (Cr1.mk (j + 1) (x0) (by omega) (by rw [picksD_snoc hp, hx]; exact pick1_no (p := (a, b)) hin) l0) [0, 1, 2, 3, 4] _ (show ps.length - j = ps.length - (j + 1) + 1 by omega) ⟨⟨rfl, rfl, rfl, rfl, congrArg i64 (wincP (by omega)), True.intro⟩, ⟨.inl rfl, .inl rfl, .inl rfl, oS rfl, oM rfl, True.intro⟩, rfl, rfl, rfl⟩
  · have hfin : picksD sec [m0] [d0] ps = [x0] := by
      have : ¬ (j : Int) < (ps.length : Int) := g
      rw [List.take_of_length_le (by omega)] at hx
      exact hx
    rw [hfin]
    clear hK hx hfin
    refine loopI (α := Fin 2) (fun z => [(0, .ptr 0 0), (63, .slc 2 0 1 1), (64, i64 (1 : Nat)), (65, i64 (z.val : Nat))]) (fun z => (Wd.mk false sec [x0] (clr1 z.val [m0])).H) (fun z => 1 - z.val) 0 [0, 1, 2, 3, 4] ⟨⟨rfl, rfl, rfl, rfl, True.intro⟩, ⟨.inl rfl, .inl rfl, .inl rfl, oS rfl, oM rfl, True.intro⟩, rfl, rfl, rfl⟩ ?_
    rintro ⟨j, hj⟩ K2 hK
    dsimp only at hj ⊢
    match j, hj with
    | 0, _ =>
      refine Ob.intro (show (0 : Int) ≤ ((0 : Nat) : Int) ∧ ((0 : Nat) : Int) < ((1 : Nat) : Int) by omega) ?_
      exact hK ⟨1, by omega⟩ [0, 1, 2, 3, 4] _ rfl ⟨⟨rfl, rfl, rfl, congrArg i64 (wincP (n := 0) (by omega)), True.intro⟩, ⟨.inl rfl, .inl rfl, .inl rfl, oS rfl, oM rfl, True.intro⟩, rfl, rfl, rfl⟩
    | 1, _ =>
      exact endH rfl rfl rfl ⟨.inl rfl, .inl rfl, .inl rfl, .inl rfl, .inl rfl, True.intro⟩ (Nat.le_refl 5) (Wd.below _) rfl
    | k + 2, hj => exact absurd hj (by omega)
structure Cr2 (sec : Nat) (M : List Mp) (D : List (List ByteArray)) (ps : List (Int × Int)) where
  j : Nat
  x0 : List ByteArray
  x1 : List ByteArray
  hj : j ≤ ps.length
  hx : picksD sec M D (ps.take j) = [x0, x1]
  l0 : x0.length = sec
  l1 : x1.length = sec
def clr2 (j : Nat) (M : List Mp) : List Mp := (M.take j).map Mp.clr ++ M.drop j
theorem crash_2 (sec : Nat) (D : List (List ByteArray)) (M : List Mp) (ps : List (Int × Int)) (hD : D.length = 2) (hM : M.length = 2) (hps : ps.length ≤ 100000) (hl : ∀ d ∈ D, d.length = sec) :
    ACalls Tryd.prog 21 [.ptr 0 0, .view ps.length (flat pkC ps)] (Wd.mk false sec D M).H (RetH (i64 0) (Wd.mk true sec (picksD sec M D ps) (M.map Mp.clr)).H) := by
  match D, hD, M, hM with
  | [d0, d1], _, [m0, m1], _ =>
  refine acalls_of_awp hT mixed Tryd.func21 rfl (by kernel_rfl) (by kernel_rfl) (Nat.le_of_ble_eq_true rfl) ?_
  refine loopI (α := Cr2 sec [m0, m1] [d0, d1] ps) (fun z => [(0, .ptr 0 0), (1, .view ps.length (flat pkC ps)), (19, .view ps.length (flat pkC ps)), (20, i64 (ps.length : Nat)), (21, i64 (z.j : Nat))]) (fun z => (Wd.mk false sec [z.x0, z.x1] [m0, m1]).H) (fun z => ps.length - z.j) (Cr2.mk 0 d0 d1 (Nat.zero_le _) rfl (hl d0 (by simp)) (hl d1 (by simp))) [0, 1, 2, 3, 4, 5, 6] ⟨⟨rfl, rfl, rfl, rfl, rfl, True.intro⟩, ⟨.inl rfl, .inl rfl, .inl rfl, oS rfl, oS rfl, oM rfl, oM rfl, True.intro⟩, rfl, rfl, rfl⟩ ?_
  rintro ⟨j, x0, x1, hj, hx, l0, l1⟩ K hK
  dsimp only at hj hx l0 l1 ⊢
  refine forkD (fun g => ?_) (fun g => ?_)
  · have g' : j < ps.length := by have : (j : Int) < (ps.length : Int) := g; omega
    obtain ⟨⟨a, b⟩, hp⟩ : ∃ p, ps[j]? = some p := ⟨_, List.getElem?_eq_getElem g'⟩
    have hm := may_ok false (sec : Nat) 2 a b
    refine Ob.intro (show (0 : Int) ≤ (j : Nat) ∧ ((j : Nat) : Int) < (ps.length : Nat) by omega) ?_
    refine optK_intro (flat_takeN (f := pkC) (n := 2) (fun _ => rfl) hp) ?_
    by_cases hin : inS sec 2 a b
    · rw [if_pos hin] at hm
      have hin0 := hin
      obtain ⟨⟨h1, h2⟩, h3, h4⟩ := hin
      have he : a = 0 ∨ a = 1 := by omega
      rcases he with rfl | rfl
      · refine callW (cs := [bo false, i64 (sec : Nat), .slc 1 0 2 1, .slc 2 0 2 1]) (rest := [i64 0, i64 b]) hm rfl rfl rfl ?_
        refine ⟨dlXn2a, dlXn2b, dlXn2c, dlXn2d, dlXn2e, Ob.intro (by kernel_rfl) ?_⟩
        repeat first | refine same ?_ | refine Ob.intro (show (0 : Int) ≤ 0 ∧ (0 : Int) < ((2 : Nat) : Int) from ⟨by omega, by omega⟩) ?_
        cases hg : getE m0.L b with
        | some s =>
          repeat first | refine same ?_ | refine Ob.intro (show (0 : Int) ≤ 0 ∧ (0 : Int) < ((2 : Nat) : Int) from ⟨by omega, by omega⟩) ?_ | refine optK_intro (lookR_some hg) ?_
          refine ⟨dlXn1a, dlXn1b, dlXn1c, dlXn1d, dlXn1e, Ob.intro (by kernel_rfl) ?_⟩
          repeat first | refine same ?_ | refine Ob.intro (show (0 : Int) ≤ 0 ∧ (0 : Int) < ((2 : Nat) : Int) from ⟨by omega, by omega⟩) ?_ | refine Ob.intro (show (0 : Int) ≤ b ∧ (b : Int) < ((sec : Nat) : Int) from ⟨h3, h4⟩) ?_
          refine wr_str (R := x0) (k := b.toNat) rfl rfl (by omega) (by omega) ?_
          exact hK (Cr2.mk (j + 1) (x0.set b.toNat s) (x1) (by omega) (by rw [picksD_snoc hp, hx]; exact pick1_some (p := (0, b)) (m := m0) hin0 rfl hg) (by rw [List.length_set]; exact l0) l1) [0, 1, 2, 3, 4, 5, 6] _ (show ps.length - j = ps.length - (j + 1) + 1 by omega) ⟨⟨rfl, rfl, rfl, rfl, congrArg i64 (wincP (by omega)), True.intro⟩, ⟨.inl rfl, .inl rfl, .inl rfl, oS rfl, oS rfl, oM rfl, oM rfl, True.intro⟩, rfl, rfl, rfl⟩
        | none =>
          repeat first | refine same ?_ | refine Ob.intro (show (0 : Int) ≤ 0 ∧ (0 : Int) < ((2 : Nat) : Int) from ⟨by omega, by omega⟩) ?_ | refine optK_intro (lookR_none hg) ?_
          exact hK (Cr2.mk (j + 1) (x0) (x1) (by omega) (by rw [picksD_snoc hp, hx]; exact pick1_none (p := (0, b)) (m := m0) rfl hg) l0 l1) [0, 1, 2, 3, 4, 5, 6] _ (show ps.length - j = ps.length - (j + 1) + 1 by omega) ⟨⟨rfl, rfl, rfl, rfl, congrArg i64 (wincP (by omega)), True.intro⟩, ⟨.inl rfl, .inl rfl, .inl rfl, oS rfl, oS rfl, oM rfl, oM rfl, True.intro⟩, rfl, rfl, rfl⟩
      · refine callW (cs := [bo false, i64 (sec : Nat), .slc 1 0 2 1, .slc 2 0 2 1]) (rest := [i64 1, i64 b]) hm rfl rfl rfl ?_
        refine ⟨dlXn2a, dlXn2b, dlXn2c, dlXn2d, dlXn2e, Ob.intro (by kernel_rfl) ?_⟩
        repeat first | refine same ?_ | refine Ob.intro (show (0 : Int) ≤ 1 ∧ (1 : Int) < ((2 : Nat) : Int) from ⟨by omega, by omega⟩) ?_
        cases hg : getE m1.L b with
        | some s =>
          repeat first | refine same ?_ | refine Ob.intro (show (0 : Int) ≤ 1 ∧ (1 : Int) < ((2 : Nat) : Int) from ⟨by omega, by omega⟩) ?_ | refine optK_intro (lookR_some hg) ?_
          refine ⟨dlXn1a, dlXn1b, dlXn1c, dlXn1d, dlXn1e, Ob.intro (by kernel_rfl) ?_⟩
          repeat first | refine same ?_ | refine Ob.intro (show (0 : Int) ≤ 1 ∧ (1 : Int) < ((2 : Nat) : Int) from ⟨by omega, by omega⟩) ?_ | refine Ob.intro (show (0 : Int) ≤ b ∧ (b : Int) < ((sec : Nat) : Int) from ⟨h3, h4⟩) ?_
          refine wr_str (R := x1) (k := b.toNat) rfl rfl (by omega) (by omega) ?_
          exact hK (Cr2.mk (j + 1) (x0) (x1.set b.toNat s) (by omega) (by rw [picksD_snoc hp, hx]; exact pick1_some (p := (1, b)) (m := m1) hin0 rfl hg) l0 (by rw [List.length_set]; exact l1)) [0, 1, 2, 3, 4, 5, 6] _ (show ps.length - j = ps.length - (j + 1) + 1 by omega) ⟨⟨rfl, rfl, rfl, rfl, congrArg i64 (wincP (by omega)), True.intro⟩, ⟨.inl rfl, .inl rfl, .inl rfl, oS rfl, oS rfl, oM rfl, oM rfl, True.intro⟩, rfl, rfl, rfl⟩
        | none =>
          repeat first | refine same ?_ | refine Ob.intro (show (0 : Int) ≤ 1 ∧ (1 : Int) < ((2 : Nat) : Int) from ⟨by omega, by omega⟩) ?_ | refine optK_intro (lookR_none hg) ?_
          exact hK (Cr2.mk (j + 1) (x0) (x1) (by omega) (by rw [picksD_snoc hp, hx]; exact pick1_none (p := (1, b)) (m := m1) rfl hg) l0 l1) [0, 1, 2, 3, 4, 5, 6] _ (show ps.length - j = ps.length - (j + 1) + 1 by omega) ⟨⟨rfl, rfl, rfl, rfl, congrArg i64 (wincP (by omega)), True.intro⟩, ⟨.inl rfl, .inl rfl, .inl rfl, oS rfl, oS rfl, oM rfl, oM rfl, True.intro⟩, rfl, rfl, rfl⟩
    · rw [if_neg hin] at hm
      refine callW (cs := [bo false, i64 (sec : Nat), .slc 1 0 2 1, .slc 2 0 2 1]) (rest := [i64 a, i64 b]) hm rfl rfl rfl ?_
      exact hK (Cr2.mk (j + 1) (x0) (x1) (by omega) (by rw [picksD_snoc hp, hx]; exact pick1_no (p := (a, b)) hin) l0 l1) [0, 1, 2, 3, 4, 5, 6] _ (show ps.length - j = ps.length - (j + 1) + 1 by omega) ⟨⟨rfl, rfl, rfl, rfl, congrArg i64 (wincP (by omega)), True.intro⟩, ⟨.inl rfl, .inl rfl, .inl rfl, oS rfl, oS rfl, oM rfl, oM rfl, True.intro⟩, rfl, rfl, rfl⟩
  · have hfin : picksD sec [m0, m1] [d0, d1] ps = [x0, x1] := by
      have : ¬ (j : Int) < (ps.length : Int) := g
      rw [List.take_of_length_le (by omega)] at hx
      exact hx
    rw [hfin]
    clear hK hx hfin
    refine loopI (α := Fin 3) (fun z => [(0, .ptr 0 0), (63, .slc 2 0 2 1), (64, i64 (2 : Nat)), (65, i64 (z.val : Nat))]) (fun z => (Wd.mk false sec [x0, x1] (clr2 z.val [m0, m1])).H) (fun z => 2 - z.val) 0 [0, 1, 2, 3, 4, 5, 6] ⟨⟨rfl, rfl, rfl, rfl, True.intro⟩, ⟨.inl rfl, .inl rfl, .inl rfl, oS rfl, oS rfl, oM rfl, oM rfl, True.intro⟩, rfl, rfl, rfl⟩ ?_
    rintro ⟨j, hj⟩ K2 hK
    dsimp only at hj ⊢
    match j, hj with
    | 0, _ =>
      refine Ob.intro (show (0 : Int) ≤ ((0 : Nat) : Int) ∧ ((0 : Nat) : Int) < ((2 : Nat) : Int) by omega) ?_
      exact hK ⟨1, by omega⟩ [0, 1, 2, 3, 4, 5, 6] _ rfl ⟨⟨rfl, rfl, rfl, congrArg i64 (wincP (n := 0) (by omega)), True.intro⟩, ⟨.inl rfl, .inl rfl, .inl rfl, oS rfl, oS rfl, oM rfl, oM rfl, True.intro⟩, rfl, rfl, rfl⟩
    | 1, _ =>
      refine Ob.intro (show (0 : Int) ≤ ((1 : Nat) : Int) ∧ ((1 : Nat) : Int) < ((2 : Nat) : Int) by omega) ?_
      exact hK ⟨2, by omega⟩ [0, 1, 2, 3, 4, 5, 6] _ rfl ⟨⟨rfl, rfl, rfl, congrArg i64 (wincP (n := 1) (by omega)), True.intro⟩, ⟨.inl rfl, .inl rfl, .inl rfl, oS rfl, oS rfl, oM rfl, oM rfl, True.intro⟩, rfl, rfl, rfl⟩
    | 2, _ =>
      exact endH rfl rfl rfl ⟨.inl rfl, .inl rfl, .inl rfl, .inl rfl, .inl rfl, .inl rfl, .inl rfl, True.intro⟩ (Nat.le_refl 7) (Wd.below _) rfl
    | k + 3, hj => exact absurd hj (by omega)
structure Cr3 (sec : Nat) (M : List Mp) (D : List (List ByteArray)) (ps : List (Int × Int)) where
  j : Nat
  x0 : List ByteArray
  x1 : List ByteArray
  x2 : List ByteArray
  hj : j ≤ ps.length
  hx : picksD sec M D (ps.take j) = [x0, x1, x2]
  l0 : x0.length = sec
  l1 : x1.length = sec
  l2 : x2.length = sec
def clr3 (j : Nat) (M : List Mp) : List Mp := (M.take j).map Mp.clr ++ M.drop j
theorem crash_3 (sec : Nat) (D : List (List ByteArray)) (M : List Mp) (ps : List (Int × Int)) (hD : D.length = 3) (hM : M.length = 3) (hps : ps.length ≤ 100000) (hl : ∀ d ∈ D, d.length = sec) :
    ACalls Tryd.prog 21 [.ptr 0 0, .view ps.length (flat pkC ps)] (Wd.mk false sec D M).H (RetH (i64 0) (Wd.mk true sec (picksD sec M D ps) (M.map Mp.clr)).H) := by
  match D, hD, M, hM with
  | [d0, d1, d2], _, [m0, m1, m2], _ =>
  refine acalls_of_awp hT mixed Tryd.func21 rfl (by kernel_rfl) (by kernel_rfl) (Nat.le_of_ble_eq_true rfl) ?_
  refine loopI (α := Cr3 sec [m0, m1, m2] [d0, d1, d2] ps) (fun z => [(0, .ptr 0 0), (1, .view ps.length (flat pkC ps)), (19, .view ps.length (flat pkC ps)), (20, i64 (ps.length : Nat)), (21, i64 (z.j : Nat))]) (fun z => (Wd.mk false sec [z.x0, z.x1, z.x2] [m0, m1, m2]).H) (fun z => ps.length - z.j) (Cr3.mk 0 d0 d1 d2 (Nat.zero_le _) rfl (hl d0 (by simp)) (hl d1 (by simp)) (hl d2 (by simp))) [0, 1, 2, 3, 4, 5, 6, 7, 8] ⟨⟨rfl, rfl, rfl, rfl, rfl, True.intro⟩, ⟨.inl rfl, .inl rfl, .inl rfl, oS rfl, oS rfl, oS rfl, oM rfl, oM rfl, oM rfl, True.intro⟩, rfl, rfl, rfl⟩ ?_
  rintro ⟨j, x0, x1, x2, hj, hx, l0, l1, l2⟩ K hK
  dsimp only at hj hx l0 l1 l2 ⊢
  refine forkD (fun g => ?_) (fun g => ?_)
  · have g' : j < ps.length := by have : (j : Int) < (ps.length : Int) := g; omega
    obtain ⟨⟨a, b⟩, hp⟩ : ∃ p, ps[j]? = some p := ⟨_, List.getElem?_eq_getElem g'⟩
    have hm := may_ok false (sec : Nat) 3 a b
    refine Ob.intro (show (0 : Int) ≤ (j : Nat) ∧ ((j : Nat) : Int) < (ps.length : Nat) by omega) ?_
    refine optK_intro (flat_takeN (f := pkC) (n := 2) (fun _ => rfl) hp) ?_
    by_cases hin : inS sec 3 a b
    · rw [if_pos hin] at hm
      have hin0 := hin
      obtain ⟨⟨h1, h2⟩, h3, h4⟩ := hin
      have he : a = 0 ∨ a = 1 ∨ a = 2 := by omega
      rcases he with rfl | rfl | rfl
      · refine callW (cs := [bo false, i64 (sec : Nat), .slc 1 0 3 1, .slc 2 0 3 1]) (rest := [i64 0, i64 b]) hm rfl rfl rfl ?_
        refine ⟨dlXn2a, dlXn2b, dlXn2c, dlXn2d, dlXn2e, Ob.intro (by kernel_rfl) ?_⟩
        repeat first | refine same ?_ | refine Ob.intro (show (0 : Int) ≤ 0 ∧ (0 : Int) < ((3 : Nat) : Int) from ⟨by omega, by omega⟩) ?_
        cases hg : getE m0.L b with
        | some s =>
          repeat first | refine same ?_ | refine Ob.intro (show (0 : Int) ≤ 0 ∧ (0 : Int) < ((3 : Nat) : Int) from ⟨by omega, by omega⟩) ?_ | refine optK_intro (lookR_some hg) ?_
          refine ⟨dlXn1a, dlXn1b, dlXn1c, dlXn1d, dlXn1e, Ob.intro (by kernel_rfl) ?_⟩
          repeat first | refine same ?_ | refine Ob.intro (show (0 : Int) ≤ 0 ∧ (0 : Int) < ((3 : Nat) : Int) from ⟨by omega, by omega⟩) ?_ | refine Ob.intro (show (0 : Int) ≤ b ∧ (b : Int) < ((sec : Nat) : Int) from ⟨h3, h4⟩) ?_
          refine wr_str (R := x0) (k := b.toNat) rfl rfl (by omega) (by omega) ?_
          exact hK (Cr3.mk (j + 1) (x0.set b.toNat s) (x1) (x2) (by omega) (by rw [picksD_snoc hp, hx]; exact pick1_some (p := (0, b)) (m := m0) hin0 rfl hg) (by rw [List.length_set]; exact l0) l1 l2) [0, 1, 2, 3, 4, 5, 6, 7, 8] _ (show ps.length - j = ps.length - (j + 1) + 1 by omega) ⟨⟨rfl, rfl, rfl, rfl, congrArg i64 (wincP (by omega)), True.intro⟩, ⟨.inl rfl, .inl rfl, .inl rfl, oS rfl, oS rfl, oS rfl, oM rfl, oM rfl, oM rfl, True.intro⟩, rfl, rfl, rfl⟩
        | none =>
          repeat first | refine same ?_ | refine Ob.intro (show (0 : Int) ≤ 0 ∧ (0 : Int) < ((3 : Nat) : Int) from ⟨by omega, by omega⟩) ?_ | refine optK_intro (lookR_none hg) ?_
          exact hK (Cr3.mk (j + 1) (x0) (x1) (x2) (by omega) (by rw [picksD_snoc hp, hx]; exact pick1_none (p := (0, b)) (m := m0) rfl hg) l0 l1 l2) [0, 1, 2, 3, 4, 5, 6, 7, 8] _ (show ps.length - j = ps.length - (j + 1) + 1 by omega) ⟨⟨rfl, rfl, rfl, rfl, congrArg i64 (wincP (by omega)), True.intro⟩, ⟨.inl rfl, .inl rfl, .inl rfl, oS rfl, oS rfl, oS rfl, oM rfl, oM rfl, oM rfl, True.intro⟩, rfl, rfl, rfl⟩
      · refine callW (cs := [bo false, i64 (sec : Nat), .slc 1 0 3 1, .slc 2 0 3 1]) (rest := [i64 1, i64 b]) hm rfl rfl rfl ?_
        refine ⟨dlXn2a, dlXn2b, dlXn2c, dlXn2d, dlXn2e, Ob.intro (by kernel_rfl) ?_⟩
        repeat first | refine same ?_ | refine Ob.intro (show (0 : Int) ≤ 1 ∧ (1 : Int) < ((3 : Nat) : Int) from ⟨by omega, by omega⟩) ?_
        cases hg : getE m1.L b with
        | some s =>
          repeat first | refine same ?_ | refine Ob.intro (show (0 : Int) ≤ 1 ∧ (1 : Int) < ((3 : Nat) : Int) from ⟨by omega, by omega⟩) ?_ | refine optK_intro (lookR_some hg) ?_
          refine ⟨dlXn1a, dlXn1b, dlXn1c, dlXn1d, dlXn1e, Ob.intro (by kernel_rfl) ?_⟩
          repeat first | refine same ?_ | refine Ob.intro (show (0 : Int) ≤ 1 ∧ (1 : Int) < ((3 : Nat) : Int) from ⟨by omega, by omega⟩) ?_ | refine Ob.intro (show (0 : Int) ≤ b ∧ (b : Int) < ((sec : Nat) : Int) from ⟨h3, h4⟩) ?_
          refine wr_str (R := x1) (k := b.toNat) rfl rfl (by omega) (by omega) ?_
          exact hK (Cr3.mk (j + 1) (x0) (x1.set b.toNat s) (x2) (by omega) (by rw [picksD_snoc hp, hx]; exact pick1_some (p := (1, b)) (m := m1) hin0 rfl hg) l0 (by rw [List.length_set]; exact l1) l2) [0, 1, 2, 3, 4, 5, 6, 7, 8] _ (show ps.length - j = ps.length - (j + 1) + 1 by omega) ⟨⟨rfl, rfl, rfl, rfl, congrArg i64 (wincP (by omega)), True.intro⟩, ⟨.inl rfl, .inl rfl, .inl rfl, oS rfl, oS rfl, oS rfl, oM rfl, oM rfl, oM rfl, True.intro⟩, rfl, rfl, rfl⟩
        | none =>
          repeat first | refine same ?_ | refine Ob.intro (show (0 : Int) ≤ 1 ∧ (1 : Int) < ((3 : Nat) : Int) from ⟨by omega, by omega⟩) ?_ | refine optK_intro (lookR_none hg) ?_
          exact hK (Cr3.mk (j + 1) (x0) (x1) (x2) (by omega) (by rw [picksD_snoc hp, hx]; exact pick1_none (p := (1, b)) (m := m1) rfl hg) l0 l1 l2) [0, 1, 2, 3, 4, 5, 6, 7, 8] _ (show ps.length - j = ps.length - (j + 1) + 1 by omega) ⟨⟨rfl, rfl, rfl, rfl, congrArg i64 (wincP (by omega)), True.intro⟩, ⟨.inl rfl, .inl rfl, .inl rfl, oS rfl, oS rfl, oS rfl, oM rfl, oM rfl, oM rfl, True.intro⟩, rfl, rfl, rfl⟩
      · refine callW (cs := [bo false, i64 (sec : Nat), .slc 1 0 3 1, .slc 2 0 3 1]) (rest := [i64 2, i64 b]) hm rfl rfl rfl ?_
        refine ⟨dlXn2a, dlXn2b, dlXn2c, dlXn2d, dlXn2e, Ob.intro (by kernel_rfl) ?_⟩
        repeat first | refine same ?_ | refine Ob.intro (show (0 : Int) ≤ 2 ∧ (2 : Int) < ((3 : Nat) : Int) from ⟨by omega, by omega⟩) ?_
        cases hg : getE m2.L b with
        | some s =>
          repeat first | refine same ?_ | refine Ob.intro (show (0 : Int) ≤ 2 ∧ (2 : Int) < ((3 : Nat) : Int) from ⟨by omega, by omega⟩) ?_ | refine optK_intro (lookR_some hg) ?_
          refine ⟨dlXn1a, dlXn1b, dlXn1c, dlXn1d, dlXn1e, Ob.intro (by kernel_rfl) ?_⟩
          repeat first | refine same ?_ | refine Ob.intro (show (0 : Int) ≤ 2 ∧ (2 : Int) < ((3 : Nat) : Int) from ⟨by omega, by omega⟩) ?_ | refine Ob.intro (show (0 : Int) ≤ b ∧ (b : Int) < ((sec : Nat) : Int) from ⟨h3, h4⟩) ?_
          refine wr_str (R := x2) (k := b.toNat) rfl rfl (by omega) (by omega) ?_
          exact hK (Cr3.mk (j + 1) (x0) (x1) (x2.set b.toNat s) (by omega) (by rw [picksD_snoc hp, hx]; exact pick1_some (p := (2, b)) (m := m2) hin0 rfl hg) l0 l1 (by rw [List.length_set]; exact l2)) [0, 1, 2, 3, 4, 5, 6, 7, 8] _ (show ps.length - j = ps.length - (j + 1) + 1 by omega) ⟨⟨rfl, rfl, rfl, rfl, congrArg i64 (wincP (by omega)), True.intro⟩, ⟨.inl rfl, .inl rfl, .inl rfl, oS rfl, oS rfl, oS rfl, oM rfl, oM rfl, oM rfl, True.intro⟩, rfl, rfl, rfl⟩
        | none =>
          repeat first | refine same ?_ | refine Ob.intro (show (0 : Int) ≤ 2 ∧ (2 : Int) < ((3 : Nat) : Int) from ⟨by omega, by omega⟩) ?_ | refine optK_intro (lookR_none hg) ?_
          exact hK (Cr3.mk (j + 1) (x0) (x1) (x2) (by omega) (by rw [picksD_snoc hp, hx]; exact pick1_none (p := (2, b)) (m := m2) rfl hg) l0 l1 l2) [0, 1, 2, 3, 4, 5, 6, 7, 8] _ (show ps.length - j = ps.length - (j + 1) + 1 by omega) ⟨⟨rfl, rfl, rfl, rfl, congrArg i64 (wincP (by omega)), True.intro⟩, ⟨.inl rfl, .inl rfl, .inl rfl, oS rfl, oS rfl, oS rfl, oM rfl, oM rfl, oM rfl, True.intro⟩, rfl, rfl, rfl⟩
    · rw [if_neg hin] at hm
      refine callW (cs := [bo false, i64 (sec : Nat), .slc 1 0 3 1, .slc 2 0 3 1]) (rest := [i64 a, i64 b]) hm rfl rfl rfl ?_
      exact hK (Cr3.mk (j + 1) (x0) (x1) (x2) (by omega) (by rw [picksD_snoc hp, hx]; exact pick1_no (p := (a, b)) hin) l0 l1 l2) [0, 1, 2, 3, 4, 5, 6, 7, 8] _ (show ps.length - j = ps.length - (j + 1) + 1 by omega) ⟨⟨rfl, rfl, rfl, rfl, congrArg i64 (wincP (by omega)), True.intro⟩, ⟨.inl rfl, .inl rfl, .inl rfl, oS rfl, oS rfl, oS rfl, oM rfl, oM rfl, oM rfl, True.intro⟩, rfl, rfl, rfl⟩
  · have hfin : picksD sec [m0, m1, m2] [d0, d1, d2] ps = [x0, x1, x2] := by
      have : ¬ (j : Int) < (ps.length : Int) := g
      rw [List.take_of_length_le (by omega)] at hx
      exact hx
    rw [hfin]
    clear hK hx hfin
    refine loopI (α := Fin 4) (fun z => [(0, .ptr 0 0), (63, .slc 2 0 3 1), (64, i64 (3 : Nat)), (65, i64 (z.val : Nat))]) (fun z => (Wd.mk false sec [x0, x1, x2] (clr3 z.val [m0, m1, m2])).H) (fun z => 3 - z.val) 0 [0, 1, 2, 3, 4, 5, 6, 7, 8] ⟨⟨rfl, rfl, rfl, rfl, True.intro⟩, ⟨.inl rfl, .inl rfl, .inl rfl, oS rfl, oS rfl, oS rfl, oM rfl, oM rfl, oM rfl, True.intro⟩, rfl, rfl, rfl⟩ ?_
    rintro ⟨j, hj⟩ K2 hK
    dsimp only at hj ⊢
    match j, hj with
    | 0, _ =>
      refine Ob.intro (show (0 : Int) ≤ ((0 : Nat) : Int) ∧ ((0 : Nat) : Int) < ((3 : Nat) : Int) by omega) ?_
      exact hK ⟨1, by omega⟩ [0, 1, 2, 3, 4, 5, 6, 7, 8] _ rfl ⟨⟨rfl, rfl, rfl, congrArg i64 (wincP (n := 0) (by omega)), True.intro⟩, ⟨.inl rfl, .inl rfl, .inl rfl, oS rfl, oS rfl, oS rfl, oM rfl, oM rfl, oM rfl, True.intro⟩, rfl, rfl, rfl⟩
    | 1, _ =>
      refine Ob.intro (show (0 : Int) ≤ ((1 : Nat) : Int) ∧ ((1 : Nat) : Int) < ((3 : Nat) : Int) by omega) ?_
      exact hK ⟨2, by omega⟩ [0, 1, 2, 3, 4, 5, 6, 7, 8] _ rfl ⟨⟨rfl, rfl, rfl, congrArg i64 (wincP (n := 1) (by omega)), True.intro⟩, ⟨.inl rfl, .inl rfl, .inl rfl, oS rfl, oS rfl, oS rfl, oM rfl, oM rfl, oM rfl, True.intro⟩, rfl, rfl, rfl⟩
    | 2, _ =>
      refine Ob.intro (show (0 : Int) ≤ ((2 : Nat) : Int) ∧ ((2 : Nat) : Int) < ((3 : Nat) : Int) by omega) ?_
      exact hK ⟨3, by omega⟩ [0, 1, 2, 3, 4, 5, 6, 7, 8] _ rfl ⟨⟨rfl, rfl, rfl, congrArg i64 (wincP (n := 2) (by omega)), True.intro⟩, ⟨.inl rfl, .inl rfl, .inl rfl, oS rfl, oS rfl, oS rfl, oM rfl, oM rfl, oM rfl, True.intro⟩, rfl, rfl, rfl⟩
    | 3, _ =>
      exact endH rfl rfl rfl ⟨.inl rfl, .inl rfl, .inl rfl, .inl rfl, .inl rfl, .inl rfl, .inl rfl, .inl rfl, .inl rfl, True.intro⟩ (Nat.le_refl 9) (Wd.below _) rfl
    | k + 4, hj => exact absurd hj (by omega)
structure Cr4 (sec : Nat) (M : List Mp) (D : List (List ByteArray)) (ps : List (Int × Int)) where
  j : Nat
  x0 : List ByteArray
  x1 : List ByteArray
  x2 : List ByteArray
  x3 : List ByteArray
  hj : j ≤ ps.length
  hx : picksD sec M D (ps.take j) = [x0, x1, x2, x3]
  l0 : x0.length = sec
  l1 : x1.length = sec
  l2 : x2.length = sec
  l3 : x3.length = sec
def clr4 (j : Nat) (M : List Mp) : List Mp := (M.take j).map Mp.clr ++ M.drop j
theorem crash_4 (sec : Nat) (D : List (List ByteArray)) (M : List Mp) (ps : List (Int × Int)) (hD : D.length = 4) (hM : M.length = 4) (hps : ps.length ≤ 100000) (hl : ∀ d ∈ D, d.length = sec) :
    ACalls Tryd.prog 21 [.ptr 0 0, .view ps.length (flat pkC ps)] (Wd.mk false sec D M).H (RetH (i64 0) (Wd.mk true sec (picksD sec M D ps) (M.map Mp.clr)).H) := by
  match D, hD, M, hM with
  | [d0, d1, d2, d3], _, [m0, m1, m2, m3], _ =>
  refine acalls_of_awp hT mixed Tryd.func21 rfl (by kernel_rfl) (by kernel_rfl) (Nat.le_of_ble_eq_true rfl) ?_
  refine loopI (α := Cr4 sec [m0, m1, m2, m3] [d0, d1, d2, d3] ps) (fun z => [(0, .ptr 0 0), (1, .view ps.length (flat pkC ps)), (19, .view ps.length (flat pkC ps)), (20, i64 (ps.length : Nat)), (21, i64 (z.j : Nat))]) (fun z => (Wd.mk false sec [z.x0, z.x1, z.x2, z.x3] [m0, m1, m2, m3]).H) (fun z => ps.length - z.j) (Cr4.mk 0 d0 d1 d2 d3 (Nat.zero_le _) rfl (hl d0 (by simp)) (hl d1 (by simp)) (hl d2 (by simp)) (hl d3 (by simp))) [0, 1, 2, 3, 4, 5, 6, 7, 8, 9, 10] ⟨⟨rfl, rfl, rfl, rfl, rfl, True.intro⟩, ⟨.inl rfl, .inl rfl, .inl rfl, oS rfl, oS rfl, oS rfl, oS rfl, oM rfl, oM rfl, oM rfl, oM rfl, True.intro⟩, rfl, rfl, rfl⟩ ?_
  rintro ⟨j, x0, x1, x2, x3, hj, hx, l0, l1, l2, l3⟩ K hK
  dsimp only at hj hx l0 l1 l2 l3 ⊢
  refine forkD (fun g => ?_) (fun g => ?_)
  · have g' : j < ps.length := by have : (j : Int) < (ps.length : Int) := g; omega
    obtain ⟨⟨a, b⟩, hp⟩ : ∃ p, ps[j]? = some p := ⟨_, List.getElem?_eq_getElem g'⟩
    have hm := may_ok false (sec : Nat) 4 a b
    refine Ob.intro (show (0 : Int) ≤ (j : Nat) ∧ ((j : Nat) : Int) < (ps.length : Nat) by omega) ?_
    refine optK_intro (flat_takeN (f := pkC) (n := 2) (fun _ => rfl) hp) ?_
    by_cases hin : inS sec 4 a b
    · rw [if_pos hin] at hm
      have hin0 := hin
      obtain ⟨⟨h1, h2⟩, h3, h4⟩ := hin
      have he : a = 0 ∨ a = 1 ∨ a = 2 ∨ a = 3 := by omega
      rcases he with rfl | rfl | rfl | rfl
      · refine callW (cs := [bo false, i64 (sec : Nat), .slc 1 0 4 1, .slc 2 0 4 1]) (rest := [i64 0, i64 b]) hm rfl rfl rfl ?_
        refine ⟨dlXn2a, dlXn2b, dlXn2c, dlXn2d, dlXn2e, Ob.intro (by kernel_rfl) ?_⟩
        repeat first | refine same ?_ | refine Ob.intro (show (0 : Int) ≤ 0 ∧ (0 : Int) < ((4 : Nat) : Int) from ⟨by omega, by omega⟩) ?_
        cases hg : getE m0.L b with
        | some s =>
          repeat first | refine same ?_ | refine Ob.intro (show (0 : Int) ≤ 0 ∧ (0 : Int) < ((4 : Nat) : Int) from ⟨by omega, by omega⟩) ?_ | refine optK_intro (lookR_some hg) ?_
          refine ⟨dlXn1a, dlXn1b, dlXn1c, dlXn1d, dlXn1e, Ob.intro (by kernel_rfl) ?_⟩
          repeat first | refine same ?_ | refine Ob.intro (show (0 : Int) ≤ 0 ∧ (0 : Int) < ((4 : Nat) : Int) from ⟨by omega, by omega⟩) ?_ | refine Ob.intro (show (0 : Int) ≤ b ∧ (b : Int) < ((sec : Nat) : Int) from ⟨h3, h4⟩) ?_
          refine wr_str (R := x0) (k := b.toNat) rfl rfl (by omega) (by omega) ?_
          exact hK (Cr4.mk (j + 1) (x0.set b.toNat s) (x1) (x2) (x3) (by omega) (by rw [picksD_snoc hp, hx]; exact pick1_some (p := (0, b)) (m := m0) hin0 rfl hg) (by rw [List.length_set]; exact l0) l1 l2 l3) [0, 1, 2, 3, 4, 5, 6, 7, 8, 9, 10] _ (show ps.length - j = ps.length - (j + 1) + 1 by omega) ⟨⟨rfl, rfl, rfl, rfl, congrArg i64 (wincP (by omega)), True.intro⟩, ⟨.inl rfl, .inl rfl, .inl rfl, oS rfl, oS rfl, oS rfl, oS rfl, oM rfl, oM rfl, oM rfl, oM rfl, True.intro⟩, rfl, rfl, rfl⟩
        | none =>
          repeat first | refine same ?_ | refine Ob.intro (show (0 : Int) ≤ 0 ∧ (0 : Int) < ((4 : Nat) : Int) from ⟨by omega, by omega⟩) ?_ | refine optK_intro (lookR_none hg) ?_
          exact hK (Cr4.mk (j + 1) (x0) (x1) (x2) (x3) (by omega) (by rw [picksD_snoc hp, hx]; exact pick1_none (p := (0, b)) (m := m0) rfl hg) l0 l1 l2 l3) [0, 1, 2, 3, 4, 5, 6, 7, 8, 9, 10] _ (show ps.length - j = ps.length - (j + 1) + 1 by omega) ⟨⟨rfl, rfl, rfl, rfl, congrArg i64 (wincP (by omega)), True.intro⟩, ⟨.inl rfl, .inl rfl, .inl rfl, oS rfl, oS rfl, oS rfl, oS rfl, oM rfl, oM rfl, oM rfl, oM rfl, True.intro⟩, rfl, rfl, rfl⟩
      · refine callW (cs := [bo false, i64 (sec : Nat), .slc 1 0 4 1, .slc 2 0 4 1]) (rest := [i64 1, i64 b]) hm rfl rfl rfl ?_
        refine ⟨dlXn2a, dlXn2b, dlXn2c, dlXn2d, dlXn2e, Ob.intro (by kernel_rfl) ?_⟩
        repeat first | refine same ?_ | refine Ob.intro (show (0 : Int) ≤ 1 ∧ (1 : Int) < ((4 : Nat) : Int) from ⟨by omega, by omega⟩) ?_
        cases hg : getE m1.L b with
        | some s =>
          repeat first | refine same ?_ | refine Ob.intro (show (0 : Int) ≤ 1 ∧ (1 : Int) < ((4 : Nat) : Int) from ⟨by omega, by omega⟩) ?_ | refine optK_intro (lookR_some hg) ?_
          refine ⟨dlXn1a, dlXn1b, dlXn1c, dlXn1d, dlXn1e, Ob.intro (by kernel_rfl) ?_⟩
          repeat first | refine same ?_ | refine Ob.intro (show (0 : Int) ≤ 1 ∧ (1 : Int) < ((4 : Nat) : Int) from ⟨by omega, by omega⟩) ?_ | refine Ob.intro (show (0 : Int) ≤ b ∧ (b : Int) < ((sec : Nat) : Int) from ⟨h3, h4⟩) ?_
          refine wr_str (R := x1) (k := b.toNat) rfl rfl (by omega) (by omega) ?_
          exact hK (Cr4.mk (j + 1) (x0) (x1.set b.toNat s) (x2) (x3) (by omega) (by rw [picksD_snoc hp, hx]; exact pick1_some (p := (1, b)) (m := m1) hin0 rfl hg) l0 (by rw [List.length_set]; exact l1) l2 l3) [0, 1, 2, 3, 4, 5, 6, 7, 8, 9, 10] _ (show ps.length - j = ps.length - (j + 1) + 1 by omega) ⟨⟨rfl, rfl, rfl, rfl, congrArg i64 (wincP (by omega)), True.intro⟩, ⟨.inl rfl, .inl rfl, .inl rfl, oS rfl, oS rfl, oS rfl, oS rfl, oM rfl, oM rfl, oM rfl, oM rfl, True.intro⟩, rfl, rfl, rfl⟩
        | none =>
          repeat first | refine same ?_ | refine Ob.intro (show (0 : Int) ≤ 1 ∧ (1 : Int) < ((4 : Nat) : Int) from ⟨by omega, by omega⟩) ?_ | refine optK_intro (lookR_none hg) ?_
          exact hK (Cr4.mk (j + 1) (x0) (x1) (x2) (x3) (by omega) (by rw [picksD_snoc hp, hx]; exact pick1_none (p := (1, b)) (m := m1) rfl hg) l0 l1 l2 l3) [0, 1, 2, 3, 4, 5, 6, 7, 8, 9, 10] _ (show ps.length - j = ps.length - (j + 1) + 1 by omega) ⟨⟨rfl, rfl, rfl, rfl, congrArg i64 (wincP (by omega)), True.intro⟩, ⟨.inl rfl, .inl rfl, .inl rfl, oS rfl, oS rfl, oS rfl, oS rfl, oM rfl, oM rfl, oM rfl, oM rfl, True.intro⟩, rfl, rfl, rfl⟩
      · refine callW (cs := [bo false, i64 (sec : Nat), .slc 1 0 4 1, .slc 2 0 4 1]) (rest := [i64 2, i64 b]) hm rfl rfl rfl ?_
        refine ⟨dlXn2a, dlXn2b, dlXn2c, dlXn2d, dlXn2e, Ob.intro (by kernel_rfl) ?_⟩
        repeat first | refine same ?_ | refine Ob.intro (show (0 : Int) ≤ 2 ∧ (2 : Int) < ((4 : Nat) : Int) from ⟨by omega, by omega⟩) ?_
        cases hg : getE m2.L b with
        | some s =>
          repeat first | refine same ?_ | refine Ob.intro (show (0 : Int) ≤ 2 ∧ (2 : Int) < ((4 : Nat) : Int) from ⟨by omega, by omega⟩) ?_ | refine optK_intro (lookR_some hg) ?_
          refine ⟨dlXn1a, dlXn1b, dlXn1c, dlXn1d, dlXn1e, Ob.intro (by kernel_rfl) ?_⟩
          repeat first | refine same ?_ | refine Ob.intro (show (0 : Int) ≤ 2 ∧ (2 : Int) < ((4 : Nat) : Int) from ⟨by omega, by omega⟩) ?_ | refine Ob.intro (show (0 : Int) ≤ b ∧ (b : Int) < ((sec : Nat) : Int) from ⟨h3, h4⟩) ?_
          refine wr_str (R := x2) (k := b.toNat) rfl rfl (by omega) (by omega) ?_
          exact hK (Cr4.mk (j + 1) (x0) (x1) (x2.set b.toNat s) (x3) (by omega) (by rw [picksD_snoc hp, hx]; exact pick1_some (p := (2, b)) (m := m2) hin0 rfl hg) l0 l1 (by rw [List.length_set]; exact l2) l3) [0, 1, 2, 3, 4, 5, 6, 7, 8, 9, 10] _ (show ps.length - j = ps.length - (j + 1) + 1 by omega) ⟨⟨rfl, rfl, rfl, rfl, congrArg i64 (wincP (by omega)), True.intro⟩, ⟨.inl rfl, .inl rfl, .inl rfl, oS rfl, oS rfl, oS rfl, oS rfl, oM rfl, oM rfl, oM rfl, oM rfl, True.intro⟩, rfl, rfl, rfl⟩
        | none =>
          repeat first | refine same ?_ | refine Ob.intro (show (0 : Int) ≤ 2 ∧ (2 : Int) < ((4 : Nat) : Int) from ⟨by omega, by omega⟩) ?_ | refine optK_intro (lookR_none hg) ?_
          exact hK (Cr4.mk (j + 1) (x0) (x1) (x2) (x3) (by omega) (by rw [picksD_snoc hp, hx]; exact pick1_none (p := (2, b)) (m := m2) rfl hg) l0 l1 l2 l3) [0, 1, 2, 3, 4, 5, 6, 7, 8, 9, 10] _ (show ps.length - j = ps.length - (j + 1) + 1 by omega) ⟨⟨rfl, rfl, rfl, rfl, congrArg i64 (wincP (by omega)), True.intro⟩, ⟨.inl rfl, .inl rfl, .inl rfl, oS rfl, oS rfl, oS rfl, oS rfl, oM rfl, oM rfl, oM rfl, oM rfl, True.intro⟩, rfl, rfl, rfl⟩
      · refine callW (cs := [bo false, i64 (sec : Nat), .slc 1 0 4 1, .slc 2 0 4 1]) (rest := [i64 3, i64 b]) hm rfl rfl rfl ?_
        refine ⟨dlXn2a, dlXn2b, dlXn2c, dlXn2d, dlXn2e, Ob.intro (by kernel_rfl) ?_⟩
        repeat first | refine same ?_ | refine Ob.intro (show (0 : Int) ≤ 3 ∧ (3 : Int) < ((4 : Nat) : Int) from ⟨by omega, by omega⟩) ?_
        cases hg : getE m3.L b with
        | some s =>
          repeat first | refine same ?_ | refine Ob.intro (show (0 : Int) ≤ 3 ∧ (3 : Int) < ((4 : Nat) : Int) from ⟨by omega, by omega⟩) ?_ | refine optK_intro (lookR_some hg) ?_
          refine ⟨dlXn1a, dlXn1b, dlXn1c, dlXn1d, dlXn1e, Ob.intro (by kernel_rfl) ?_⟩
          repeat first | refine same ?_ | refine Ob.intro (show (0 : Int) ≤ 3 ∧ (3 : Int) < ((4 : Nat) : Int) from ⟨by omega, by omega⟩) ?_ | refine Ob.intro (show (0 : Int) ≤ b ∧ (b : Int) < ((sec : Nat) : Int) from ⟨h3, h4⟩) ?_
          refine wr_str (R := x3) (k := b.toNat) rfl rfl (by omega) (by omega) ?_
          exact hK (Cr4.mk (j + 1) (x0) (x1) (x2) (x3.set b.toNat s) (by omega) (by rw [picksD_snoc hp, hx]; exact pick1_some (p := (3, b)) (m := m3) hin0 rfl hg) l0 l1 l2 (by rw [List.length_set]; exact l3)) [0, 1, 2, 3, 4, 5, 6, 7, 8, 9, 10] _ (show ps.length - j = ps.length - (j + 1) + 1 by omega) ⟨⟨rfl, rfl, rfl, rfl, congrArg i64 (wincP (by omega)), True.intro⟩, ⟨.inl rfl, .inl rfl, .inl rfl, oS rfl, oS rfl, oS rfl, oS rfl, oM rfl, oM rfl, oM rfl, oM rfl, True.intro⟩, rfl, rfl, rfl⟩
        | none =>
          repeat first | refine same ?_ | refine Ob.intro (show (0 : Int) ≤ 3 ∧ (3 : Int) < ((4 : Nat) : Int) from ⟨by omega, by omega⟩) ?_ | refine optK_intro (lookR_none hg) ?_
          exact hK (Cr4.mk (j + 1) (x0) (x1) (x2) (x3) (by omega) (by rw [picksD_snoc hp, hx]; exact pick1_none (p := (3, b)) (m := m3) rfl hg) l0 l1 l2 l3) [0, 1, 2, 3, 4, 5, 6, 7, 8, 9, 10] _ (show ps.length - j = ps.length - (j + 1) + 1 by omega) ⟨⟨rfl, rfl, rfl, rfl, congrArg i64 (wincP (by omega)), True.intro⟩, ⟨.inl rfl, .inl rfl, .inl rfl, oS rfl, oS rfl, oS rfl, oS rfl, oM rfl, oM rfl, oM rfl, oM rfl, True.intro⟩, rfl, rfl, rfl⟩
    · rw [if_neg hin] at hm
      refine callW (cs := [bo false, i64 (sec : Nat), .slc 1 0 4 1, .slc 2 0 4 1]) (rest := [i64 a, i64 b]) hm rfl rfl rfl ?_
      exact hK (Cr4.mk (j + 1) (x0) (x1) (x2) (x3) (by omega) (by rw [picksD_snoc hp, hx]; exact pick1_no (p := (a, b)) hin) l0 l1 l2 l3) [0, 1, 2, 3, 4, 5, 6, 7, 8, 9, 10] _ (show ps.length - j = ps.length - (j + 1) + 1 by omega) ⟨⟨rfl, rfl, rfl, rfl, congrArg i64 (wincP (by omega)), True.intro⟩, ⟨.inl rfl, .inl rfl, .inl rfl, oS rfl, oS rfl, oS rfl, oS rfl, oM rfl, oM rfl, oM rfl, oM rfl, True.intro⟩, rfl, rfl, rfl⟩
  · have hfin : picksD sec [m0, m1, m2, m3] [d0, d1, d2, d3] ps = [x0, x1, x2, x3] := by
      have : ¬ (j : Int) < (ps.length : Int) := g
      rw [List.take_of_length_le (by omega)] at hx
      exact hx
    rw [hfin]
    clear hK hx hfin
    refine loopI (α := Fin 5) (fun z => [(0, .ptr 0 0), (63, .slc 2 0 4 1), (64, i64 (4 : Nat)), (65, i64 (z.val : Nat))]) (fun z => (Wd.mk false sec [x0, x1, x2, x3] (clr4 z.val [m0, m1, m2, m3])).H) (fun z => 4 - z.val) 0 [0, 1, 2, 3, 4, 5, 6, 7, 8, 9, 10] ⟨⟨rfl, rfl, rfl, rfl, True.intro⟩, ⟨.inl rfl, .inl rfl, .inl rfl, oS rfl, oS rfl, oS rfl, oS rfl, oM rfl, oM rfl, oM rfl, oM rfl, True.intro⟩, rfl, rfl, rfl⟩ ?_
    rintro ⟨j, hj⟩ K2 hK
    dsimp only at hj ⊢
    match j, hj with
    | 0, _ =>
      refine Ob.intro (show (0 : Int) ≤ ((0 : Nat) : Int) ∧ ((0 : Nat) : Int) < ((4 : Nat) : Int) by omega) ?_
      exact hK ⟨1, by omega⟩ [0, 1, 2, 3, 4, 5, 6, 7, 8, 9, 10] _ rfl ⟨⟨rfl, rfl, rfl, congrArg i64 (wincP (n := 0) (by omega)), True.intro⟩, ⟨.inl rfl, .inl rfl, .inl rfl, oS rfl, oS rfl, oS rfl, oS rfl, oM rfl, oM rfl, oM rfl, oM rfl, True.intro⟩, rfl, rfl, rfl⟩
    | 1, _ =>
      refine Ob.intro (show (0 : Int) ≤ ((1 : Nat) : Int) ∧ ((1 : Nat) : Int) < ((4 : Nat) : Int) by omega) ?_
      exact hK ⟨2, by omega⟩ [0, 1, 2, 3, 4, 5, 6, 7, 8, 9, 10] _ rfl ⟨⟨rfl, rfl, rfl, congrArg i64 (wincP (n := 1) (by omega)), True.intro⟩, ⟨.inl rfl, .inl rfl, .inl rfl, oS rfl, oS rfl, oS rfl, oS rfl, oM rfl, oM rfl, oM rfl, oM rfl, True.intro⟩, rfl, rfl, rfl⟩
    | 2, _ =>
      refine Ob.intro (show (0 : Int) ≤ ((2 : Nat) : Int) ∧ ((2 : Nat) : Int) < ((4 : Nat) : Int) by omega) ?_
      exact hK ⟨3, by omega⟩ [0, 1, 2, 3, 4, 5, 6, 7, 8, 9, 10] _ rfl ⟨⟨rfl, rfl, rfl, congrArg i64 (wincP (n := 2) (by omega)), True.intro⟩, ⟨.inl rfl, .inl rfl, .inl rfl, oS rfl, oS rfl, oS rfl, oS rfl, oM rfl, oM rfl, oM rfl, oM rfl, True.intro⟩, rfl, rfl, rfl⟩
    | 3, _ =>
      refine Ob.intro (show (0 : Int) ≤ ((3 : Nat) : Int) ∧ ((3 : Nat) : Int) < ((4 : Nat) : Int) by omega) ?_
      exact hK ⟨4, by omega⟩ [0, 1, 2, 3, 4, 5, 6, 7, 8, 9, 10] _ rfl ⟨⟨rfl, rfl, rfl, congrArg i64 (wincP (n := 3) (by omega)), True.intro⟩, ⟨.inl rfl, .inl rfl, .inl rfl, oS rfl, oS rfl, oS rfl, oS rfl, oM rfl, oM rfl, oM rfl, oM rfl, True.intro⟩, rfl, rfl, rfl⟩
    | 4, _ =>
      exact endH rfl rfl rfl ⟨.inl rfl, .inl rfl, .inl rfl, .inl rfl, .inl rfl, .inl rfl, .inl rfl, .inl rfl, .inl rfl, .inl rfl, .inl rfl, True.intro⟩ (Nat.le_refl 11) (Wd.below _) rfl
    | k + 5, hj => exact absurd hj (by omega)
structure Cr5 (sec : Nat) (M : List Mp) (D : List (List ByteArray)) (ps : List (Int × Int)) where
  j : Nat
  x0 : List ByteArray
  x1 : List ByteArray
  x2 : List ByteArray
  x3 : List ByteArray
  x4 : List ByteArray
  hj : j ≤ ps.length
  hx : picksD sec M D (ps.take j) = [x0, x1, x2, x3, x4]
  l0 : x0.length = sec
  l1 : x1.length = sec
  l2 : x2.length = sec
  l3 : x3.length = sec
  l4 : x4.length = sec
def clr5 (j : Nat) (M : List Mp) : List Mp := (M.take j).map Mp.clr ++ M.drop j
set_option maxHeartbeats 4000000 in
theorem crash_5 (sec : Nat) (D : List (List ByteArray)) (M : List Mp) (ps : List (Int × Int)) (hD : D.length = 5) (hM : M.length = 5) (hps : ps.length ≤ 100000) (hl : ∀ d ∈ D, d.length = sec) :
    ACalls Tryd.prog 21 [.ptr 0 0, .view ps.length (flat pkC ps)] (Wd.mk false sec D M).H (RetH (i64 0) (Wd.mk true sec (picksD sec M D ps) (M.map Mp.clr)).H) := by
  match D, hD, M, hM with
  | [d0, d1, d2, d3, d4], _, [m0, m1, m2, m3, m4], _ =>
  refine acalls_of_awp hT mixed Tryd.func21 rfl (by kernel_rfl) (by kernel_rfl) (Nat.le_of_ble_eq_true rfl) ?_
  refine loopI (α := Cr5 sec [m0, m1, m2, m3, m4] [d0, d1, d2, d3, d4] ps) (fun z => [(0, .ptr 0 0), (1, .view ps.length (flat pkC ps)), (19, .view ps.length (flat pkC ps)), (20, i64 (ps.length : Nat)), (21, i64 (z.j : Nat))]) (fun z => (Wd.mk false sec [z.x0, z.x1, z.x2, z.x3, z.x4] [m0, m1, m2, m3, m4]).H) (fun z => ps.length - z.j) (Cr5.mk 0 d0 d1 d2 d3 d4 (Nat.zero_le _) rfl (hl d0 (by simp)) (hl d1 (by simp)) (hl d2 (by simp)) (hl d3 (by simp)) (hl d4 (by simp))) [0, 1, 2, 3, 4, 5, 6, 7, 8, 9, 10, 11, 12] ⟨⟨rfl, rfl, rfl, rfl, rfl, True.intro⟩, ⟨.inl rfl, .inl rfl, .inl rfl, oS rfl, oS rfl, oS rfl, oS rfl, oS rfl, oM rfl, oM rfl, oM rfl, oM rfl, oM rfl, True.intro⟩, rfl, rfl, rfl⟩ ?_
  rintro ⟨j, x0, x1, x2, x3, x4, hj, hx, l0, l1, l2, l3, l4⟩ K hK
  dsimp only at hj hx l0 l1 l2 l3 l4 ⊢
  refine forkD (fun g => ?_) (fun g => ?_)
  · have g' : j < ps.length := by have : (j : Int) < (ps.length : Int) := g; omega
    obtain ⟨⟨a, b⟩, hp⟩ : ∃ p, ps[j]? = some p := ⟨_, List.getElem?_eq_getElem g'⟩
    have hm := may_ok false (sec : Nat) 5 a b
    refine Ob.intro (show (0 : Int) ≤ (j : Nat) ∧ ((j : Nat) : Int) < (ps.length : Nat) by omega) ?_
    refine optK_intro (flat_takeN (f := pkC) (n := 2) (fun _ => rfl) hp) ?_
    by_cases hin : inS sec 5 a b
    · rw [if_pos hin] at hm
      have hin0 := hin
      obtain ⟨⟨h1, h2⟩, h3, h4⟩ := hin
      have he : a = 0 ∨ a = 1 ∨ a = 2 ∨ a = 3 ∨ a = 4 := by omega
      rcases he with rfl | rfl | rfl | rfl | rfl
      · refine callW (cs := [bo false, i64 (sec : Nat), .slc 1 0 5 1, .slc 2 0 5 1]) (rest := [i64 0, i64 b]) hm rfl rfl rfl ?_
        refine ⟨dlXn2a, dlXn2b, dlXn2c, dlXn2d, dlXn2e, Ob.intro (by kernel_rfl) ?_⟩
        repeat first | refine same ?_ | refine Ob.intro (show (0 : Int) ≤ 0 ∧ (0 : Int) < ((5 : Nat) : Int) from ⟨by omega, by omega⟩) ?_
        cases hg : getE m0.L b with
        | some s =>
          repeat first | refine same ?_ | refine Ob.intro (show (0 : Int) ≤ 0 ∧ (0 : Int) < ((5 : Nat) : Int) from ⟨by omega, by omega⟩) ?_ | refine optK_intro (lookR_some hg) ?_
          refine ⟨dlXn1a, dlXn1b, dlXn1c, dlXn1d, dlXn1e, Ob.intro (by kernel_rfl) ?_⟩
          repeat first | refine same ?_ | refine Ob.intro (show (0 : Int) ≤ 0 ∧ (0 : Int) < ((5 : Nat) : Int) from ⟨by omega, by omega⟩) ?_ | refine Ob.intro (show (0 : Int) ≤ b ∧ (b : Int) < ((sec : Nat) : Int) from ⟨h3, h4⟩) ?_
          refine wr_str (R := x0) (k := b.toNat) rfl rfl (by omega) (by omega) ?_
          exact hK (Cr5.mk (j + 1) (x0.set b.toNat s) (x1) (x2) (x3) (x4) (by omega) (by rw [picksD_snoc hp, hx]; exact pick1_some (p := (0, b)) (m := m0) hin0 rfl hg) (by rw [List.length_set]; exact l0) l1 l2 l3 l4) [0, 1, 2, 3, 4, 5, 6, 7, 8, 9, 10, 11, 12] _ (show ps.length - j = ps.length - (j + 1) + 1 by omega) ⟨⟨rfl, rfl, rfl, rfl, congrArg i64 (wincP (by omega)), True.intro⟩, ⟨.inl rfl, .inl rfl, .inl rfl, oS rfl, oS rfl, oS rfl, oS rfl, oS rfl, oM rfl, oM rfl, oM rfl, oM rfl, oM rfl, True.intro⟩, rfl, rfl, rfl⟩
        | none =>
          repeat first | refine same ?_ | refine Ob.intro (show (0 : Int) ≤ 0 ∧ (0 : Int) < ((5 : Nat) : Int) from ⟨by omega, by omega⟩) ?_ | refine optK_intro (lookR_none hg) ?_
          exact hK (Cr5.mk (j + 1) (x0) (x1) (x2) (x3) (x4) (by omega) (by rw [picksD_snoc hp, hx]; exact pick1_none (p := (0, b)) (m := m0) rfl hg) l0 l1 l2 l3 l4) [0, 1, 2, 3, 4, 5, 6, 7, 8, 9, 10, 11, 12] _ (show ps.length - j = ps.length - (j + 1) + 1 by omega) ⟨⟨rfl, rfl, rfl, rfl, congrArg i64 (wincP (by omega)), True.intro⟩, ⟨.inl rfl, .inl rfl, .inl rfl, oS rfl, oS rfl, oS rfl, oS rfl, oS rfl, oM rfl, oM rfl, oM rfl, oM rfl, oM rfl, True.intro⟩, rfl, rfl, rfl⟩
      · refine callW (cs := [bo false, i64 (sec : Nat), .slc 1 0 5 1, .slc 2 0 5 1]) (rest := [i64 1, i64 b]) hm rfl rfl rfl ?_
        refine ⟨dlXn2a, dlXn2b, dlXn2c, dlXn2d, dlXn2e, Ob.intro (by kernel_rfl) ?_⟩
        repeat first | refine same ?_ | refine Ob.intro (show (0 : Int) ≤ 1 ∧ (1 : Int) < ((5 : Nat) : Int) from ⟨by omega, by omega⟩) ?_
        cases hg : getE m1.L b with
        | some s =>
          repeat first | refine same ?_ | refine Ob.intro (show (0 : Int) ≤ 1 ∧ (1 : Int) < ((5 : Nat) : Int) from ⟨by omega, by omega⟩) ?_ | refine optK_intro (lookR_some hg) ?_
          refine ⟨dlXn1a, dlXn1b, dlXn1c, dlXn1d, dlXn1e, Ob.intro (by kernel_rfl) ?_⟩
          repeat first | refine same ?_ | refine Ob.intro (show (0 : Int) ≤ 1 ∧ (1 : Int) < ((5 : Nat) : Int) from ⟨by omega, by omega⟩) ?_ | refine Ob.intro (show (0 : Int) ≤ b ∧ (b : Int) < ((sec : Nat) : Int) from ⟨h3, h4⟩) ?_
          refine wr_str (R := x1) (k := b.toNat) rfl rfl (by omega) (by omega) ?_
          exact hK (Cr5.mk (j + 1) (x0) (x1.set b.toNat s) (x2) (x3) (x4) (by omega) (by rw [picksD_snoc hp, hx]; exact pick1_some (p := (1, b)) (m := m1) hin0 rfl hg) l0 (by rw [List.length_set]; exact l1) l2 l3 l4) [0, 1, 2, 3, 4, 5, 6, 7, 8, 9, 10, 11, 12] _ (show ps.length - j = ps.length - (j + 1) + 1 by omega) ⟨⟨rfl, rfl, rfl, rfl, congrArg i64 (wincP (by omega)), True.intro⟩, ⟨.inl rfl, .inl rfl, .inl rfl, oS rfl, oS rfl, oS rfl, oS rfl, oS rfl, oM rfl, oM rfl, oM rfl, oM rfl, oM rfl, True.intro⟩, rfl, rfl, rfl⟩
        | none =>
          repeat first | refine same ?_ | refine Ob.intro (show (0 : Int) ≤ 1 ∧ (1 : Int) < ((5 : Nat) : Int) from ⟨by omega, by omega⟩) ?_ | refine optK_intro (lookR_none hg) ?_
          exact hK (Cr5.mk (j + 1) (x0) (x1) (x2) (x3) (x4) (by omega) (by rw [picksD_snoc hp, hx]; exact pick1_none (p := (1, b)) (m := m1) rfl hg) l0 l1 l2 l3 l4) [0, 1, 2, 3, 4, 5, 6, 7, 8, 9, 10, 11, 12] _ (show ps.length - j = ps.length - (j + 1) + 1 by omega) ⟨⟨rfl, rfl, rfl, rfl, congrArg i64 (wincP (by omega)), True.intro⟩, ⟨.inl rfl, .inl rfl, .inl rfl, oS rfl, oS rfl, oS rfl, oS rfl, oS rfl, oM rfl, oM rfl, oM rfl, oM rfl, oM rfl, True.intro⟩, rfl, rfl, rfl⟩
      · refine callW (cs := [bo false, i64 (sec : Nat), .slc 1 0 5 1, .slc 2 0 5 1]) (rest := [i64 2, i64 b]) hm rfl rfl rfl ?_
        refine ⟨dlXn2a, dlXn2b, dlXn2c, dlXn2d, dlXn2e, Ob.intro (by kernel_rfl) ?_⟩
        repeat first | refine same ?_ | refine Ob.intro (show (0 : Int) ≤ 2 ∧ (2 : Int) < ((5 : Nat) : Int) from ⟨by omega, by omega⟩) ?_
        cases hg : getE m2.L b with
        | some s =>
          repeat first | refine same ?_ | refine Ob.intro (show (0 : Int) ≤ 2 ∧ (2 : Int) < ((5 : Nat) : Int) from ⟨by omega, by omega⟩) ?_ | refine optK_intro (lookR_some hg) ?_
          refine ⟨dlXn1a, dlXn1b, dlXn1c, dlXn1d, dlXn1e, Ob.intro (by kernel_rfl) ?_⟩
          repeat first | refine same ?_ | refine Ob.intro (show (0 : Int) ≤ 2 ∧ (2 : Int) < ((5 : Nat) : Int) from ⟨by omega, by omega⟩) ?_ | refine Ob.intro (show (0 : Int) ≤ b ∧ (b : Int) < ((sec : Nat) : Int) from ⟨h3, h4⟩) ?_
          refine wr_str (R := x2) (k := b.toNat) rfl rfl (by omega) (by omega) ?_
          exact hK (Cr5.mk (j + 1) (x0) (x1) (x2.set b.toNat s) (x3) (x4) (by omega) (by rw [picksD_snoc hp, hx]; exact pick1_some (p := (2, b)) (m := m2) hin0 rfl hg) l0 l1 (by rw [List.length_set]; exact l2) l3 l4) [0, 1, 2, 3, 4, 5, 6, 7, 8, 9, 10, 11, 12] _ (show ps.length - j = ps.length - (j + 1) + 1 by omega) ⟨⟨rfl, rfl, rfl, rfl, congrArg i64 (wincP (by omega)), True.intro⟩, ⟨.inl rfl, .inl rfl, .inl rfl, oS rfl, oS rfl, oS rfl, oS rfl, oS rfl, oM rfl, oM rfl, oM rfl, oM rfl, oM rfl, True.intro⟩, rfl, rfl, rfl⟩
        | none =>
          repeat first | refine same ?_ | refine Ob.intro (show (0 : Int) ≤ 2 ∧ (2 : Int) < ((5 : Nat) : Int) from ⟨by omega, by omega⟩) ?_ | refine optK_intro (lookR_none hg) ?_
          exact hK (Cr5.mk (j + 1) (x0) (x1) (x2) (x3) (x4) (by omega) (by rw [picksD_snoc hp, hx]; exact pick1_none (p := (2, b)) (m := m2) rfl hg) l0 l1 l2 l3 l4) [0, 1, 2, 3, 4, 5, 6, 7, 8, 9, 10, 11, 12] _ (show ps.length - j = ps.length - (j + 1) + 1 by omega) ⟨⟨rfl, rfl, rfl, rfl, congrArg i64 (wincP (by omega)), True.intro⟩, ⟨.inl rfl, .inl rfl, .inl rfl, oS rfl, oS rfl, oS rfl, oS rfl, oS rfl, oM rfl, oM rfl, oM rfl, oM rfl, oM rfl, True.intro⟩, rfl, rfl, rfl⟩
      · refine callW (cs := [bo false, i64 (sec : Nat), .slc 1 0 5 1, .slc 2 0 5 1]) (rest := [i64 3, i64 b]) hm rfl rfl rfl ?_
        refine ⟨dlXn2a, dlXn2b, dlXn2c, dlXn2d, dlXn2e, Ob.intro (by kernel_rfl) ?_⟩
        repeat first | refine same ?_ | refine Ob.intro (show (0 : Int) ≤ 3 ∧ (3 : Int) < ((5 : Nat) : Int) from ⟨by omega, by omega⟩) ?_
        cases hg : getE m3.L b with
        | some s =>
          repeat first | refine same ?_ | refine Ob.intro (show (0 : Int) ≤ 3 ∧ (3 : Int) < ((5 : Nat) : Int) from ⟨by omega, by omega⟩) ?_ | refine optK_intro (lookR_some hg) ?_
          refine ⟨dlXn1a, dlXn1b, dlXn1c, dlXn1d, dlXn1e, Ob.intro (by kernel_rfl) ?_⟩
          repeat first | refine same ?_ | refine Ob.intro (show (0 : Int) ≤ 3 ∧ (3 : Int) < ((5 : Nat) : Int) from ⟨by omega, by omega⟩) ?_ | refine Ob.intro (show (0 : Int) ≤ b ∧ (b : Int) < ((sec : Nat) : Int) from ⟨h3, h4⟩) ?_
          refine wr_str (R := x3) (k := b.toNat) rfl rfl (by omega) (by omega) ?_
          exact hK (Cr5.mk (j + 1) (x0) (x1) (x2) (x3.set b.toNat s) (x4) (by omega) (by rw [picksD_snoc hp, hx]; exact pick1_some (p := (3, b)) (m := m3) hin0 rfl hg) l0 l1 l2 (by rw [List.length_set]; exact l3) l4) [0, 1, 2, 3, 4, 5, 6, 7, 8, 9, 10, 11, 12] _ (show ps.length - j = ps.length - (j + 1) + 1 by omega) ⟨⟨rfl, rfl, rfl, rfl, congrArg i64 (wincP (by omega)), True.intro⟩, ⟨.inl rfl, .inl rfl, .inl rfl, oS rfl, oS rfl, oS rfl, oS rfl, oS rfl, oM rfl, oM rfl, oM rfl, oM rfl, oM rfl, True.intro⟩, rfl, rfl, rfl⟩
        | none =>
          repeat first | refine same ?_ | refine Ob.intro (show (0 : Int) ≤ 3 ∧ (3 : Int) < ((5 : Nat) : Int) from ⟨by omega, by omega⟩) ?_ | refine optK_intro (lookR_none hg) ?_
          exact hK (Cr5.mk (j + 1) (x0) (x1) (x2) (x3) (x4) (by omega) (by rw [picksD_snoc hp, hx]; exact pick1_none (p := (3, b)) (m := m3) rfl hg) l0 l1 l2 l3 l4) [0, 1, 2, 3, 4, 5, 6, 7, 8, 9, 10, 11, 12] _ (show ps.length - j = ps.length - (j + 1) + 1 by omega) ⟨⟨rfl, rfl, rfl, rfl, congrArg i64 (wincP (by omega)), True.intro⟩, ⟨.inl rfl, .inl rfl, .inl rfl, oS rfl, oS rfl, oS rfl, oS rfl, oS rfl, oM rfl, oM rfl, oM rfl, oM rfl, oM rfl, True.intro⟩, rfl, rfl, rfl⟩
      · refine callW (cs := [bo false, i64 (sec : Nat), .slc 1 0 5 1, .slc 2 0 5 1]) (rest := [i64 4, i64 b]) hm rfl rfl rfl ?_
        refine ⟨dlXn2a, dlXn2b, dlXn2c, dlXn2d, dlXn2e, Ob.intro (by kernel_rfl) ?_⟩
        repeat first | refine same ?_ | refine Ob.intro (show (0 : Int) ≤ 4 ∧ (4 : Int) < ((5 : Nat) : Int) from ⟨by omega, by omega⟩) ?_
        cases hg : getE m4.L b with
        | some s =>
          repeat first | refine same ?_ | refine Ob.intro (show (0 : Int) ≤ 4 ∧ (4 : Int) < ((5 : Nat) : Int) from ⟨by omega, by omega⟩) ?_ | refine optK_intro (lookR_some hg) ?_
          refine ⟨dlXn1a, dlXn1b, dlXn1c, dlXn1d, dlXn1e, Ob.intro (by kernel_rfl) ?_⟩
          repeat first | refine same ?_ | refine Ob.intro (show (0 : Int) ≤ 4 ∧ (4 : Int) < ((5 : Nat) : Int) from ⟨by omega, by omega⟩) ?_ | refine Ob.intro (show (0 : Int) ≤ b ∧ (b : Int) < ((sec : Nat) : Int) from ⟨h3, h4⟩) ?_
          refine wr_str (R := x4) (k := b.toNat) rfl rfl (by omega) (by omega) ?_
          exact hK (Cr5.mk (j + 1) (x0) (x1) (x2) (x3) (x4.set b.toNat s) (by omega) (by rw [picksD_snoc hp, hx]; exact pick1_some (p := (4, b)) (m := m4) hin0 rfl hg) l0 l1 l2 l3 (by rw [List.length_set]; exact l4)) [0, 1, 2, 3, 4, 5, 6, 7, 8, 9, 10, 11, 12] _ (show ps.length - j = ps.length - (j + 1) + 1 by omega) ⟨⟨rfl, rfl, rfl, rfl, congrArg i64 (wincP (by omega)), True.intro⟩, ⟨.inl rfl, .inl rfl, .inl rfl, oS rfl, oS rfl, oS rfl, oS rfl, oS rfl, oM rfl, oM rfl, oM rfl, oM rfl, oM rfl, True.intro⟩, rfl, rfl, rfl⟩
        | none =>
          repeat first | refine same ?_ | refine Ob.intro (show (0 : Int) ≤ 4 ∧ (4 : Int) < ((5 : Nat) : Int) from ⟨by omega, by omega⟩) ?_ | refine optK_intro (lookR_none hg) ?_
          exact hK (Cr5.mk (j + 1) (x0) (x1) (x2) (x3) (x4) (by omega) (by rw [picksD_snoc hp, hx]; exact pick1_none (p := (4, b)) (m := m4) rfl hg) l0 l1 l2 l3 l4) [0, 1, 2, 3, 4, 5, 6, 7, 8, 9, 10, 11, 12] _ (show ps.length - j = ps.length - (j + 1) + 1 by omega) ⟨⟨rfl, rfl, rfl, rfl, congrArg i64 (wincP (by omega)), True.intro⟩, ⟨.inl rfl, .inl rfl, .inl rfl, oS rfl, oS rfl, oS rfl, oS rfl, oS rfl, oM rfl, oM rfl, oM rfl, oM rfl, oM rfl, True.intro⟩, rfl, rfl, rfl⟩
    · rw [if_neg hin] at hm
      refine callW (cs := [bo false, i64 (sec : Nat), .slc 1 0 5 1, .slc 2 0 5 1]) (rest := [i64 a, i64 b]) hm rfl rfl rfl ?_
      exact hK (Cr5.mk (j + 1) (x0) (x1) (x2) (x3) (x4) (by omega) (by rw [picksD_snoc hp, hx]; exact pick1_no (p := (a, b)) hin) l0 l1 l2 l3 l4) [0, 1, 2, 3, 4, 5, 6, 7, 8, 9, 10, 11, 12] _ (show ps.length - j = ps.length - (j + 1) + 1 by omega) ⟨⟨rfl, rfl, rfl, rfl, congrArg i64 (wincP (by omega)), True.intro⟩, ⟨.inl rfl, .inl rfl, .inl rfl, oS rfl, oS rfl, oS rfl, oS rfl, oS rfl, oM rfl, oM rfl, oM rfl, oM rfl, oM rfl, True.intro⟩, rfl, rfl, rfl⟩
  · have hfin : picksD sec [m0, m1, m2, m3, m4] [d0, d1, d2, d3, d4] ps = [x0, x1, x2, x3, x4] := by
      have : ¬ (j : Int) < (ps.length : Int) := g
      rw [List.take_of_length_le (by omega)] at hx
      exact hx
    rw [hfin]
    clear hK hx hfin
    refine loopI (α := Fin 6) (fun z => [(0, .ptr 0 0), (63, .slc 2 0 5 1), (64, i64 (5 : Nat)), (65, i64 (z.val : Nat))]) (fun z => (Wd.mk false sec [x0, x1, x2, x3, x4] (clr5 z.val [m0, m1, m2, m3, m4])).H) (fun z => 5 - z.val) 0 [0, 1, 2, 3, 4, 5, 6, 7, 8, 9, 10, 11, 12] ⟨⟨rfl, rfl, rfl, rfl, True.intro⟩, ⟨.inl rfl, .inl rfl, .inl rfl, oS rfl, oS rfl, oS rfl, oS rfl, oS rfl, oM rfl, oM rfl, oM rfl, oM rfl, oM rfl, True.intro⟩, rfl, rfl, rfl⟩ ?_
    rintro ⟨j, hj⟩ K2 hK
    dsimp only at hj ⊢
    match j, hj with
    | 0, _ =>
      refine Ob.intro (show (0 : Int) ≤ ((0 : Nat) : Int) ∧ ((0 : Nat) : Int) < ((5 : Nat) : Int) by omega) ?_
      exact hK ⟨1, by omega⟩ [0, 1, 2, 3, 4, 5, 6, 7, 8, 9, 10, 11, 12] _ rfl ⟨⟨rfl, rfl, rfl, congrArg i64 (wincP (n := 0) (by omega)), True.intro⟩, ⟨.inl rfl, .inl rfl, .inl rfl, oS rfl, oS rfl, oS rfl, oS rfl, oS rfl, oM rfl, oM rfl, oM rfl, oM rfl, oM rfl, True.intro⟩, rfl, rfl, rfl⟩
    | 1, _ =>
      refine Ob.intro (show (0 : Int) ≤ ((1 : Nat) : Int) ∧ ((1 : Nat) : Int) < ((5 : Nat) : Int) by omega) ?_
      exact hK ⟨2, by omega⟩ [0, 1, 2, 3, 4, 5, 6, 7, 8, 9, 10, 11, 12] _ rfl ⟨⟨rfl, rfl, rfl, congrArg i64 (wincP (n := 1) (by omega)), True.intro⟩, ⟨.inl rfl, .inl rfl, .inl rfl, oS rfl, oS rfl, oS rfl, oS rfl, oS rfl, oM rfl, oM rfl, oM rfl, oM rfl, oM rfl, True.intro⟩, rfl, rfl, rfl⟩
    | 2, _ =>
      refine Ob.intro (show (0 : Int) ≤ ((2 : Nat) : Int) ∧ ((2 : Nat) : Int) < ((5 : Nat) : Int) by omega) ?_
      exact hK ⟨3, by omega⟩ [0, 1, 2, 3, 4, 5, 6, 7, 8, 9, 10, 11, 12] _ rfl ⟨⟨rfl, rfl, rfl, congrArg i64 (wincP (n := 2) (by omega)), True.intro⟩, ⟨.inl rfl, .inl rfl, .inl rfl, oS rfl, oS rfl, oS rfl, oS rfl, oS rfl, oM rfl, oM rfl, oM rfl, oM rfl, oM rfl, True.intro⟩, rfl, rfl, rfl⟩
    | 3, _ =>
      refine Ob.intro (show (0 : Int) ≤ ((3 : Nat) : Int) ∧ ((3 : Nat) : Int) < ((5 : Nat) : Int) by omega) ?_
      exact hK ⟨4, by omega⟩ [0, 1, 2, 3, 4, 5, 6, 7, 8, 9, 10, 11, 12] _ rfl ⟨⟨rfl, rfl, rfl, congrArg i64 (wincP (n := 3) (by omega)), True.intro⟩, ⟨.inl rfl, .inl rfl, .inl rfl, oS rfl, oS rfl, oS rfl, oS rfl, oS rfl, oM rfl, oM rfl, oM rfl, oM rfl, oM rfl, True.intro⟩, rfl, rfl, rfl⟩
    | 4, _ =>
      refine Ob.intro (show (0 : Int) ≤ ((4 : Nat) : Int) ∧ ((4 : Nat) : Int) < ((5 : Nat) : Int) by omega) ?_
      exact hK ⟨5, by omega⟩ [0, 1, 2, 3, 4, 5, 6, 7, 8, 9, 10, 11, 12] _ rfl ⟨⟨rfl, rfl, rfl, congrArg i64 (wincP (n := 4) (by omega)), True.intro⟩, ⟨.inl rfl, .inl rfl, .inl rfl, oS rfl, oS rfl, oS rfl, oS rfl, oS rfl, oM rfl, oM rfl, oM rfl, oM rfl, oM rfl, True.intro⟩, rfl, rfl, rfl⟩
    | 5, _ =>
      exact endH rfl rfl rfl ⟨.inl rfl, .inl rfl, .inl rfl, .inl rfl, .inl rfl, .inl rfl, .inl rfl, .inl rfl, .inl rfl, .inl rfl, .inl rfl, .inl rfl, .inl rfl, True.intro⟩ (Nat.le_refl 13) (Wd.below _) rfl
    | k + 6, hj => exact absurd hj (by omega)
structure Cr6 (sec : Nat) (M : List Mp) (D : List (List ByteArray)) (ps : List (Int × Int)) where
  j : Nat
  x0 : List ByteArray
  x1 : List ByteArray
  x2 : List ByteArray
  x3 : List ByteArray
  x4 : List ByteArray
  x5 : List ByteArray
  hj : j ≤ ps.length
  hx : picksD sec M D (ps.take j) = [x0, x1, x2, x3, x4, x5]
  l0 : x0.length = sec
  l1 : x1.length = sec
  l2 : x2.length = sec
  l3 : x3.length = sec
  l4 : x4.length = sec
  l5 : x5.length = sec
def clr6 (j : Nat) (M : List Mp) : List Mp := (M.take j).map Mp.clr ++ M.drop j
set_option maxHeartbeats 4000000 in
theorem crash_6 (sec : Nat) (D : List (List ByteArray)) (M : List Mp) (ps : List (Int × Int)) (hD : D.length = 6) (hM : M.length = 6) (hps : ps.length ≤ 100000) (hl : ∀ d ∈ D, d.length = sec) :
    ACalls Tryd.prog 21 [.ptr 0 0, .view ps.length (flat pkC ps)] (Wd.mk false sec D M).H (RetH (i64 0) (Wd.mk true sec (picksD sec M D ps) (M.map Mp.clr)).H) := by
  match D, hD, M, hM with
  | [d0, d1, d2, d3, d4, d5], _, [m0, m1, m2, m3, m4, m5], _ =>
  refine acalls_of_awp hT mixed Tryd.func21 rfl (by kernel_rfl) (by kernel_rfl) (Nat.le_of_ble_eq_true rfl) ?_
  refine loopI (α := Cr6 sec [m0, m1, m2, m3, m4, m5] [d0, d1, d2, d3, d4, d5] ps) (fun z => [(0, .ptr 0 0), (1, .view ps.length (flat pkC ps)), (19, .view ps.length (flat pkC ps)), (20, i64 (ps.length : Nat)), (21, i64 (z.j : Nat))]) (fun z => (Wd.mk false sec [z.x0, z.x1, z.x2, z.x3, z.x4, z.x5] [m0, m1, m2, m3, m4, m5]).H) (fun z => ps.length - z.j) (Cr6.mk 0 d0 d1 d2 d3 d4 d5 (Nat.zero_le _) rfl (hl d0 (by simp)) (hl d1 (by simp)) (hl d2 (by simp)) (hl d3 (by simp)) (hl d4 (by simp)) (hl d5 (by simp))) [0, 1, 2, 3, 4, 5, 6, 7, 8, 9, 10, 11, 12, 13, 14] ⟨⟨rfl, rfl, rfl, rfl, rfl, True.intro⟩, ⟨.inl rfl, .inl rfl, .inl rfl, oS rfl, oS rfl, oS rfl, oS rfl, oS rfl, oS rfl, oM rfl, oM rfl, oM rfl, oM rfl, oM rfl, oM rfl, True.intro⟩, rfl, rfl, rfl⟩ ?_
  rintro ⟨j, x0, x1, x2, x3, x4, x5, hj, hx, l0, l1, l2, l3, l4, l5⟩ K hK
  dsimp only at hj hx l0 l1 l2 l3 l4 l5 ⊢
  refine forkD (fun g => ?_) (fun g => ?_)
  · have g' : j < ps.length := by have : (j : Int) < (ps.length : Int) := g; omega
    obtain ⟨⟨a, b⟩, hp⟩ : ∃ p, ps[j]? = some p := ⟨_, List.getElem?_eq_getElem g'⟩
    have hm := may_ok false (sec : Nat) 6 a b
    refine Ob.intro (show (0 : Int) ≤ (j : Nat) ∧ ((j : Nat) : Int) < (ps.length : Nat) by omega) ?_
    refine optK_intro (flat_takeN (f := pkC) (n := 2) (fun _ => rfl) hp) ?_
    by_cases hin : inS sec 6 a b
    · rw [if_pos hin] at hm
      have hin0 := hin
      obtain ⟨⟨h1, h2⟩, h3, h4⟩ := hin
      have he : a = 0 ∨ a = 1 ∨ a = 2 ∨ a = 3 ∨ a = 4 ∨ a = 5 := by omega
      rcases he with rfl | rfl | rfl | rfl | rfl | rfl
      · refine callW (cs := [bo false, i64 (sec : Nat), .slc 1 0 6 1, .slc 2 0 6 1]) (rest := [i64 0, i64 b]) hm rfl rfl rfl ?_
        refine ⟨dlXn2a, dlXn2b, dlXn2c, dlXn2d, dlXn2e, Ob.intro (by kernel_rfl) ?_⟩
        repeat first | refine same ?_ | refine Ob.intro (show (0 : Int) ≤ 0 ∧ (0 : Int) < ((6 : Nat) : Int) from ⟨by omega, by omega⟩) ?_
        cases hg : getE m0.L b with
        | some s =>
          repeat first | refine same ?_ | refine Ob.intro (show (0 : Int) ≤ 0 ∧ (0 : Int) < ((6 : Nat) : Int) from ⟨by omega, by omega⟩) ?_ | refine optK_intro (lookR_some hg) ?_
          refine ⟨dlXn1a, dlXn1b, dlXn1c, dlXn1d, dlXn1e, Ob.intro (by kernel_rfl) ?_⟩
          repeat first | refine same ?_ | refine Ob.intro (show (0 : Int) ≤ 0 ∧ (0 : Int) < ((6 : Nat) : Int) from ⟨by omega, by omega⟩) ?_ | refine Ob.intro (show (0 : Int) ≤ b ∧ (b : Int) < ((sec : Nat) : Int) from ⟨h3, h4⟩) ?_
          refine wr_str (R := x0) (k := b.toNat) rfl rfl (by omega) (by omega) ?_
          exact hK (Cr6.mk (j + 1) (x0.set b.toNat s) (x1) (x2) (x3) (x4) (x5) (by omega) (by rw [picksD_snoc hp, hx]; exact pick1_some (p := (0, b)) (m := m0) hin0 rfl hg) (by rw [List.length_set]; exact l0) l1 l2 l3 l4 l5) [0, 1, 2, 3, 4, 5, 6, 7, 8, 9, 10, 11, 12, 13, 14] _ (show ps.length - j = ps.length - (j + 1) + 1 by omega) ⟨⟨rfl, rfl, rfl, rfl, congrArg i64 (wincP (by omega)), True.intro⟩, ⟨.inl rfl, .inl rfl, .inl rfl, oS rfl, oS rfl, oS rfl, oS rfl, oS rfl, oS rfl, oM rfl, oM rfl, oM rfl, oM rfl, oM rfl, oM rfl, True.intro⟩, rfl, rfl, rfl⟩
        | none =>
          repeat first | refine same ?_ | refine Ob.intro (show (0 : Int) ≤ 0 ∧ (0 : Int) < ((6 : Nat) : Int) from ⟨by omega, by omega⟩) ?_ | refine optK_intro (lookR_none hg) ?_
          exact hK (Cr6.mk (j + 1) (x0) (x1) (x2) (x3) (x4) (x5) (by omega) (by rw [picksD_snoc hp, hx]; exact pick1_none (p := (0, b)) (m := m0) rfl hg) l0 l1 l2 l3 l4 l5) [0, 1, 2, 3, 4, 5, 6, 7, 8, 9, 10, 11, 12, 13, 14] _ (show ps.length - j = ps.length - (j + 1) + 1 by omega) ⟨⟨rfl, rfl, rfl, rfl, congrArg i64 (wincP (by omega)), True.intro⟩, ⟨.inl rfl, .inl rfl, .inl rfl, oS rfl, oS rfl, oS rfl, oS rfl, oS rfl, oS rfl, oM rfl, oM rfl, oM rfl, oM rfl, oM rfl, oM rfl, True.intro⟩, rfl, rfl, rfl⟩
      · refine callW (cs := [bo false, i64 (sec : Nat), .slc 1 0 6 1, .slc 2 0 6 1]) (rest := [i64 1, i64 b]) hm rfl rfl rfl ?_
        refine ⟨dlXn2a, dlXn2b, dlXn2c, dlXn2d, dlXn2e, Ob.intro (by kernel_rfl) ?_⟩
        repeat first | refine same ?_ | refine Ob.intro (show (0 : Int) ≤ 1 ∧ (1 : Int) < ((6 : Nat) : Int) from ⟨by omega, by omega⟩) ?_
        cases hg : getE m1.L b with
        | some s =>
          repeat first | refine same ?_ | refine Ob.intro (show (0 : Int) ≤ 1 ∧ (1 : Int) < ((6 : Nat) : Int) from ⟨by omega, by omega⟩) ?_ | refine optK_intro (lookR_some hg) ?_
          refine ⟨dlXn1a, dlXn1b, dlXn1c, dlXn1d, dlXn1e, Ob.intro (by kernel_rfl) ?_⟩
          repeat first | refine same ?_ | refine Ob.intro (show (0 : Int) ≤ 1 ∧ (1 : Int) < ((6 : Nat) : Int) from ⟨by omega, by omega⟩) ?_ | refine Ob.intro (show (0 : Int) ≤ b ∧ (b : Int) < ((sec : Nat) : Int) from ⟨h3, h4⟩) ?_
          refine wr_str (R := x1) (k := b.toNat) rfl rfl (by omega) (by omega) ?_
          exact hK (Cr6.mk (j + 1) (x0) (x1.set b.toNat s) (x2) (x3) (x4) (x5) (by omega) (by rw [picksD_snoc hp, hx]; exact pick1_some (p := (1, b)) (m := m1) hin0 rfl hg) l0 (by rw [List.length_set]; exact l1) l2 l3 l4 l5) [0, 1, 2, 3, 4, 5, 6, 7, 8, 9, 10, 11, 12, 13, 14] _ (show ps.length - j = ps.length - (j + 1) + 1 by omega) ⟨⟨rfl, rfl, rfl, rfl, congrArg i64 (wincP (by omega)), True.intro⟩, ⟨.inl rfl, .inl rfl, .inl rfl, oS rfl, oS rfl, oS rfl, oS rfl, oS rfl, oS rfl, oM rfl, oM rfl, oM rfl, oM rfl, oM rfl, oM rfl, True.intro⟩, rfl, rfl, rfl⟩
        | none =>
          repeat first | refine same ?_ | refine Ob.intro (show (0 : Int) ≤ 1 ∧ (1 : Int) < ((6 : Nat) : Int) from ⟨by omega, by omega⟩) ?_ | refine optK_intro (lookR_none hg) ?_
          exact hK (Cr6.mk (j + 1) (x0) (x1) (x2) (x3) (x4) (x5) (by omega) (by rw [picksD_snoc hp, hx]; exact pick1_none (p := (1, b)) (m := m1) rfl hg) l0 l1 l2 l3 l4 l5) [0, 1, 2, 3, 4, 5, 6, 7, 8, 9, 10, 11, 12, 13, 14] _ (show ps.length - j = ps.length - (j + 1) + 1 by omega) ⟨⟨rfl, rfl, rfl, rfl, congrArg i64 (wincP (by omega)), True.intro⟩, ⟨.inl rfl, .inl rfl, .inl rfl, oS rfl, oS rfl, oS rfl, oS rfl, oS rfl, oS rfl, oM rfl, oM rfl, oM rfl, oM rfl, oM rfl, oM rfl, True.intro⟩, rfl, rfl, rfl⟩
      · refine callW (cs := [bo false, i64 (sec : Nat), .slc 1 0 6 1, .slc 2 0 6 1]) (rest := [i64 2, i64 b]) hm rfl rfl rfl ?_
        refine ⟨dlXn2a, dlXn2b, dlXn2c, dlXn2d, dlXn2e, Ob.intro (by kernel_rfl) ?_⟩
        repeat first | refine same ?_ | refine Ob.intro (show (0 : Int) ≤ 2 ∧ (2 : Int) < ((6 : Nat) : Int) from ⟨by omega, by omega⟩) ?_
        cases hg : getE m2.L b with
        | some s =>
          repeat first | refine same ?_ | refine Ob.intro (show (0 : Int) ≤ 2 ∧ (2 : Int) < ((6 : Nat) : Int) from ⟨by omega, by omega⟩) ?_ | refine optK_intro (lookR_some hg) ?_
          refine ⟨dlXn1a, dlXn1b, dlXn1c, dlXn1d, dlXn1e, Ob.intro (by kernel_rfl) ?_⟩
          repeat first | refine same ?_ | refine Ob.intro (show (0 : Int) ≤ 2 ∧ (2 : Int) < ((6 : Nat) : Int) from ⟨by omega, by omega⟩) ?_ | refine Ob.intro (show (0 : Int) ≤ b ∧ (b : Int) < ((sec : Nat) : Int) from ⟨h3, h4⟩) ?_
          refine wr_str (R := x2) (k := b.toNat) rfl rfl (by omega) (by omega) ?_
          exact hK (Cr6.mk (j + 1) (x0) (x1) (x2.set b.toNat s) (x3) (x4) (x5) (by omega) (by rw [picksD_snoc hp, hx]; exact pick1_some (p := (2, b)) (m := m2) hin0 rfl hg) l0 l1 (by rw [List.length_set]; exact l2) l3 l4 l5) [0, 1, 2, 3, 4, 5, 6, 7, 8, 9, 10, 11, 12, 13, 14] _ (show ps.length - j = ps.length - (j + 1) + 1 by omega) ⟨⟨rfl, rfl, rfl, rfl, congrArg i64 (wincP (by omega)), True.intro⟩, ⟨.inl rfl, .inl rfl, .inl rfl, oS rfl, oS rfl, oS rfl, oS rfl, oS rfl, oS rfl, oM rfl, oM rfl, oM rfl, oM rfl, oM rfl, oM rfl, True.intro⟩, rfl, rfl, rfl⟩
        | none =>
          repeat first | refine same ?_ | refine Ob.intro (show (0 : Int) ≤ 2 ∧ (2 : Int) < ((6 : Nat) : Int) from ⟨by omega, by omega⟩) ?_ | refine optK_intro (lookR_none hg) ?_
          exact hK (Cr6.mk (j + 1) (x0) (x1) (x2) (x3) (x4) (x5) (by omega) (by rw [picksD_snoc hp, hx]; exact pick1_none (p := (2, b)) (m := m2) rfl hg) l0 l1 l2 l3 l4 l5) [0, 1, 2, 3, 4, 5, 6, 7, 8, 9, 10, 11, 12, 13, 14] _ (show ps.length - j = ps.length - (j + 1) + 1 by omega) ⟨⟨rfl, rfl, rfl, rfl, congrArg i64 (wincP (by omega)), True.intro⟩, ⟨.inl rfl, .inl rfl, .inl rfl, oS rfl, oS rfl, oS rfl, oS rfl, oS rfl, oS rfl, oM rfl, oM rfl, oM rfl, oM rfl, oM rfl, oM rfl, True.intro⟩, rfl, rfl, rfl⟩
      · refine callW (cs := [bo false, i64 (sec : Nat), .slc 1 0 6 1, .slc 2 0 6 1]) (rest := [i64 3, i64 b]) hm rfl rfl rfl ?_
        refine ⟨dlXn2a, dlXn2b, dlXn2c, dlXn2d, dlXn2e, Ob.intro (by kernel_rfl) ?_⟩
        repeat first | refine same ?_ | refine Ob.intro (show (0 : Int) ≤ 3 ∧ (3 : Int) < ((6 : Nat) : Int) from ⟨by omega, by omega⟩) ?_
        cases hg : getE m3.L b with
        | some s =>
          repeat first | refine same ?_ | refine Ob.intro (show (0 : Int) ≤ 3 ∧ (3 : Int) < ((6 : Nat) : Int) from ⟨by omega, by omega⟩) ?_ | refine optK_intro (lookR_some hg) ?_
          refine ⟨dlXn1a, dlXn1b, dlXn1c, dlXn1d, dlXn1e, Ob.intro (by kernel_rfl) ?_⟩
          repeat first | refine same ?_ | refine Ob.intro (show (0 : Int) ≤ 3 ∧ (3 : Int) < ((6 : Nat) : Int) from ⟨by omega, by omega⟩) ?_ | refine Ob.intro (show (0 : Int) ≤ b ∧ (b : Int) < ((sec : Nat) : Int) from ⟨h3, h4⟩) ?_
          refine wr_str (R := x3) (k := b.toNat) rfl rfl (by omega) (by omega) ?_
          exact hK (Cr6.mk (j + 1) (x0) (x1) (x2) (x3.set b.toNat s) (x4) (x5) (by omega) (by rw [picksD_snoc hp, hx]; exact pick1_some (p := (3, b)) (m := m3) hin0 rfl hg) l0 l1 l2 (by rw [List.length_set]; exact l3) l4 l5) [0, 1, 2, 3, 4, 5, 6, 7, 8, 9, 10, 11, 12, 13, 14] _ (show ps.length - j = ps.length - (j + 1) + 1 by omega) ⟨⟨rfl, rfl, rfl, rfl, congrArg i64 (wincP (by omega)), True.intro⟩, ⟨.inl rfl, .inl rfl, .inl rfl, oS rfl, oS rfl, oS rfl, oS rfl, oS rfl, oS rfl, oM rfl, oM rfl, oM rfl, oM rfl, oM rfl, oM rfl, True.intro⟩, rfl, rfl, rfl⟩
        | none =>
          repeat first | refine same ?_ | refine Ob.intro (show (0 : Int) ≤ 3 ∧ (3 : Int) < ((6 : Nat) : Int) from ⟨by omega, by omega⟩) ?_ | refine optK_intro (lookR_none hg) ?_
          exact hK (Cr6.mk (j + 1) (x0) (x1) (x2) (x3) (x4) (x5) (by omega) (by rw [picksD_snoc hp, hx]; exact pick1_none (p := (3, b)) (m := m3) rfl hg) l0 l1 l2 l3 l4 l5) [0, 1, 2, 3, 4, 5, 6, 7, 8, 9, 10, 11, 12, 13, 14] _ (show ps.length - j = ps.length - (j + 1) + 1 by omega) ⟨⟨rfl, rfl, rfl, rfl, congrArg i64 (wincP (by omega)), True.intro⟩, ⟨.inl rfl, .inl rfl, .inl rfl, oS rfl, oS rfl, oS rfl, oS rfl, oS rfl, oS rfl, oM rfl, oM rfl, oM rfl, oM rfl, oM rfl, oM rfl, True.intro⟩, rfl, rfl, rfl⟩
      · refine callW (cs := [bo false, i64 (sec : Nat), .slc 1 0 6 1, .slc 2 0 6 1]) (rest := [i64 4, i64 b]) hm rfl rfl rfl ?_
        refine ⟨dlXn2a, dlXn2b, dlXn2c, dlXn2d, dlXn2e, Ob.intro (by kernel_rfl) ?_⟩
        repeat first | refine same ?_ | refine Ob.intro (show (0 : Int) ≤ 4 ∧ (4 : Int) < ((6 : Nat) : Int) from ⟨by omega, by omega⟩) ?_
        cases hg : getE m4.L b with
        | some s =>
          repeat first | refine same ?_ | refine Ob.intro (show (0 : Int) ≤ 4 ∧ (4 : Int) < ((6 : Nat) : Int) from ⟨by omega, by omega⟩) ?_ | refine optK_intro (lookR_some hg) ?_
          refine ⟨dlXn1a, dlXn1b, dlXn1c, dlXn1d, dlXn1e, Ob.intro (by kernel_rfl) ?_⟩
          repeat first | refine same ?_ | refine Ob.intro (show (0 : Int) ≤ 4 ∧ (4 : Int) < ((6 : Nat) : Int) from ⟨by omega, by omega⟩) ?_ | refine Ob.intro (show (0 : Int) ≤ b ∧ (b : Int) < ((sec : Nat) : Int) from ⟨h3, h4⟩) ?_
          refine wr_str (R := x4) (k := b.toNat) rfl rfl (by omega) (by omega) ?_
          exact hK (Cr6.mk (j + 1) (x0) (x1) (x2) (x3) (x4.set b.toNat s) (x5) (by omega) (by rw [picksD_snoc hp, hx]; exact pick1_some (p := (4, b)) (m := m4) hin0 rfl hg) l0 l1 l2 l3 (by rw [List.length_set]; exact l4) l5) [0, 1, 2, 3, 4, 5, 6, 7, 8, 9, 10, 11, 12, 13, 14] _ (show ps.length - j = ps.length - (j + 1) + 1 by omega) ⟨⟨rfl, rfl, rfl, rfl, congrArg i64 (wincP (by omega)), True.intro⟩, ⟨.inl rfl, .inl rfl, .inl rfl, oS rfl, oS rfl, oS rfl, oS rfl, oS rfl, oS rfl, oM rfl, oM rfl, oM rfl, oM rfl, oM rfl, oM rfl, True.intro⟩, rfl, rfl, rfl⟩
        | none =>
          repeat first | refine same ?_ | refine Ob.intro (show (0 : Int) ≤ 4 ∧ (4 : Int) < ((6 : Nat) : Int) from ⟨by omega, by omega⟩) ?_ | refine optK_intro (lookR_none hg) ?_
          exact hK (Cr6.mk (j + 1) (x0) (x1) (x2) (x3) (x4) (x5) (by omega) (by rw [picksD_snoc hp, hx]; exact pick1_none (p := (4, b)) (m := m4) rfl hg) l0 l1 l2 l3 l4 l5) [0, 1, 2, 3, 4, 5, 6, 7, 8, 9, 10, 11, 12, 13, 14] _ (show ps.length - j = ps.length - (j + 1) + 1 by omega) ⟨⟨rfl, rfl, rfl, rfl, congrArg i64 (wincP (by omega)), True.intro⟩, ⟨.inl rfl, .inl rfl, .inl rfl, oS rfl, oS rfl, oS rfl, oS rfl, oS rfl, oS rfl, oM rfl, oM rfl, oM rfl, oM rfl, oM rfl, oM rfl, True.intro⟩, rfl, rfl, rfl⟩
      · refine callW (cs := [bo false, i64 (sec : Nat), .slc 1 0 6 1, .slc 2 0 6 1]) (rest := [i64 5, i64 b]) hm rfl rfl rfl ?_
        refine ⟨dlXn2a, dlXn2b, dlXn2c, dlXn2d, dlXn2e, Ob.intro (by kernel_rfl) ?_⟩
        repeat first | refine same ?_ | refine Ob.intro (show (0 : Int) ≤ 5 ∧ (5 : Int) < ((6 : Nat) : Int) from ⟨by omega, by omega⟩) ?_
        cases hg : getE m5.L b with
        | some s =>
          repeat first | refine same ?_ | refine Ob.intro (show (0 : Int) ≤ 5 ∧ (5 : Int) < ((6 : Nat) : Int) from ⟨by omega, by omega⟩) ?_ | refine optK_intro (lookR_some hg) ?_
          refine ⟨dlXn1a, dlXn1b, dlXn1c, dlXn1d, dlXn1e, Ob.intro (by kernel_rfl) ?_⟩
          repeat first | refine same ?_ | refine Ob.intro (show (0 : Int) ≤ 5 ∧ (5 : Int) < ((6 : Nat) : Int) from ⟨by omega, by omega⟩) ?_ | refine Ob.intro (show (0 : Int) ≤ b ∧ (b : Int) < ((sec : Nat) : Int) from ⟨h3, h4⟩) ?_
          refine wr_str (R := x5) (k := b.toNat) rfl rfl (by omega) (by omega) ?_
          exact hK (Cr6.mk (j + 1) (x0) (x1) (x2) (x3) (x4) (x5.set b.toNat s) (by omega) (by rw [picksD_snoc hp, hx]; exact pick1_some (p := (5, b)) (m := m5) hin0 rfl hg) l0 l1 l2 l3 l4 (by rw [List.length_set]; exact l5)) [0, 1, 2, 3, 4, 5, 6, 7, 8, 9, 10, 11, 12, 13, 14] _ (show ps.length - j = ps.length - (j + 1) + 1 by omega) ⟨⟨rfl, rfl, rfl, rfl, congrArg i64 (wincP (by omega)), True.intro⟩, ⟨.inl rfl, .inl rfl, .inl rfl, oS rfl, oS rfl, oS rfl, oS rfl, oS rfl, oS rfl, oM rfl, oM rfl, oM rfl, oM rfl, oM rfl, oM rfl, True.intro⟩, rfl, rfl, rfl⟩
        | none =>
          repeat first | refine same ?_ | refine Ob.intro (show (0 : Int) ≤ 5 ∧ (5 : Int) < ((6 : Nat) : Int) from ⟨by omega, by omega⟩) ?_ | refine optK_intro (lookR_none hg) ?_
          exact hK (Cr6.mk (j + 1) (x0) (x1) (x2) (x3) (x4) (x5) (by omega) (by rw [picksD_snoc hp, hx]; exact pick1_none (p := (5, b)) (m := m5) rfl hg) l0 l1 l2 l3 l4 l5) [0, 1, 2, 3, 4, 5, 6, 7, 8, 9, 10, 11, 12, 13, 14] _ (show ps.length - j = ps.length - (j + 1) + 1 by omega) ⟨⟨rfl, rfl, rfl, rfl, congrArg i64 (wincP (by omega)), True.intro⟩, ⟨.inl rfl, .inl rfl, .inl rfl, oS rfl, oS rfl, oS rfl, oS rfl, oS rfl, oS rfl, oM rfl, oM rfl, oM rfl, oM rfl, oM rfl, oM rfl, True.intro⟩, rfl, rfl, rfl⟩
    · rw [if_neg hin] at hm
      refine callW (cs := [bo false, i64 (sec : Nat), .slc 1 0 6 1, .slc 2 0 6 1]) (rest := [i64 a, i64 b]) hm rfl rfl rfl ?_
      exact hK (Cr6.mk (j + 1) (x0) (x1) (x2) (x3) (x4) (x5) (by omega) (by rw [picksD_snoc hp, hx]; exact pick1_no (p := (a, b)) hin) l0 l1 l2 l3 l4 l5) [0, 1, 2, 3, 4, 5, 6, 7, 8, 9, 10, 11, 12, 13, 14] _ (show ps.length - j = ps.length - (j + 1) + 1 by omega) ⟨⟨rfl, rfl, rfl, rfl, congrArg i64 (wincP (by omega)), True.intro⟩, ⟨.inl rfl, .inl rfl, .inl rfl, oS rfl, oS rfl, oS rfl, oS rfl, oS rfl, oS rfl, oM rfl, oM rfl, oM rfl, oM rfl, oM rfl, oM rfl, True.intro⟩, rfl, rfl, rfl⟩
  · have hfin : picksD sec [m0, m1, m2, m3, m4, m5] [d0, d1, d2, d3, d4, d5] ps = [x0, x1, x2, x3, x4, x5] := by
      have : ¬ (j : Int) < (ps.length : Int) := g
      rw [List.take_of_length_le (by omega)] at hx
      exact hx
    rw [hfin]
    clear hK hx hfin
    refine loopI (α := Fin 7) (fun z => [(0, .ptr 0 0), (63, .slc 2 0 6 1), (64, i64 (6 : Nat)), (65, i64 (z.val : Nat))]) (fun z => (Wd.mk false sec [x0, x1, x2, x3, x4, x5] (clr6 z.val [m0, m1, m2, m3, m4, m5])).H) (fun z => 6 - z.val) 0 [0, 1, 2, 3, 4, 5, 6, 7, 8, 9, 10, 11, 12, 13, 14] ⟨⟨rfl, rfl, rfl, rfl, True.intro⟩, ⟨.inl rfl, .inl rfl, .inl rfl, oS rfl, oS rfl, oS rfl, oS rfl, oS rfl, oS rfl, oM rfl, oM rfl, oM rfl, oM rfl, oM rfl, oM rfl, True.intro⟩, rfl, rfl, rfl⟩ ?_
    rintro ⟨j, hj⟩ K2 hK
    dsimp only at hj ⊢
    match j, hj with
    | 0, _ =>
      refine Ob.intro (show (0 : Int) ≤ ((0 : Nat) : Int) ∧ ((0 : Nat) : Int) < ((6 : Nat) : Int) by omega) ?_
      exact hK ⟨1, by omega⟩ [0, 1, 2, 3, 4, 5, 6, 7, 8, 9, 10, 11, 12, 13, 14] _ rfl ⟨⟨rfl, rfl, rfl, congrArg i64 (wincP (n := 0) (by omega)), True.intro⟩, ⟨.inl rfl, .inl rfl, .inl rfl, oS rfl, oS rfl, oS rfl, oS rfl, oS rfl, oS rfl, oM rfl, oM rfl, oM rfl, oM rfl, oM rfl, oM rfl, True.intro⟩, rfl, rfl, rfl⟩
    | 1, _ =>
      refine Ob.intro (show (0 : Int) ≤ ((1 : Nat) : Int) ∧ ((1 : Nat) : Int) < ((6 : Nat) : Int) by omega) ?_
      exact hK ⟨2, by omega⟩ [0, 1, 2, 3, 4, 5, 6, 7, 8, 9, 10, 11, 12, 13, 14] _ rfl ⟨⟨rfl, rfl, rfl, congrArg i64 (wincP (n := 1) (by omega)), True.intro⟩, ⟨.inl rfl, .inl rfl, .inl rfl, oS rfl, oS rfl, oS rfl, oS rfl, oS rfl, oS rfl, oM rfl, oM rfl, oM rfl, oM rfl, oM rfl, oM rfl, True.intro⟩, rfl, rfl, rfl⟩
    | 2, _ =>
      refine Ob.intro (show (0 : Int) ≤ ((2 : Nat) : Int) ∧ ((2 : Nat) : Int) < ((6 : Nat) : Int) by omega) ?_
      exact hK ⟨3, by omega⟩ [0, 1, 2, 3, 4, 5, 6, 7, 8, 9, 10, 11, 12, 13, 14] _ rfl ⟨⟨rfl, rfl, rfl, congrArg i64 (wincP (n := 2) (by omega)), True.intro⟩, ⟨.inl rfl, .inl rfl, .inl rfl, oS rfl, oS rfl, oS rfl, oS rfl, oS rfl, oS rfl, oM rfl, oM rfl, oM rfl, oM rfl, oM rfl, oM rfl, True.intro⟩, rfl, rfl, rfl⟩
    | 3, _ =>
      refine Ob.intro (show (0 : Int) ≤ ((3 : Nat) : Int) ∧ ((3 : Nat) : Int) < ((6 : Nat) : Int) by omega) ?_
      exact hK ⟨4, by omega⟩ [0, 1, 2, 3, 4, 5, 6, 7, 8, 9, 10, 11, 12, 13, 14] _ rfl ⟨⟨rfl, rfl, rfl, congrArg i64 (wincP (n := 3) (by omega)), True.intro⟩, ⟨.inl rfl, .inl rfl, .inl rfl, oS rfl, oS rfl, oS rfl, oS rfl, oS rfl, oS rfl, oM rfl, oM rfl, oM rfl, oM rfl, oM rfl, oM rfl, True.intro⟩, rfl, rfl, rfl⟩
    | 4, _ =>
      refine Ob.intro (show (0 : Int) ≤ ((4 : Nat) : Int) ∧ ((4 : Nat) : Int) < ((6 : Nat) : Int) by omega) ?_
      exact hK ⟨5, by omega⟩ [0, 1, 2, 3, 4, 5, 6, 7, 8, 9, 10, 11, 12, 13, 14] _ rfl ⟨⟨rfl, rfl, rfl, congrArg i64 (wincP (n := 4) (by omega)), True.intro⟩, ⟨.inl rfl, .inl rfl, .inl rfl, oS rfl, oS rfl, oS rfl, oS rfl, oS rfl, oS rfl, oM rfl, oM rfl, oM rfl, oM rfl, oM rfl, oM rfl, True.intro⟩, rfl, rfl, rfl⟩
    | 5, _ =>
      refine Ob.intro (show (0 : Int) ≤ ((5 : Nat) : Int) ∧ ((5 : Nat) : Int) < ((6 : Nat) : Int) by omega) ?_
      exact hK ⟨6, by omega⟩ [0, 1, 2, 3, 4, 5, 6, 7, 8, 9, 10, 11, 12, 13, 14] _ rfl ⟨⟨rfl, rfl, rfl, congrArg i64 (wincP (n := 5) (by omega)), True.intro⟩, ⟨.inl rfl, .inl rfl, .inl rfl, oS rfl, oS rfl, oS rfl, oS rfl, oS rfl, oS rfl, oM rfl, oM rfl, oM rfl, oM rfl, oM rfl, oM rfl, True.intro⟩, rfl, rfl, rfl⟩
    | 6, _ =>
      exact endH rfl rfl rfl ⟨.inl rfl, .inl rfl, .inl rfl, .inl rfl, .inl rfl, .inl rfl, .inl rfl, .inl rfl, .inl rfl, .inl rfl, .inl rfl, .inl rfl, .inl rfl, .inl rfl, .inl rfl, True.intro⟩ (Nat.le_refl 15) (Wd.below _) rfl
    | k + 7, hj => exact absurd hj (by omega)
structure Cr7 (sec : Nat) (M : List Mp) (D : List (List ByteArray)) (ps : List (Int × Int)) where
  j : Nat
  x0 : List ByteArray
  x1 : List ByteArray
  x2 : List ByteArray
  x3 : List ByteArray
  x4 : List ByteArray
  x5 : List ByteArray
  x6 : List ByteArray
  hj : j ≤ ps.length
  hx : picksD sec M D (ps.take j) = [x0, x1, x2, x3, x4, x5, x6]
  l0 : x0.length = sec
  l1 : x1.length = sec
  l2 : x2.length = sec
  l3 : x3.length = sec
  l4 : x4.length = sec
  l5 : x5.length = sec
  l6 : x6.length = sec
def clr7 (j : Nat) (M : List Mp) : List Mp := (M.take j).map Mp.clr ++ M.drop j
set_option maxHeartbeats 4000000 in
theorem crash_7 (sec : Nat) (D : List (List ByteArray)) (M : List Mp) (ps : List (Int × Int)) (hD : D.length = 7) (hM : M.length = 7) (hps : ps.length ≤ 100000) (hl : ∀ d ∈ D, d.length = sec) :
    ACalls Tryd.prog 21 [.ptr 0 0, .view ps.length (flat pkC ps)] (Wd.mk false sec D M).H (RetH (i64 0) (Wd.mk true sec (picksD sec M D ps) (M.map Mp.clr)).H) := by
  match D, hD, M, hM with
  | [d0, d1, d2, d3, d4, d5, d6], _, [m0, m1, m2, m3, m4, m5, m6], _ =>
  refine acalls_of_awp hT mixed Tryd.func21 rfl (by kernel_rfl) (by kernel_rfl) (Nat.le_of_ble_eq_true rfl) ?_
  refine loopI (α := Cr7 sec [m0, m1, m2, m3, m4, m5, m6] [d0, d1, d2, d3, d4, d5, d6] ps) (fun z => [(0, .ptr 0 0), (1, .view ps.length (flat pkC ps)), (19, .view ps.length (flat pkC ps)), (20, i64 (ps.length : Nat)), (21, i64 (z.j : Nat))]) (fun z => (Wd.mk false sec [z.x0, z.x1, z.x2, z.x3, z.x4, z.x5, z.x6] [m0, m1, m2, m3, m4, m5, m6]).H) (fun z => ps.length - z.j) (Cr7.mk 0 d0 d1 d2 d3 d4 d5 d6 (Nat.zero_le _) rfl (hl d0 (by simp)) (hl d1 (by simp)) (hl d2 (by simp)) (hl d3 (by simp)) (hl d4 (by simp)) (hl d5 (by simp)) (hl d6 (by simp))) [0, 1, 2, 3, 4, 5, 6, 7, 8, 9, 10, 11, 12, 13, 14, 15, 16] ⟨⟨rfl, rfl, rfl, rfl, rfl, True.intro⟩, ⟨.inl rfl, .inl rfl, .inl rfl, oS rfl, oS rfl, oS rfl, oS rfl, oS rfl, oS rfl, oS rfl, oM rfl, oM rfl, oM rfl, oM rfl, oM rfl, oM rfl, oM rfl, True.intro⟩, rfl, rfl, rfl⟩ ?_
  rintro ⟨j, x0, x1, x2, x3, x4, x5, x6, hj, hx, l0, l1, l2, l3, l4, l5, l6⟩ K hK
  dsimp only at hj hx l0 l1 l2 l3 l4 l5 l6 ⊢
  refine forkD (fun g => ?_) (fun g => ?_)
  · have g' : j < ps.length := by have : (j : Int) < (ps.length : Int) := g; omega
    obtain ⟨⟨a, b⟩, hp⟩ : ∃ p, ps[j]? = some p := ⟨_, List.getElem?_eq_getElem g'⟩
    have hm := may_ok false (sec : Nat) 7 a b
    refine Ob.intro (show (0 : Int) ≤ (j : Nat) ∧ ((j : Nat) : Int) < (ps.length : Nat) by omega) ?_
    refine optK_intro (flat_takeN (f := pkC) (n := 2) (fun _ => rfl) hp) ?_
    by_cases hin : inS sec 7 a b
    · rw [if_pos hin] at hm
      have hin0 := hin
      obtain ⟨⟨h1, h2⟩, h3, h4⟩ := hin
      have he : a = 0 ∨ a = 1 ∨ a = 2 ∨ a = 3 ∨ a = 4 ∨ a = 5 ∨ a = 6 := by omega
      rcases he with rfl | rfl | rfl | rfl | rfl | rfl | rfl
      · refine callW (cs := [bo false, i64 (sec : Nat), .slc 1 0 7 1, .slc 2 0 7 1]) (rest := [i64 0, i64 b]) hm rfl rfl rfl ?_
        refine ⟨dlXn2a, dlXn2b, dlXn2c, dlXn2d, dlXn2e, Ob.intro (by kernel_rfl) ?_⟩
        repeat first | refine same ?_ | refine Ob.intro (show (0 : Int) ≤ 0 ∧ (0 : Int) < ((7 : Nat) : Int) from ⟨by omega, by omega⟩) ?_
        cases hg : getE m0.L b with
        | some s =>
          repeat first | refine same ?_ | refine Ob.intro (show (0 : Int) ≤ 0 ∧ (0 : Int) < ((7 : Nat) : Int) from ⟨by omega, by omega⟩) ?_ | refine optK_intro (lookR_some hg) ?_
          refine ⟨dlXn1a, dlXn1b, dlXn1c, dlXn1d, dlXn1e, Ob.intro (by kernel_rfl) ?_⟩
          repeat first | refine same ?_ | refine Ob.intro (show (0 : Int) ≤ 0 ∧ (0 : Int) < ((7 : Nat) : Int) from ⟨by omega, by omega⟩) ?_ | refine Ob.intro (show (0 : Int) ≤ b ∧ (b : Int) < ((sec : Nat) : Int) from ⟨h3, h4⟩) ?_
          refine wr_str (R := x0) (k := b.toNat) rfl rfl (by omega) (by omega) ?_
          exact hK (Cr7.mk (j + 1) (x0.set b.toNat s) (x1) (x2) (x3) (x4) (x5) (x6) (by omega) (by rw [picksD_snoc hp, hx]; exact pick1_some (p := (0, b)) (m := m0) hin0 rfl hg) (by rw [List.length_set]; exact l0) l1 l2 l3 l4 l5 l6) [0, 1, 2, 3, 4, 5, 6, 7, 8, 9, 10, 11, 12, 13, 14, 15, 16] _ (show ps.length - j = ps.length - (j + 1) + 1 by omega) ⟨⟨rfl, rfl, rfl, rfl, congrArg i64 (wincP (by omega)), True.intro⟩, ⟨.inl rfl, .inl rfl, .inl rfl, oS rfl, oS rfl, oS rfl, oS rfl, oS rfl, oS rfl, oS rfl, oM rfl, oM rfl, oM rfl, oM rfl, oM rfl, oM rfl, oM rfl, True.intro⟩, rfl, rfl, rfl⟩
        | none =>
          repeat first | refine same ?_ | refine Ob.intro (show (0 : Int) ≤ 0 ∧ (0 : Int) < ((7 : Nat) : Int) from ⟨by omega, by omega⟩) ?_ | refine optK_intro (lookR_none hg) ?_
          exact hK (Cr7.mk (j + 1) (x0) (x1) (x2) (x3) (x4) (x5) (x6) (by omega) (by rw [picksD_snoc hp, hx]; exact pick1_none (p := (0, b)) (m := m0) rfl hg) l0 l1 l2 l3 l4 l5 l6) [0, 1, 2, 3, 4, 5, 6, 7, 8, 9, 10, 11, 12, 13, 14, 15, 16] _ (show ps.length - j = ps.length - (j + 1) + 1 by omega) ⟨⟨rfl, rfl, rfl, rfl, congrArg i64 (wincP (by omega)), True.intro⟩, ⟨.inl rfl, .inl rfl, .inl rfl, oS rfl, oS rfl, oS rfl, oS rfl, oS rfl, oS rfl, oS rfl, oM rfl, oM rfl, oM rfl, oM rfl, oM rfl, oM rfl, oM rfl, True.intro⟩, rfl, rfl, rfl⟩
      · refine callW (cs := [bo false, i64 (sec : Nat), .slc 1 0 7 1, .slc 2 0 7 1]) (rest := [i64 1, i64 b]) hm rfl rfl rfl ?_
        refine ⟨dlXn2a, dlXn2b, dlXn2c, dlXn2d, dlXn2e, Ob.intro (by kernel_rfl) ?_⟩
        repeat first | refine same ?_ | refine Ob.intro (show (0 : Int) ≤ 1 ∧ (1 : Int) < ((7 : Nat) : Int) from ⟨by omega, by omega⟩) ?_
        cases hg : getE m1.L b with
        | some s =>
          repeat first | refine same ?_ | refine Ob.intro (show (0 : Int) ≤ 1 ∧ (1 : Int) < ((7 : Nat) : Int) from ⟨by omega, by omega⟩) ?_ | refine optK_intro (lookR_some hg) ?_
          refine ⟨dlXn1a, dlXn1b, dlXn1c, dlXn1d, dlXn1e, Ob.intro (by kernel_rfl) ?_⟩
          repeat first | refine same ?_ | refine Ob.intro (show (0 : Int) ≤ 1 ∧ (1 : Int) < ((7 : Nat) : Int) from ⟨by omega, by omega⟩) ?_ | refine Ob.intro (show (0 : Int) ≤ b ∧ (b : Int) < ((sec : Nat) : Int) from ⟨h3, h4⟩) ?_
          refine wr_str (R := x1) (k := b.toNat) rfl rfl (by omega) (by omega) ?_
          exact hK (Cr7.mk (j + 1) (x0) (x1.set b.toNat s) (x2) (x3) (x4) (x5) (x6) (by omega) (by rw [picksD_snoc hp, hx]; exact pick1_some (p := (1, b)) (m := m1) hin0 rfl hg) l0 (by rw [List.length_set]; exact l1) l2 l3 l4 l5 l6) [0, 1, 2, 3, 4, 5, 6, 7, 8, 9, 10, 11, 12, 13, 14, 15, 16] _ (show ps.length - j = ps.length - (j + 1) + 1 by omega) ⟨⟨rfl, rfl, rfl, rfl, congrArg i64 (wincP (by omega)), True.intro⟩, ⟨.inl rfl, .inl rfl, .inl rfl, oS rfl, oS rfl, oS rfl, oS rfl, oS rfl, oS rfl, oS rfl, oM rfl, oM rfl, oM rfl, oM rfl, oM rfl, oM rfl, oM rfl, True.intro⟩, rfl, rfl, rfl⟩
        | none =>
          repeat first | refine same ?_ | refine Ob.intro (show (0 : Int) ≤ 1 ∧ (1 : Int) < ((7 : Nat) : Int) from ⟨by omega, by omega⟩) ?_ | refine optK_intro (lookR_none hg) ?_
          exact hK (Cr7.mk (j + 1) (x0) (x1) (x2) (x3) (x4) (x5) (x6) (by omega) (by rw [picksD_snoc hp, hx]; exact pick1_none (p := (1, b)) (m := m1) rfl hg) l0 l1 l2 l3 l4 l5 l6) [0, 1, 2, 3, 4, 5, 6, 7, 8, 9, 10, 11, 12, 13, 14, 15, 16] _ (show ps.length - j = ps.length - (j + 1) + 1 by omega) ⟨⟨rfl, rfl, rfl, rfl, congrArg i64 (wincP (by omega)), True.intro⟩, ⟨.inl rfl, .inl rfl, .inl rfl, oS rfl, oS rfl, oS rfl, oS rfl, oS rfl, oS rfl, oS rfl, oM rfl, oM rfl, oM rfl, oM rfl, oM rfl, oM rfl, oM rfl, True.intro⟩, rfl, rfl, rfl⟩
      · refine callW (cs := [bo false, i64 (sec : Nat), .slc 1 0 7 1, .slc 2 0 7 1]) (rest := [i64 2, i64 b]) hm rfl rfl rfl ?_
        refine ⟨dlXn2a, dlXn2b, dlXn2c, dlXn2d, dlXn2e, Ob.intro (by kernel_rfl) ?_⟩
        repeat first | refine same ?_ | refine Ob.intro (show (0 : Int) ≤ 2 ∧ (2 : Int) < ((7 : Nat) : Int) from ⟨by omega, by omega⟩) ?_
        cases hg : getE m2.L b with
        | some s =>
          repeat first | refine same ?_ | refine Ob.intro (show (0 : Int) ≤ 2 ∧ (2 : Int) < ((7 : Nat) : Int) from ⟨by omega, by omega⟩) ?_ | refine optK_intro (lookR_some hg) ?_
          refine ⟨dlXn1a, dlXn1b, dlXn1c, dlXn1d, dlXn1e, Ob.intro (by kernel_rfl) ?_⟩
          repeat first | refine same ?_ | refine Ob.intro (show (0 : Int) ≤ 2 ∧ (2 : Int) < ((7 : Nat) : Int) from ⟨by omega, by omega⟩) ?_ | refine Ob.intro (show (0 : Int) ≤ b ∧ (b : Int) < ((sec : Nat) : Int) from ⟨h3, h4⟩) ?_
          refine wr_str (R := x2) (k := b.toNat) rfl rfl (by omega) (by omega) ?_
          exact hK (Cr7.mk (j + 1) (x0) (x1) (x2.set b.toNat s) (x3) (x4) (x5) (x6) (by omega) (by rw [picksD_snoc hp, hx]; exact pick1_some (p := (2, b)) (m := m2) hin0 rfl hg) l0 l1 (by rw [List.length_set]; exact l2) l3 l4 l5 l6) [0, 1, 2, 3, 4, 5, 6, 7, 8, 9, 10, 11, 12, 13, 14, 15, 16] _ (show ps.length - j = ps.length - (j + 1) + 1 by omega) ⟨⟨rfl, rfl, rfl, rfl, congrArg i64 (wincP (by omega)), True.intro⟩, ⟨.inl rfl, .inl rfl, .inl rfl, oS rfl, oS rfl, oS rfl, oS rfl, oS rfl, oS rfl, oS rfl, oM rfl, oM rfl, oM rfl, oM rfl, oM rfl, oM rfl, oM rfl, True.intro⟩, rfl, rfl, rfl⟩
        | none =>
          repeat first | refine same ?_ | refine Ob.intro (show (0 : Int) ≤ 2 ∧ (2 : Int) < ((7 : Nat) : Int) from ⟨by omega, by omega⟩) ?_ | refine optK_intro (lookR_none hg) ?_
          exact hK (Cr7.mk (j + 1) (x0) (x1) (x2) (x3) (x4) (x5) (x6) (by omega) (by rw [picksD_snoc hp, hx]; exact pick1_none (p := (2, b)) (m := m2) rfl hg) l0 l1 l2 l3 l4 l5 l6) [0, 1, 2, 3, 4, 5, 6, 7, 8, 9, 10, 11, 12, 13, 14, 15, 16] _ (show ps.length - j = ps.length - (j + 1) + 1 by omega) ⟨⟨rfl, rfl, rfl, rfl, congrArg i64 (wincP (by omega)), True.intro⟩, ⟨.inl rfl, .inl rfl, .inl rfl, oS rfl, oS rfl, oS rfl, oS rfl, oS rfl, oS rfl, oS rfl, oM rfl, oM rfl, oM rfl, oM rfl, oM rfl, oM rfl, oM rfl, True.intro⟩, rfl, rfl, rfl⟩
      · refine callW (cs := [bo false, i64 (sec : Nat), .slc 1 0 7 1, .slc 2 0 7 1]) (rest := [i64 3, i64 b]) hm rfl rfl rfl ?_
        refine ⟨dlXn2a, dlXn2b, dlXn2c, dlXn2d, dlXn2e, Ob.intro (by kernel_rfl) ?_⟩
        repeat first | refine same ?_ | refine Ob.intro (show (0 : Int) ≤ 3 ∧ (3 : Int) < ((7 : Nat) : Int) from ⟨by omega, by omega⟩) ?_
        cases hg : getE m3.L b with
        | some s =>
          repeat first | refine same ?_ | refine Ob.intro (show (0 : Int) ≤ 3 ∧ (3 : Int) < ((7 : Nat) : Int) from ⟨by omega, by omega⟩) ?_ | refine optK_intro (lookR_some hg) ?_
          refine ⟨dlXn1a, dlXn1b, dlXn1c, dlXn1d, dlXn1e, Ob.intro (by kernel_rfl) ?_⟩
          repeat first | refine same ?_ | refine Ob.intro (show (0 : Int) ≤ 3 ∧ (3 : Int) < ((7 : Nat) : Int) from ⟨by omega, by omega⟩) ?_ | refine Ob.intro (show (0 : Int) ≤ b ∧ (b : Int) < ((sec : Nat) : Int) from ⟨h3, h4⟩) ?_
          refine wr_str (R := x3) (k := b.toNat) rfl rfl (by omega) (by omega) ?_
          exact hK (Cr7.mk (j + 1) (x0) (x1) (x2) (x3.set b.toNat s) (x4) (x5) (x6) (by omega) (by rw [picksD_snoc hp, hx]; exact pick1_some (p := (3, b)) (m := m3) hin0 rfl hg) l0 l1 l2 (by rw [List.length_set]; exact l3) l4 l5 l6) [0, 1, 2, 3, 4, 5, 6, 7, 8, 9, 10, 11, 12, 13, 14, 15, 16] _ (show ps.length - j = ps.length - (j + 1) + 1 by omega) ⟨⟨rfl, rfl, rfl, rfl, congrArg i64 (wincP (by omega)), True.intro⟩, ⟨.inl rfl, .inl rfl, .inl rfl, oS rfl, oS rfl, oS rfl, oS rfl, oS rfl, oS rfl, oS rfl, oM rfl, oM rfl, oM rfl, oM rfl, oM rfl, oM rfl, oM rfl, True.intro⟩, rfl, rfl, rfl⟩
        | none =>
          repeat first | refine same ?_ | refine Ob.intro (show (0 : Int) ≤ 3 ∧ (3 : Int) < ((7 : Nat) : Int) from ⟨by omega, by omega⟩) ?_ | refine optK_intro (lookR_none hg) ?_
          exact hK (Cr7.mk (j + 1) (x0) (x1) (x2) (x3) (x4) (x5) (x6) (by omega) (by rw [picksD_snoc hp, hx]; exact pick1_none (p := (3, b)) (m := m3) rfl hg) l0 l1 l2 l3 l4 l5 l6) [0, 1, 2, 3, 4, 5, 6, 7, 8, 9, 10, 11, 12, 13, 14, 15, 16] _ (show ps.length - j = ps.length - (j + 1) + 1 by omega) ⟨⟨rfl, rfl, rfl, rfl, congrArg i64 (wincP (by omega)), True.intro⟩, ⟨.inl rfl, .inl rfl, .inl rfl, oS rfl, oS rfl, oS rfl, oS rfl, oS rfl, oS rfl, oS rfl, oM rfl, oM rfl, oM rfl, oM rfl, oM rfl, oM rfl, oM rfl, True.intro⟩, rfl, rfl, rfl⟩
      · refine callW (cs := [bo false, i64 (sec : Nat), .slc 1 0 7 1, .slc 2 0 7 1]) (rest := [i64 4, i64 b]) hm rfl rfl rfl ?_
        refine ⟨dlXn2a, dlXn2b, dlXn2c, dlXn2d, dlXn2e, Ob.intro (by kernel_rfl) ?_⟩
        repeat first | refine same ?_ | refine Ob.intro (show (0 : Int) ≤ 4 ∧ (4 : Int) < ((7 : Nat) : Int) from ⟨by omega, by omega⟩) ?_
        cases hg : getE m4.L b with
        | some s =>
          repeat first | refine same ?_ | refine Ob.intro (show (0 : Int) ≤ 4 ∧ (4 : Int) < ((7 : Nat) : Int) from ⟨by omega, by omega⟩) ?_ | refine optK_intro (lookR_some hg) ?_
          refine ⟨dlXn1a, dlXn1b, dlXn1c, dlXn1d, dlXn1e, Ob.intro (by kernel_rfl) ?_⟩
          repeat first | refine same ?_ | refine Ob.intro (show (0 : Int) ≤ 4 ∧ (4 : Int) < ((7 : Nat) : Int) from ⟨by omega, by omega⟩) ?_ | refine Ob.intro (show (0 : Int) ≤ b ∧ (b : Int) < ((sec : Nat) : Int) from ⟨h3, h4⟩) ?_
          refine wr_str (R := x4) (k := b.toNat) rfl rfl (by omega) (by omega) ?_
          exact hK (Cr7.mk (j + 1) (x0) (x1) (x2) (x3) (x4.set b.toNat s) (x5) (x6) (by omega) (by rw [picksD_snoc hp, hx]; exact pick1_some (p := (4, b)) (m := m4) hin0 rfl hg) l0 l1 l2 l3 (by rw [List.length_set]; exact l4) l5 l6) [0, 1, 2, 3, 4, 5, 6, 7, 8, 9, 10, 11, 12, 13, 14, 15, 16] _ (show ps.length - j = ps.length - (j + 1) + 1 by omega) ⟨⟨rfl, rfl, rfl, rfl, congrArg i64 (wincP (by omega)), True.intro⟩, ⟨.inl rfl, .inl rfl, .inl rfl, oS rfl, oS rfl, oS rfl, oS rfl, oS rfl, oS rfl, oS rfl, oM rfl, oM rfl, oM rfl, oM rfl, oM rfl, oM rfl, oM rfl, True.intro⟩, rfl, rfl, rfl⟩
        | none =>
          repeat first | refine same ?_ | refine Ob.intro (show (0 : Int) ≤ 4 ∧ (4 : Int) < ((7 : Nat) : Int) from ⟨by omega, by omega⟩) ?_ | refine optK_intro (lookR_none hg) ?_
          exact hK (Cr7.mk (j + 1) (x0) (x1) (x2) (x3) (x4) (x5) (x6) (by omega) (by rw [picksD_snoc hp, hx]; exact pick1_none (p := (4, b)) (m := m4) rfl hg) l0 l1 l2 l3 l4 l5 l6) [0, 1, 2, 3, 4, 5, 6, 7, 8, 9, 10, 11, 12, 13, 14, 15, 16] _ (show ps.length - j = ps.length - (j + 1) + 1 by omega) ⟨⟨rfl, rfl, rfl, rfl, congrArg i64 (wincP (by omega)), True.intro⟩, ⟨.inl rfl, .inl rfl, .inl rfl, oS rfl, oS rfl, oS rfl, oS rfl, oS rfl, oS rfl, oS rfl, oM rfl, oM rfl, oM rfl, oM rfl, oM rfl, oM rfl, oM rfl, True.intro⟩, rfl, rfl, rfl⟩
      · refine callW (cs := [bo false, i64 (sec : Nat), .slc 1 0 7 1, .slc 2 0 7 1]) (rest := [i64 5, i64 b]) hm rfl rfl rfl ?_
        refine ⟨dlXn2a, dlXn2b, dlXn2c, dlXn2d, dlXn2e, Ob.intro (by kernel_rfl) ?_⟩
        repeat first | refine same ?_ | refine Ob.intro (show (0 : Int) ≤ 5 ∧ (5 : Int) < ((7 : Nat) : Int) from ⟨by omega, by omega⟩) ?_
        cases hg : getE m5.L b with
        | some s =>
          repeat first | refine same ?_ | refine Ob.intro (show (0 : Int) ≤ 5 ∧ (5 : Int) < ((7 : Nat) : Int) from ⟨by omega, by omega⟩) ?_ | refine optK_intro (lookR_some hg) ?_
          refine ⟨dlXn1a, dlXn1b, dlXn1c, dlXn1d, dlXn1e, Ob.intro (by kernel_rfl) ?_⟩
          repeat first | refine same ?_ | refine Ob.intro (show (0 : Int) ≤ 5 ∧ (5 : Int) < ((7 : Nat) : Int) from ⟨by omega, by omega⟩) ?_ | refine Ob.intro (show (0 : Int) ≤ b ∧ (b : Int) < ((sec : Nat) : Int) from ⟨h3, h4⟩) ?_
          refine wr_str (R := x5) (k := b.toNat) rfl rfl (by omega) (by omega) ?_
          exact hK (Cr7.mk (j + 1) (x0) (x1) (x2) (x3) (x4) (x5.set b.toNat s) (x6) (by omega) (by rw [picksD_snoc hp, hx]; exact pick1_some (p := (5, b)) (m := m5) hin0 rfl hg) l0 l1 l2 l3 l4 (by rw [List.length_set]; exact l5) l6) [0, 1, 2, 3, 4, 5, 6, 7, 8, 9, 10, 11, 12, 13, 14, 15, 16] _ (show ps.length - j = ps.length - (j + 1) + 1 by omega) ⟨⟨rfl, rfl, rfl, rfl, congrArg i64 (wincP (by omega)), True.intro⟩, ⟨.inl rfl, .inl rfl, .inl rfl, oS rfl, oS rfl, oS rfl, oS rfl, oS rfl, oS rfl, oS rfl, oM rfl, oM rfl, oM rfl, oM rfl, oM rfl, oM rfl, oM rfl, True.intro⟩, rfl, rfl, rfl⟩
        | none =>
          repeat first | refine same ?_ | refine Ob.intro (show (0 : Int) ≤ 5 ∧ (5 : Int) < ((7 : Nat) : Int) from ⟨by omega, by omega⟩) ?_ | refine optK_intro (lookR_none hg) ?_
          exact hK (Cr7.mk (j + 1) (x0) (x1) (x2) (x3) (x4) (x5) (x6) (by omega) (by rw [picksD_snoc hp, hx]; exact pick1_none (p := (5, b)) (m := m5) rfl hg) l0 l1 l2 l3 l4 l5 l6) [0, 1, 2, 3, 4, 5, 6, 7, 8, 9, 10, 11, 12, 13, 14, 15, 16] _ (show ps.length - j = ps.length - (j + 1) + 1 by omega) ⟨⟨rfl, rfl, rfl, rfl, congrArg i64 (wincP (by omega)), True.intro⟩, ⟨.inl rfl, .inl rfl, .inl rfl, oS rfl, oS rfl, oS rfl, oS rfl, oS rfl, oS rfl, oS rfl, oM rfl, oM rfl, oM rfl, oM rfl, oM rfl, oM rfl, oM rfl, True.intro⟩, rfl, rfl, rfl⟩
      · refine callW (cs := [bo false, i64 (sec : Nat), .slc 1 0 7 1, .slc 2 0 7 1]) (rest := [i64 6, i64 b]) hm rfl rfl rfl ?_
        refine ⟨dlXn2a, dlXn2b, dlXn2c, dlXn2d, dlXn2e, Ob.intro (by kernel_rfl) ?_⟩
        repeat first | refine same ?_ | refine Ob.intro (show (0 : Int) ≤ 6 ∧ (6 : Int) < ((7 : Nat) : Int) from ⟨by omega, by omega⟩) ?_
        cases hg : getE m6.L b with
        | some s =>
          repeat first | refine same ?_ | refine Ob.intro (show (0 : Int) ≤ 6 ∧ (6 : Int) < ((7 : Nat) : Int) from ⟨by omega, by omega⟩) ?_ | refine optK_intro (lookR_some hg) ?_
          refine ⟨dlXn1a, dlXn1b, dlXn1c, dlXn1d, dlXn1e, Ob.intro (by kernel_rfl) ?_⟩
          repeat first | refine same ?_ | refine Ob.intro (show (0 : Int) ≤ 6 ∧ (6 : Int) < ((7 : Nat) : Int) from ⟨by omega, by omega⟩) ?_ | refine Ob.intro (show (0 : Int) ≤ b ∧ (b : Int) < ((sec : Nat) : Int) from ⟨h3, h4⟩) ?_
          refine wr_str (R := x6) (k := b.toNat) rfl rfl (by omega) (by omega) ?_
          exact hK (Cr7.mk (j + 1) (x0) (x1) (x2) (x3) (x4) (x5) (x6.set b.toNat s) (by omega) (by rw [picksD_snoc hp, hx]; exact pick1_some (p := (6, b)) (m := m6) hin0 rfl hg) l0 l1 l2 l3 l4 l5 (by rw [List.length_set]; exact l6)) [0, 1, 2, 3, 4, 5, 6, 7, 8, 9, 10, 11, 12, 13, 14, 15, 16] _ (show ps.length - j = ps.length - (j + 1) + 1 by omega) ⟨⟨rfl, rfl, rfl, rfl, congrArg i64 (wincP (by omega)), True.intro⟩, ⟨.inl rfl, .inl rfl, .inl rfl, oS rfl, oS rfl, oS rfl, oS rfl, oS rfl, oS rfl, oS rfl, oM rfl, oM rfl, oM rfl, oM rfl, oM rfl, oM rfl, oM rfl, True.intro⟩, rfl, rfl, rfl⟩
        | none =>
          repeat first | refine same ?_ | refine Ob.intro (show (0 : Int) ≤ 6 ∧ (6 : Int) < ((7 : Nat) : Int) from ⟨by omega, by omega⟩) ?_ | refine optK_intro (lookR_none hg) ?_
          exact hK (Cr7.mk (j + 1) (x0) (x1) (x2) (x3) (x4) (x5) (x6) (by omega) (by rw [picksD_snoc hp, hx]; exact pick1_none (p := (6, b)) (m := m6) rfl hg) l0 l1 l2 l3 l4 l5 l6) [0, 1, 2, 3, 4, 5, 6, 7, 8, 9, 10, 11, 12, 13, 14, 15, 16] _ (show ps.length - j = ps.length - (j + 1) + 1 by omega) ⟨⟨rfl, rfl, rfl, rfl, congrArg i64 (wincP (by omega)), True.intro⟩, ⟨.inl rfl, .inl rfl, .inl rfl, oS rfl, oS rfl, oS rfl, oS rfl, oS rfl, oS rfl, oS rfl, oM rfl, oM rfl, oM rfl, oM rfl, oM rfl, oM rfl, oM rfl, True.intro⟩, rfl, rfl, rfl⟩
    · rw [if_neg hin] at hm
      refine callW (cs := [bo false, i64 (sec : Nat), .slc 1 0 7 1, .slc 2 0 7 1]) (rest := [i64 a, i64 b]) hm rfl rfl rfl ?_
      exact hK (Cr7.mk (j + 1) (x0) (x1) (x2) (x3) (x4) (x5) (x6) (by omega) (by rw [picksD_snoc hp, hx]; exact pick1_no (p := (a, b)) hin) l0 l1 l2 l3 l4 l5 l6) [0, 1, 2, 3, 4, 5, 6, 7, 8, 9, 10, 11, 12, 13, 14, 15, 16] _ (show ps.length - j = ps.length - (j + 1) + 1 by omega) ⟨⟨rfl, rfl, rfl, rfl, congrArg i64 (wincP (by omega)), True.intro⟩, ⟨.inl rfl, .inl rfl, .inl rfl, oS rfl, oS rfl, oS rfl, oS rfl, oS rfl, oS rfl, oS rfl, oM rfl, oM rfl, oM rfl, oM rfl, oM rfl, oM rfl, oM rfl, True.intro⟩, rfl, rfl, rfl⟩
  · have hfin : picksD sec [m0, m1, m2, m3, m4, m5, m6] [d0, d1, d2, d3, d4, d5, d6] ps = [x0, x1, x2, x3, x4, x5, x6] := by
      have : ¬ (j : Int) < (ps.length : Int) := g
      rw [List.take_of_length_le (by omega)] at hx
      exact hx
    rw [hfin]
    clear hK hx hfin
    refine loopI (α := Fin 8) (fun z => [(0, .ptr 0 0), (63, .slc 2 0 7 1), (64, i64 (7 : Nat)), (65, i64 (z.val : Nat))]) (fun z => (Wd.mk false sec [x0, x1, x2, x3, x4, x5, x6] (clr7 z.val [m0, m1, m2, m3, m4, m5, m6])).H) (fun z => 7 - z.val) 0 [0, 1, 2, 3, 4, 5, 6, 7, 8, 9, 10, 11, 12, 13, 14, 15, 16] ⟨⟨rfl, rfl, rfl, rfl, True.intro⟩, ⟨.inl rfl, .inl rfl, .inl rfl, oS rfl, oS rfl, oS rfl, oS rfl, oS rfl, oS rfl, oS rfl, oM rfl, oM rfl, oM rfl, oM rfl, oM rfl, oM rfl, oM rfl, True.intro⟩, rfl, rfl, rfl⟩ ?_
    rintro ⟨j, hj⟩ K2 hK
    dsimp only at hj ⊢
    match j, hj with
    | 0, _ =>
      refine Ob.intro (show (0 : Int) ≤ ((0 : Nat) : Int) ∧ ((0 : Nat) : Int) < ((7 : Nat) : Int) by omega) ?_
      exact hK ⟨1, by omega⟩ [0, 1, 2, 3, 4, 5, 6, 7, 8, 9, 10, 11, 12, 13, 14, 15, 16] _ rfl ⟨⟨rfl, rfl, rfl, congrArg i64 (wincP (n := 0) (by omega)), True.intro⟩, ⟨.inl rfl, .inl rfl, .inl rfl, oS rfl, oS rfl, oS rfl, oS rfl, oS rfl, oS rfl, oS rfl, oM rfl, oM rfl, oM rfl, oM rfl, oM rfl, oM rfl, oM rfl, True.intro⟩, rfl, rfl, rfl⟩
    | 1, _ =>
      refine Ob.intro (show (0 : Int) ≤ ((1 : Nat) : Int) ∧ ((1 : Nat) : Int) < ((7 : Nat) : Int) by omega) ?_
      exact hK ⟨2, by omega⟩ [0, 1, 2, 3, 4, 5, 6, 7, 8, 9, 10, 11, 12, 13, 14, 15, 16] _ rfl ⟨⟨rfl, rfl, rfl, congrArg i64 (wincP (n := 1) (by omega)), True.intro⟩, ⟨.inl rfl, .inl rfl, .inl rfl, oS rfl, oS rfl, oS rfl, oS rfl, oS rfl, oS rfl, oS rfl, oM rfl, oM rfl, oM rfl, oM rfl, oM rfl, oM rfl, oM rfl, True.intro⟩, rfl, rfl, rfl⟩
    | 2, _ =>
      refine Ob.intro (show (0 : Int) ≤ ((2 : Nat) : Int) ∧ ((2 : Nat) : Int) < ((7 : Nat) : Int) by omega) ?_
      exact hK ⟨3, by omega⟩ [0, 1, 2, 3, 4, 5, 6, 7, 8, 9, 10, 11, 12, 13, 14, 15, 16] _ rfl ⟨⟨rfl, rfl, rfl, congrArg i64 (wincP (n := 2) (by omega)), True.intro⟩, ⟨.inl rfl, .inl rfl, .inl rfl, oS rfl, oS rfl, oS rfl, oS rfl, oS rfl, oS rfl, oS rfl, oM rfl, oM rfl, oM rfl, oM rfl, oM rfl, oM rfl, oM rfl, True.intro⟩, rfl, rfl, rfl⟩
    | 3, _ =>
      refine Ob.intro (show (0 : Int) ≤ ((3 : Nat) : Int) ∧ ((3 : Nat) : Int) < ((7 : Nat) : Int) by omega) ?_
      exact hK ⟨4, by omega⟩ [0, 1, 2, 3, 4, 5, 6, 7, 8, 9, 10, 11, 12, 13, 14, 15, 16] _ rfl ⟨⟨rfl, rfl, rfl, congrArg i64 (wincP (n := 3) (by omega)), True.intro⟩, ⟨.inl rfl, .inl rfl, .inl rfl, oS rfl, oS rfl, oS rfl, oS rfl, oS rfl, oS rfl, oS rfl, oM rfl, oM rfl, oM rfl, oM rfl, oM rfl, oM rfl, oM rfl, True.intro⟩, rfl, rfl, rfl⟩
    | 4, _ =>
      refine Ob.intro (show (0 : Int) ≤ ((4 : Nat) : Int) ∧ ((4 : Nat) : Int) < ((7 : Nat) : Int) by omega) ?_
      exact hK ⟨5, by omega⟩ [0, 1, 2, 3, 4, 5, 6, 7, 8, 9, 10, 11, 12, 13, 14, 15, 16] _ rfl ⟨⟨rfl, rfl, rfl, congrArg i64 (wincP (n := 4) (by omega)), True.intro⟩, ⟨.inl rfl, .inl rfl, .inl rfl, oS rfl, oS rfl, oS rfl, oS rfl, oS rfl, oS rfl, oS rfl, oM rfl, oM rfl, oM rfl, oM rfl, oM rfl, oM rfl, oM rfl, True.intro⟩, rfl, rfl, rfl⟩
    | 5, _ =>
      refine Ob.intro (show (0 : Int) ≤ ((5 : Nat) : Int) ∧ ((5 : Nat) : Int) < ((7 : Nat) : Int) by omega) ?_
      exact hK ⟨6, by omega⟩ [0, 1, 2, 3, 4, 5, 6, 7, 8, 9, 10, 11, 12, 13, 14, 15, 16] _ rfl ⟨⟨rfl, rfl, rfl, congrArg i64 (wincP (n := 5) (by omega)), True.intro⟩, ⟨.inl rfl, .inl rfl, .inl rfl, oS rfl, oS rfl, oS rfl, oS rfl, oS rfl, oS rfl, oS rfl, oM rfl, oM rfl, oM rfl, oM rfl, oM rfl, oM rfl, oM rfl, True.intro⟩, rfl, rfl, rfl⟩
    | 6, _ =>
      refine Ob.intro (show (0 : Int) ≤ ((6 : Nat) : Int) ∧ ((6 : Nat) : Int) < ((7 : Nat) : Int) by omega) ?_
      exact hK ⟨7, by omega⟩ [0, 1, 2, 3, 4, 5, 6, 7, 8, 9, 10, 11, 12, 13, 14, 15, 16] _ rfl ⟨⟨rfl, rfl, rfl, congrArg i64 (wincP (n := 6) (by omega)), True.intro⟩, ⟨.inl rfl, .inl rfl, .inl rfl, oS rfl, oS rfl, oS rfl, oS rfl, oS rfl, oS rfl, oS rfl, oM rfl, oM rfl, oM rfl, oM rfl, oM rfl, oM rfl, oM rfl, True.intro⟩, rfl, rfl, rfl⟩
    | 7, _ =>
      exact endH rfl rfl rfl ⟨.inl rfl, .inl rfl, .inl rfl, .inl rfl, .inl rfl, .inl rfl, .inl rfl, .inl rfl, .inl rfl, .inl rfl, .inl rfl, .inl rfl, .inl rfl, .inl rfl, .inl rfl, .inl rfl, .inl rfl, True.intro⟩ (Nat.le_refl 17) (Wd.below _) rfl
    | k + 8, hj => exact absurd hj (by omega)
structure Cr8 (sec : Nat) (M : List Mp) (D : List (List ByteArray)) (ps : List (Int × Int)) where
  j : Nat
  x0 : List ByteArray
  x1 : List ByteArray
  x2 : List ByteArray
  x3 : List ByteArray
  x4 : List ByteArray
  x5 : List ByteArray
  x6 : List ByteArray
  x7 : List ByteArray
  hj : j ≤ ps.length
  hx : picksD sec M D (ps.take j) = [x0, x1, x2, x3, x4, x5, x6, x7]
  l0 : x0.length = sec
  l1 : x1.length = sec
  l2 : x2.length = sec
  l3 : x3.length = sec
  l4 : x4.length = sec
  l5 : x5.length = sec
  l6 : x6.length = sec
  l7 : x7.length = sec
def clr8 (j : Nat) (M : List Mp) : List Mp := (M.take j).map Mp.clr ++ M.drop j
set_option maxHeartbeats 4000000 in
theorem crash_8 (sec : Nat) (D : List (List ByteArray)) (M : List Mp) (ps : List (Int × Int)) (hD : D.length = 8) (hM : M.length = 8) (hps : ps.length ≤ 100000) (hl : ∀ d ∈ D, d.length = sec) :
    ACalls Tryd.prog 21 [.ptr 0 0, .view ps.length (flat pkC ps)] (Wd.mk false sec D M).H (RetH (i64 0) (Wd.mk true sec (picksD sec M D ps) (M.map Mp.clr)).H) := by
  match D, hD, M, hM with
  | [d0, d1, d2, d3, d4, d5, d6, d7], _, [m0, m1, m2, m3, m4, m5, m6, m7], _ =>
  refine acalls_of_awp hT mixed Tryd.func21 rfl (by kernel_rfl) (by kernel_rfl) (Nat.le_of_ble_eq_true rfl) ?_
  refine loopI (α := Cr8 sec [m0, m1, m2, m3, m4, m5, m6, m7] [d0, d1, d2, d3, d4, d5, d6, d7] ps) (fun z => [(0, .ptr 0 0), (1, .view ps.length (flat pkC ps)), (19, .view ps.length (flat pkC ps)), (20, i64 (ps.length : Nat)), (21, i64 (z.j : Nat))]) (fun z => (Wd.mk false sec [z.x0, z.x1, z.x2, z.x3, z.x4, z.x5, z.x6, z.x7] [m0, m1, m2, m3, m4, m5, m6, m7]).H) (fun z => ps.length - z.j) (Cr8.mk 0 d0 d1 d2 d3 d4 d5 d6 d7 (Nat.zero_le _) rfl (hl d0 (by simp)) (hl d1 (by simp)) (hl d2 (by simp)) (hl d3 (by simp)) (hl d4 (by simp)) (hl d5 (by simp)) (hl d6 (by simp)) (hl d7 (by simp))) [0, 1, 2, 3, 4, 5, 6, 7, 8, 9, 10, 11, 12, 13, 14, 15, 16, 17, 18] ⟨⟨rfl, rfl, rfl, rfl, rfl, True.intro⟩, ⟨.inl rfl, .inl rfl, .inl rfl, oS rfl, oS rfl, oS rfl, oS rfl, oS rfl, oS rfl, oS rfl, oS rfl, oM rfl, oM rfl, oM rfl, oM rfl, oM rfl, oM rfl, oM rfl, oM rfl, True.intro⟩, rfl, rfl, rfl⟩ ?_
  rintro ⟨j, x0, x1, x2, x3, x4, x5, x6, x7, hj, hx, l0, l1, l2, l3, l4, l5, l6, l7⟩ K hK
  dsimp only at hj hx l0 l1 l2 l3 l4 l5 l6 l7 ⊢
  refine forkD (fun g => ?_) (fun g => ?_)
  · have g' : j < ps.length := by have : (j : Int) < (ps.length : Int) := g; omega
    obtain ⟨⟨a, b⟩, hp⟩ : ∃ p, ps[j]? = some p := ⟨_, List.getElem?_eq_getElem g'⟩
    have hm := may_ok false (sec : Nat) 8 a b
    refine Ob.intro (show (0 : Int) ≤ (j : Nat) ∧ ((j : Nat) : Int) < (ps.length : Nat) by omega) ?_
    refine optK_intro (flat_takeN (f := pkC) (n := 2) (fun _ => rfl) hp) ?_
    by_cases hin : inS sec 8 a b
    · rw [if_pos hin] at hm
      have hin0 := hin
      obtain ⟨⟨h1, h2⟩, h3, h4⟩ := hin
      have he : a = 0 ∨ a = 1 ∨ a = 2 ∨ a = 3 ∨ a = 4 ∨ a = 5 ∨ a = 6 ∨ a = 7 := by omega
      rcases he with rfl | rfl | rfl | rfl | rfl | rfl | rfl | rfl
      · refine callW (cs := [bo false, i64 (sec : Nat), .slc 1 0 8 1, .slc 2 0 8 1]) (rest := [i64 0, i64 b]) hm rfl rfl rfl ?_
        refine ⟨dlXn2a, dlXn2b, dlXn2c, dlXn2d, dlXn2e, Ob.intro (by kernel_rfl) ?_⟩
        repeat first | refine same ?_ | refine Ob.intro (show (0 : Int) ≤ 0 ∧ (0 : Int) < ((8 : Nat) : Int) from ⟨by omega, by omega⟩) ?_
        cases hg : getE m0.L b with
        | some s =>
          repeat first | refine same ?_ | refine Ob.intro (show (0 : Int) ≤ 0 ∧ (0 : Int) < ((8 : Nat) : Int) from ⟨by omega, by omega⟩) ?_ | refine optK_intro (lookR_some hg) ?_
          refine ⟨dlXn1a, dlXn1b, dlXn1c, dlXn1d, dlXn1e, Ob.intro (by kernel_rfl) ?_⟩
          repeat first | refine same ?_ | refine Ob.intro (show (0 : Int) ≤ 0 ∧ (0 : Int) < ((8 : Nat) : Int) from ⟨by omega, by omega⟩) ?_ | refine Ob.intro (show (0 : Int) ≤ b ∧ (b : Int) < ((sec : Nat) : Int) from ⟨h3, h4⟩) ?_
          refine wr_str (R := x0) (k := b.toNat) rfl rfl (by omega) (by omega) ?_
          exact hK (Cr8.mk (j + 1) (x0.set b.toNat s) (x1) (x2) (x3) (x4) (x5) (x6) (x7) (by omega) (by rw [picksD_snoc hp, hx]; exact pick1_some (p := (0, b)) (m := m0) hin0 rfl hg) (by rw [List.length_set]; exact l0) l1 l2 l3 l4 l5 l6 l7) [0, 1, 2, 3, 4, 5, 6, 7, 8, 9, 10, 11, 12, 13, 14, 15, 16, 17, 18] _ (show ps.length - j = ps.length - (j + 1) + 1 by omega) ⟨⟨rfl, rfl, rfl, rfl, congrArg i64 (wincP (by omega)), True.intro⟩, ⟨.inl rfl, .inl rfl, .inl rfl, oS rfl, oS rfl, oS rfl, oS rfl, oS rfl, oS rfl, oS rfl, oS rfl, oM rfl, oM rfl, oM rfl, oM rfl, oM rfl, oM rfl, oM rfl, oM rfl, True.intro⟩, rfl, rfl, rfl⟩
        | none =>
          repeat first | refine same ?_ | refine Ob.intro (show (0 : Int) ≤ 0 ∧ (0 : Int) < ((8 : Nat) : Int) from ⟨by omega, by omega⟩) ?_ | refine optK_intro (lookR_none hg) ?_
          exact hK (Cr8.mk (j + 1) (x0) (x1) (x2) (x3) (x4) (x5) (x6) (x7) (by omega) (by rw [picksD_snoc hp, hx]; exact pick1_none (p := (0, b)) (m := m0) rfl hg) l0 l1 l2 l3 l4 l5 l6 l7) [0, 1, 2, 3, 4, 5, 6, 7, 8, 9, 10, 11, 12, 13, 14, 15, 16, 17, 18] _ (show ps.length - j = ps.length - (j + 1) + 1 by omega) ⟨⟨rfl, rfl, rfl, rfl, congrArg i64 (wincP (by omega)), True.intro⟩, ⟨.inl rfl, .inl rfl, .inl rfl, oS rfl, oS rfl, oS rfl, oS rfl, oS rfl, oS rfl, oS rfl, oS rfl, oM rfl, oM rfl, oM rfl, oM rfl, oM rfl, oM rfl, oM rfl, oM rfl, True.intro⟩, rfl, rfl, rfl⟩
      · refine callW (cs := [bo false, i64 (sec : Nat), .slc 1 0 8 1, .slc 2 0 8 1]) (rest := [i64 1, i64 b]) hm rfl rfl rfl ?_
        refine ⟨dlXn2a, dlXn2b, dlXn2c, dlXn2d, dlXn2e, Ob.intro (by kernel_rfl) ?_⟩
        repeat first | refine same ?_ | refine Ob.intro (show (0 : Int) ≤ 1 ∧ (1 : Int) < ((8 : Nat) : Int) from ⟨by omega, by omega⟩) ?_
        cases hg : getE m1.L b with
        | some s =>
          repeat first | refine same ?_ | refine Ob.intro (show (0 : Int) ≤ 1 ∧ (1 : Int) < ((8 : Nat) : Int) from ⟨by omega, by omega⟩) ?_ | refine optK_intro (lookR_some hg) ?_
          refine ⟨dlXn1a, dlXn1b, dlXn1c, dlXn1d, dlXn1e, Ob.intro (by kernel_rfl) ?_⟩
          repeat first | refine same ?_ | refine Ob.intro (show (0 : Int) ≤ 1 ∧ (1 : Int) < ((8 : Nat) : Int) from ⟨by omega, by omega⟩) ?_ | refine Ob.intro (show (0 : Int) ≤ b ∧ (b : Int) < ((sec : Nat) : Int) from ⟨h3, h4⟩) ?_
          refine wr_str (R := x1) (k := b.toNat) rfl rfl (by omega) (by omega) ?_
          exact hK (Cr8.mk (j + 1) (x0) (x1.set b.toNat s) (x2) (x3) (x4) (x5) (x6) (x7) (by omega) (by rw [picksD_snoc hp, hx]; exact pick1_some (p := (1, b)) (m := m1) hin0 rfl hg) l0 (by rw [List.length_set]; exact l1) l2 l3 l4 l5 l6 l7) [0, 1, 2, 3, 4, 5, 6, 7, 8, 9, 10, 11, 12, 13, 14, 15, 16, 17, 18] _ (show ps.length - j = ps.length - (j + 1) + 1 by omega) ⟨⟨rfl, rfl, rfl, rfl, congrArg i64 (wincP (by omega)), True.intro⟩, ⟨.inl rfl, .inl rfl, .inl rfl, oS rfl, oS rfl, oS rfl, oS rfl, oS rfl, oS rfl, oS rfl, oS rfl, oM rfl, oM rfl, oM rfl, oM rfl, oM rfl, oM rfl, oM rfl, oM rfl, True.intro⟩, rfl, rfl, rfl⟩
        | none =>
          repeat first | refine same ?_ | refine Ob.intro (show (0 : Int) ≤ 1 ∧ (1 : Int) < ((8 : Nat) : Int) from ⟨by omega, by omega⟩) ?_ | refine optK_intro (lookR_none hg) ?_
          exact hK (Cr8.mk (j + 1) (x0) (x1) (x2) (x3) (x4) (x5) (x6) (x7) (by omega) (by rw [picksD_snoc hp, hx]; exact pick1_none (p := (1, b)) (m := m1) rfl hg) l0 l1 l2 l3 l4 l5 l6 l7) [0, 1, 2, 3, 4, 5, 6, 7, 8, 9, 10, 11, 12, 13, 14, 15, 16, 17, 18] _ (show ps.length - j = ps.length - (j + 1) + 1 by omega) ⟨⟨rfl, rfl, rfl, rfl, congrArg i64 (wincP (by omega)), True.intro⟩, ⟨.inl rfl, .inl rfl, .inl rfl, oS rfl, oS rfl, oS rfl, oS rfl, oS rfl, oS rfl, oS rfl, oS rfl, oM rfl, oM rfl, oM rfl, oM rfl, oM rfl, oM rfl, oM rfl, oM rfl, True.intro⟩, rfl, rfl, rfl⟩
      · refine callW (cs := [bo false, i64 (sec : Nat), .slc 1 0 8 1, .slc 2 0 8 1]) (rest := [i64 2, i64 b]) hm rfl rfl rfl ?_
        refine ⟨dlXn2a, dlXn2b, dlXn2c, dlXn2d, dlXn2e, Ob.intro (by kernel_rfl) ?_⟩
        repeat first | refine same ?_ | refine Ob.intro (show (0 : Int) ≤ 2 ∧ (2 : Int) < ((8 : Nat) : Int) from ⟨by omega, by omega⟩) ?_
        cases hg : getE m2.L b with
        | some s =>
          repeat first | refine same ?_ | refine Ob.intro (show (0 : Int) ≤ 2 ∧ (2 : Int) < ((8 : Nat) : Int) from ⟨by omega, by omega⟩) ?_ | refine optK_intro (lookR_some hg) ?_
          refine ⟨dlXn1a, dlXn1b, dlXn1c, dlXn1d, dlXn1e, Ob.intro (by kernel_rfl) ?_⟩
          repeat first | refine same ?_ | refine Ob.intro (show (0 : Int) ≤ 2 ∧ (2 : Int) < ((8 : Nat) : Int) from ⟨by omega, by omega⟩) ?_ | refine Ob.intro (show (0 : Int) ≤ b ∧ (b : Int) < ((sec : Nat) : Int) from ⟨h3, h4⟩) ?_
          refine wr_str (R := x2) (k := b.toNat) rfl rfl (by omega) (by omega) ?_
          exact hK (Cr8.mk (j + 1) (x0) (x1) (x2.set b.toNat s) (x3) (x4) (x5) (x6) (x7) (by omega) (by rw [picksD_snoc hp, hx]; exact pick1_some (p := (2, b)) (m := m2) hin0 rfl hg) l0 l1 (by rw [List.length_set]; exact l2) l3 l4 l5 l6 l7) [0, 1, 2, 3, 4, 5, 6, 7, 8, 9, 10, 11, 12, 13, 14, 15, 16, 17, 18] _ (show ps.length - j = ps.length - (j + 1) + 1 by omega) ⟨⟨rfl, rfl, rfl, rfl, congrArg i64 (wincP (by omega)), True.intro⟩, ⟨.inl rfl, .inl rfl, .inl rfl, oS rfl, oS rfl, oS rfl, oS rfl, oS rfl, oS rfl, oS rfl, oS rfl, oM rfl, oM rfl, oM rfl, oM rfl, oM rfl, oM rfl, oM rfl, oM rfl, True.intro⟩, rfl, rfl, rfl⟩
        | none =>
          repeat first | refine same ?_ | refine Ob.intro (show (0 : Int) ≤ 2 ∧ (2 : Int) < ((8 : Nat) : Int) from ⟨by omega, by omega⟩) ?_ | refine optK_intro (lookR_none hg) ?_
          exact hK (Cr8.mk (j + 1) (x0) (x1) (x2) (x3) (x4) (x5) (x6) (x7) (by omega) (by rw [picksD_snoc hp, hx]; exact pick1_none (p := (2, b)) (m := m2) rfl hg) l0 l1 l2 l3 l4 l5 l6 l7) [0, 1, 2, 3, 4, 5, 6, 7, 8, 9, 10, 11, 12, 13, 14, 15, 16, 17, 18] _ (show ps.length - j = ps.length - (j + 1) + 1 by omega) ⟨⟨rfl, rfl, rfl, rfl, congrArg i64 (wincP (by omega)), True.intro⟩, ⟨.inl rfl, .inl rfl, .inl rfl, oS rfl, oS rfl, oS rfl, oS rfl, oS rfl, oS rfl, oS rfl, oS rfl, oM rfl, oM rfl, oM rfl, oM rfl, oM rfl, oM rfl, oM rfl, oM rfl, True.intro⟩, rfl, rfl, rfl⟩
      · refine callW (cs := [bo false, i64 (sec : Nat), .slc 1 0 8 1, .slc 2 0 8 1]) (rest := [i64 3, i64 b]) hm rfl rfl rfl ?_
        refine ⟨dlXn2a, dlXn2b, dlXn2c, dlXn2d, dlXn2e, Ob.intro (by kernel_rfl) ?_⟩
        repeat first | refine same ?_ | refine Ob.intro (show (0 : Int) ≤ 3 ∧ (3 : Int) < ((8 : Nat) : Int) from ⟨by omega, by omega⟩) ?_
        cases hg : getE m3.L b with
        | some s =>
          repeat first | refine same ?_ | refine Ob.intro (show (0 : Int) ≤ 3 ∧ (3 : Int) < ((8 : Nat) : Int) from ⟨by omega, by omega⟩) ?_ | refine optK_intro (lookR_some hg) ?_
          refine ⟨dlXn1a, dlXn1b, dlXn1c, dlXn1d, dlXn1e, Ob.intro (by kernel_rfl) ?_⟩
          repeat first | refine same ?_ | refine Ob.intro (show (0 : Int) ≤ 3 ∧ (3 : Int) < ((8 : Nat) : Int) from ⟨by omega, by omega⟩) ?_ | refine Ob.intro (show (0 : Int) ≤ b ∧ (b : Int) < ((sec : Nat) : Int) from ⟨h3, h4⟩) ?_
          refine wr_str (R := x3) (k := b.toNat) rfl rfl (by omega) (by omega) ?_
          exact hK (Cr8.mk (j + 1) (x0) (x1) (x2) (x3.set b.toNat s) (x4) (x5) (x6) (x7) (by omega) (by rw [picksD_snoc hp, hx]; exact pick1_some (p := (3, b)) (m := m3) hin0 rfl hg) l0 l1 l2 (by rw [List.length_set]; exact l3) l4 l5 l6 l7) [0, 1, 2, 3, 4, 5, 6, 7, 8, 9, 10, 11, 12, 13, 14, 15, 16, 17, 18] _ (show ps.length - j = ps.length - (j + 1) + 1 by omega) ⟨⟨rfl, rfl, rfl, rfl, congrArg i64 (wincP (by omega)), True.intro⟩, ⟨.inl rfl, .inl rfl, .inl rfl, oS rfl, oS rfl, oS rfl, oS rfl, oS rfl, oS rfl, oS rfl, oS rfl, oM rfl, oM rfl, oM rfl, oM rfl, oM rfl, oM rfl, oM rfl, oM rfl, True.intro⟩, rfl, rfl, rfl⟩
        | none =>
          repeat first | refine same ?_ | refine Ob.intro (show (0 : Int) ≤ 3 ∧ (3 : Int) < ((8 : Nat) : Int) from ⟨by omega, by omega⟩) ?_ | refine optK_intro (lookR_none hg) ?_
          exact hK (Cr8.mk (j + 1) (x0) (x1) (x2) (x3) (x4) (x5) (x6) (x7) (by omega) (by rw [picksD_snoc hp, hx]; exact pick1_none (p := (3, b)) (m := m3) rfl hg) l0 l1 l2 l3 l4 l5 l6 l7) [0, 1, 2, 3, 4, 5, 6, 7, 8, 9, 10, 11, 12, 13, 14, 15, 16, 17, 18] _ (show ps.length - j = ps.length - (j + 1) + 1 by omega) ⟨⟨rfl, rfl, rfl, rfl, congrArg i64 (wincP (by omega)), True.intro⟩, ⟨.inl rfl, .inl rfl, .inl rfl, oS rfl, oS rfl, oS rfl, oS rfl, oS rfl, oS rfl, oS rfl, oS rfl, oM rfl, oM rfl, oM rfl, oM rfl, oM rfl, oM rfl, oM rfl, oM rfl, True.intro⟩, rfl, rfl, rfl⟩
      · refine callW (cs := [bo false, i64 (sec : Nat), .slc 1 0 8 1, .slc 2 0 8 1]) (rest := [i64 4, i64 b]) hm rfl rfl rfl ?_
        refine ⟨dlXn2a, dlXn2b, dlXn2c, dlXn2d, dlXn2e, Ob.intro (by kernel_rfl) ?_⟩
        repeat first | refine same ?_ | refine Ob.intro (show (0 : Int) ≤ 4 ∧ (4 : Int) < ((8 : Nat) : Int) from ⟨by omega, by omega⟩) ?_
        cases hg : getE m4.L b with
        | some s =>
          repeat first | refine same ?_ | refine Ob.intro (show (0 : Int) ≤ 4 ∧ (4 : Int) < ((8 : Nat) : Int) from ⟨by omega, by omega⟩) ?_ | refine optK_intro (lookR_some hg) ?_
          refine ⟨dlXn1a, dlXn1b, dlXn1c, dlXn1d, dlXn1e, Ob.intro (by kernel_rfl) ?_⟩
          repeat first | refine same ?_ | refine Ob.intro (show (0 : Int) ≤ 4 ∧ (4 : Int) < ((8 : Nat) : Int) from ⟨by omega, by omega⟩) ?_ | refine Ob.intro (show (0 : Int) ≤ b ∧ (b : Int) < ((sec : Nat) : Int) from ⟨h3, h4⟩) ?_
          refine wr_str (R := x4) (k := b.toNat) rfl rfl (by omega) (by omega) ?_
          exact hK (Cr8.mk (j + 1) (x0) (x1) (x2) (x3) (x4.set b.toNat s) (x5) (x6) (x7) (by omega) (by rw [picksD_snoc hp, hx]; exact pick1_some (p := (4, b)) (m := m4) hin0 rfl hg) l0 l1 l2 l3 (by rw [List.length_set]; exact l4) l5 l6 l7) [0, 1, 2, 3, 4, 5, 6, 7, 8, 9, 10, 11, 12, 13, 14, 15, 16, 17, 18] _ (show ps.length - j = ps.length - (j + 1) + 1 by omega) ⟨⟨rfl, rfl, rfl, rfl, congrArg i64 (wincP (by omega)), True.intro⟩, ⟨.inl rfl, .inl rfl, .inl rfl, oS rfl, oS rfl, oS rfl, oS rfl, oS rfl, oS rfl, oS rfl, oS rfl, oM rfl, oM rfl, oM rfl, oM rfl, oM rfl, oM rfl, oM rfl, oM rfl, True.intro⟩, rfl, rfl, rfl⟩
        | none =>
          repeat first | refine same ?_ | refine Ob.intro (show (0 : Int) ≤ 4 ∧ (4 : Int) < ((8 : Nat) : Int) from ⟨by omega, by omega⟩) ?_ | refine optK_intro (lookR_none hg) ?_
          exact hK (Cr8.mk (j + 1) (x0) (x1) (x2) (x3) (x4) (x5) (x6) (x7) (by omega) (by rw [picksD_snoc hp, hx]; exact pick1_none (p := (4, b)) (m := m4) rfl hg) l0 l1 l2 l3 l4 l5 l6 l7) [0, 1, 2, 3, 4, 5, 6, 7, 8, 9, 10, 11, 12, 13, 14, 15, 16, 17, 18] _ (show ps.length - j = ps.length - (j + 1) + 1 by omega) ⟨⟨rfl, rfl, rfl, rfl, congrArg i64 (wincP (by omega)), True.intro⟩, ⟨.inl rfl, .inl rfl, .inl rfl, oS rfl, oS rfl, oS rfl, oS rfl, oS rfl, oS rfl, oS rfl, oS rfl, oM rfl, oM rfl, oM rfl, oM rfl, oM rfl, oM rfl, oM rfl, oM rfl, True.intro⟩, rfl, rfl, rfl⟩
      · refine callW (cs := [bo false, i64 (sec : Nat), .slc 1 0 8 1, .slc 2 0 8 1]) (rest := [i64 5, i64 b]) hm rfl rfl rfl ?_
        refine ⟨dlXn2a, dlXn2b, dlXn2c, dlXn2d, dlXn2e, Ob.intro (by kernel_rfl) ?_⟩
        repeat first | refine same ?_ | refine Ob.intro (show (0 : Int) ≤ 5 ∧ (5 : Int) < ((8 : Nat) : Int) from ⟨by omega, by omega⟩) ?_
        cases hg : getE m5.L b with
        | some s =>
          repeat first | refine same ?_ | refine Ob.intro (show (0 : Int) ≤ 5 ∧ (5 : Int) < ((8 : Nat) : Int) from ⟨by omega, by omega⟩) ?_ | refine optK_intro (lookR_some hg) ?_
          refine ⟨dlXn1a, dlXn1b, dlXn1c, dlXn1d, dlXn1e, Ob.intro (by kernel_rfl) ?_⟩
          repeat first | refine same ?_ | refine Ob.intro (show (0 : Int) ≤ 5 ∧ (5 : Int) < ((8 : Nat) : Int) from ⟨by omega, by omega⟩) ?_ | refine Ob.intro (show (0 : Int) ≤ b ∧ (b : Int) < ((sec : Nat) : Int) from ⟨h3, h4⟩) ?_
          refine wr_str (R := x5) (k := b.toNat) rfl rfl (by omega) (by omega) ?_
          exact hK (Cr8.mk (j + 1) (x0) (x1) (x2) (x3) (x4) (x5.set b.toNat s) (x6) (x7) (by omega) (by rw [picksD_snoc hp, hx]; exact pick1_some (p := (5, b)) (m := m5) hin0 rfl hg) l0 l1 l2 l3 l4 (by rw [List.length_set]; exact l5) l6 l7) [0, 1, 2, 3, 4, 5, 6, 7, 8, 9, 10, 11, 12, 13, 14, 15, 16, 17, 18] _ (show ps.length - j = ps.length - (j + 1) + 1 by omega) ⟨⟨rfl, rfl, rfl, rfl, congrArg i64 (wincP (by omega)), True.intro⟩, ⟨.inl rfl, .inl rfl, .inl rfl, oS rfl, oS rfl, oS rfl, oS rfl, oS rfl, oS rfl, oS rfl, oS rfl, oM rfl, oM rfl, oM rfl, oM rfl, oM rfl, oM rfl, oM rfl, oM rfl, True.intro⟩, rfl, rfl, rfl⟩
        | none =>
          repeat first | refine same ?_ | refine Ob.intro (show (0 : Int) ≤ 5 ∧ (5 : Int) < ((8 : Nat) : Int) from ⟨by omega, by omega⟩) ?_ | refine optK_intro (lookR_none hg) ?_
          exact hK (Cr8.mk (j + 1) (x0) (x1) (x2) (x3) (x4) (x5) (x6) (x7) (by omega) (by rw [picksD_snoc hp, hx]; exact pick1_none (p := (5, b)) (m := m5) rfl hg) l0 l1 l2 l3 l4 l5 l6 l7) [0, 1, 2, 3, 4, 5, 6, 7, 8, 9, 10, 11, 12, 13, 14, 15, 16, 17, 18] _ (show ps.length - j = ps.length - (j + 1) + 1 by omega) ⟨⟨rfl, rfl, rfl, rfl, congrArg i64 (wincP (by omega)), True.intro⟩, ⟨.inl rfl, .inl rfl, .inl rfl, oS rfl, oS rfl, oS rfl, oS rfl, oS rfl, oS rfl, oS rfl, oS rfl, oM rfl, oM rfl, oM rfl, oM rfl, oM rfl, oM rfl, oM rfl, oM rfl, True.intro⟩, rfl, rfl, rfl⟩
      · refine callW (cs := [bo false, i64 (sec : Nat), .slc 1 0 8 1, .slc 2 0 8 1]) (rest := [i64 6, i64 b]) hm rfl rfl rfl ?_
        refine ⟨dlXn2a, dlXn2b, dlXn2c, dlXn2d, dlXn2e, Ob.intro (by kernel_rfl) ?_⟩
        repeat first | refine same ?_ | refine Ob.intro (show (0 : Int) ≤ 6 ∧ (6 : Int) < ((8 : Nat) : Int) from ⟨by omega, by omega⟩) ?_
        cases hg : getE m6.L b with
        | some s =>
          repeat first | refine same ?_ | refine Ob.intro (show (0 : Int) ≤ 6 ∧ (6 : Int) < ((8 : Nat) : Int) from ⟨by omega, by omega⟩) ?_ | refine optK_intro (lookR_some hg) ?_
          refine ⟨dlXn1a, dlXn1b, dlXn1c, dlXn1d, dlXn1e, Ob.intro (by kernel_rfl) ?_⟩
          repeat first | refine same ?_ | refine Ob.intro (show (0 : Int) ≤ 6 ∧ (6 : Int) < ((8 : Nat) : Int) from ⟨by omega, by omega⟩) ?_ | refine Ob.intro (show (0 : Int) ≤ b ∧ (b : Int) < ((sec : Nat) : Int) from ⟨h3, h4⟩) ?_
          refine wr_str (R := x6) (k := b.toNat) rfl rfl (by omega) (by omega) ?_
          exact hK (Cr8.mk (j + 1) (x0) (x1) (x2) (x3) (x4) (x5) (x6.set b.toNat s) (x7) (by omega) (by rw [picksD_snoc hp, hx]; exact pick1_some (p := (6, b)) (m := m6) hin0 rfl hg) l0 l1 l2 l3 l4 l5 (by rw [List.length_set]; exact l6) l7) [0, 1, 2, 3, 4, 5, 6, 7, 8, 9, 10, 11, 12, 13, 14, 15, 16, 17, 18] _ (show ps.length - j = ps.length - (j + 1) + 1 by omega) ⟨⟨rfl, rfl, rfl, rfl, congrArg i64 (wincP (by omega)), True.intro⟩, ⟨.inl rfl, .inl rfl, .inl rfl, oS rfl, oS rfl, oS rfl, oS rfl, oS rfl, oS rfl, oS rfl, oS rfl, oM rfl, oM rfl, oM rfl, oM rfl, oM rfl, oM rfl, oM rfl, oM rfl, True.intro⟩, rfl, rfl, rfl⟩
        | none =>
          repeat first | refine same ?_ | refine Ob.intro (show (0 : Int) ≤ 6 ∧ (6 : Int) < ((8 : Nat) : Int) from ⟨by omega, by omega⟩) ?_ | refine optK_intro (lookR_none hg) ?_
          exact hK (Cr8.mk (j + 1) (x0) (x1) (x2) (x3) (x4) (x5) (x6) (x7) (by omega) (by rw [picksD_snoc hp, hx]; exact pick1_none (p := (6, b)) (m := m6) rfl hg) l0 l1 l2 l3 l4 l5 l6 l7) [0, 1, 2, 3, 4, 5, 6, 7, 8, 9, 10, 11, 12, 13, 14, 15, 16, 17, 18] _ (show ps.length - j = ps.length - (j + 1) + 1 by omega) ⟨⟨rfl, rfl, rfl, rfl, congrArg i64 (wincP (by omega)), True.intro⟩, ⟨.inl rfl, .inl rfl, .inl rfl, oS rfl, oS rfl, oS rfl, oS rfl, oS rfl, oS rfl, oS rfl, oS rfl, oM rfl, oM rfl, oM rfl, oM rfl, oM rfl, oM rfl, oM rfl, oM rfl, True.intro⟩, rfl, rfl, rfl⟩
      · refine callW (cs := [bo false, i64 (sec : Nat), .slc 1 0 8 1, .slc 2 0 8 1]) (rest := [i64 7, i64 b]) hm rfl rfl rfl ?_
        refine ⟨dlXn2a, dlXn2b, dlXn2c, dlXn2d, dlXn2e, Ob.intro (by kernel_rfl) ?_⟩
        repeat first | refine same ?_ | refine Ob.intro (show (0 : Int) ≤ 7 ∧ (7 : Int) < ((8 : Nat) : Int) from ⟨by omega, by omega⟩) ?_
        cases hg : getE m7.L b with
        | some s =>
          repeat first | refine same ?_ | refine Ob.intro (show (0 : Int) ≤ 7 ∧ (7 : Int) < ((8 : Nat) : Int) from ⟨by omega, by omega⟩) ?_ | refine optK_intro (lookR_some hg) ?_
          refine ⟨dlXn1a, dlXn1b, dlXn1c, dlXn1d, dlXn1e, Ob.intro (by kernel_rfl) ?_⟩
          repeat first | refine same ?_ | refine Ob.intro (show (0 : Int) ≤ 7 ∧ (7 : Int) < ((8 : Nat) : Int) from ⟨by omega, by omega⟩) ?_ | refine Ob.intro (show (0 : Int) ≤ b ∧ (b : Int) < ((sec : Nat) : Int) from ⟨h3, h4⟩) ?_
          refine wr_str (R := x7) (k := b.toNat) rfl rfl (by omega) (by omega) ?_
          exact hK (Cr8.mk (j + 1) (x0) (x1) (x2) (x3) (x4) (x5) (x6) (x7.set b.toNat s) (by omega) (by rw [picksD_snoc hp, hx]; exact pick1_some (p := (7, b)) (m := m7) hin0 rfl hg) l0 l1 l2 l3 l4 l5 l6 (by rw [List.length_set]; exact l7)) [0, 1, 2, 3, 4, 5, 6, 7, 8, 9, 10, 11, 12, 13, 14, 15, 16, 17, 18] _ (show ps.length - j = ps.length - (j + 1) + 1 by omega) ⟨⟨rfl, rfl, rfl, rfl, congrArg i64 (wincP (by omega)), True.intro⟩, ⟨.inl rfl, .inl rfl, .inl rfl, oS rfl, oS rfl, oS rfl, oS rfl, oS rfl, oS rfl, oS rfl, oS rfl, oM rfl, oM rfl, oM rfl, oM rfl, oM rfl, oM rfl, oM rfl, oM rfl, True.intro⟩, rfl, rfl, rfl⟩
        | none =>
          repeat first | refine same ?_ | refine Ob.intro (show (0 : Int) ≤ 7 ∧ (7 : Int) < ((8 : Nat) : Int) from ⟨by omega, by omega⟩) ?_ | refine optK_intro (lookR_none hg) ?_
          exact hK (Cr8.mk (j + 1) (x0) (x1) (x2) (x3) (x4) (x5) (x6) (x7) (by omega) (by rw [picksD_snoc hp, hx]; exact pick1_none (p := (7, b)) (m := m7) rfl hg) l0 l1 l2 l3 l4 l5 l6 l7) [0, 1, 2, 3, 4, 5, 6, 7, 8, 9, 10, 11, 12, 13, 14, 15, 16, 17, 18] _ (show ps.length - j = ps.length - (j + 1) + 1 by omega) ⟨⟨rfl, rfl, rfl, rfl, congrArg i64 (wincP (by omega)), True.intro⟩, ⟨.inl rfl, .inl rfl, .inl rfl, oS rfl, oS rfl, oS rfl, oS rfl, oS rfl, oS rfl, oS rfl, oS rfl, oM rfl, oM rfl, oM rfl, oM rfl, oM rfl, oM rfl, oM rfl, oM rfl, True.intro⟩, rfl, rfl, rfl⟩
    · rw [if_neg hin] at hm
      refine callW (cs := [bo false, i64 (sec : Nat), .slc 1 0 8 1, .slc 2 0 8 1]) (rest := [i64 a, i64 b]) hm rfl rfl rfl ?_
      exact hK (Cr8.mk (j + 1) (x0) (x1) (x2) (x3) (x4) (x5) (x6) (x7) (by omega) (by rw [picksD_snoc hp, hx]; exact pick1_no (p := (a, b)) hin) l0 l1 l2 l3 l4 l5 l6 l7) [0, 1, 2, 3, 4, 5, 6, 7, 8, 9, 10, 11, 12, 13, 14, 15, 16, 17, 18] _ (show ps.length - j = ps.length - (j + 1) + 1 by omega) ⟨⟨rfl, rfl, rfl, rfl, congrArg i64 (wincP (by omega)), True.intro⟩, ⟨.inl rfl, .inl rfl, .inl rfl, oS rfl, oS rfl, oS rfl, oS rfl, oS rfl, oS rfl, oS rfl, oS rfl, oM rfl, oM rfl, oM rfl, oM rfl, oM rfl, oM rfl, oM rfl, oM rfl, True.intro⟩, rfl, rfl, rfl⟩
  · have hfin : picksD sec [m0, m1, m2, m3, m4, m5, m6, m7] [d0, d1, d2, d3, d4, d5, d6, d7] ps = [x0, x1, x2, x3, x4, x5, x6, x7] := by
      have : ¬ (j : Int) < (ps.length : Int) := g
      rw [List.take_of_length_le (by omega)] at hx
      exact hx
    rw [hfin]
    clear hK hx hfin
    refine loopI (α := Fin 9) (fun z => [(0, .ptr 0 0), (63, .slc 2 0 8 1), (64, i64 (8 : Nat)), (65, i64 (z.val : Nat))]) (fun z => (Wd.mk false sec [x0, x1, x2, x3, x4, x5, x6, x7] (clr8 z.val [m0, m1, m2, m3, m4, m5, m6, m7])).H) (fun z => 8 - z.val) 0 [0, 1, 2, 3, 4, 5, 6, 7, 8, 9, 10, 11, 12, 13, 14, 15, 16, 17, 18] ⟨⟨rfl, rfl, rfl, rfl, True.intro⟩, ⟨.inl rfl, .inl rfl, .inl rfl, oS rfl, oS rfl, oS rfl, oS rfl, oS rfl, oS rfl, oS rfl, oS rfl, oM rfl, oM rfl, oM rfl, oM rfl, oM rfl, oM rfl, oM rfl, oM rfl, True.intro⟩, rfl, rfl, rfl⟩ ?_
    rintro ⟨j, hj⟩ K2 hK
    dsimp only at hj ⊢
    match j, hj with
    | 0, _ =>
      refine Ob.intro (show (0 : Int) ≤ ((0 : Nat) : Int) ∧ ((0 : Nat) : Int) < ((8 : Nat) : Int) by omega) ?_
      exact hK ⟨1, by omega⟩ [0, 1, 2, 3, 4, 5, 6, 7, 8, 9, 10, 11, 12, 13, 14, 15, 16, 17, 18] _ rfl ⟨⟨rfl, rfl, rfl, congrArg i64 (wincP (n := 0) (by omega)), True.intro⟩, ⟨.inl rfl, .inl rfl, .inl rfl, oS rfl, oS rfl, oS rfl, oS rfl, oS rfl, oS rfl, oS rfl, oS rfl, oM rfl, oM rfl, oM rfl, oM rfl, oM rfl, oM rfl, oM rfl, oM rfl, True.intro⟩, rfl, rfl, rfl⟩
    | 1, _ =>
      refine Ob.intro (show (0 : Int) ≤ ((1 : Nat) : Int) ∧ ((1 : Nat) : Int) < ((8 : Nat) : Int) by omega) ?_
      exact hK ⟨2, by omega⟩ [0, 1, 2, 3, 4, 5, 6, 7, 8, 9, 10, 11, 12, 13, 14, 15, 16, 17, 18] _ rfl ⟨⟨rfl, rfl, rfl, congrArg i64 (wincP (n := 1) (by omega)), True.intro⟩, ⟨.inl rfl, .inl rfl, .inl rfl, oS rfl, oS rfl, oS rfl, oS rfl, oS rfl, oS rfl, oS rfl, oS rfl, oM rfl, oM rfl, oM rfl, oM rfl, oM rfl, oM rfl, oM rfl, oM rfl, True.intro⟩, rfl, rfl, rfl⟩
    | 2, _ =>
      refine Ob.intro (show (0 : Int) ≤ ((2 : Nat) : Int) ∧ ((2 : Nat) : Int) < ((8 : Nat) : Int) by omega) ?_
      exact hK ⟨3, by omega⟩ [0, 1, 2, 3, 4, 5, 6, 7, 8, 9, 10, 11, 12, 13, 14, 15, 16, 17, 18] _ rfl ⟨⟨rfl, rfl, rfl, congrArg i64 (wincP (n := 2) (by omega)), True.intro⟩, ⟨.inl rfl, .inl rfl, .inl rfl, oS rfl, oS rfl, oS rfl, oS rfl, oS rfl, oS rfl, oS rfl, oS rfl, oM rfl, oM rfl, oM rfl, oM rfl, oM rfl, oM rfl, oM rfl, oM rfl, True.intro⟩, rfl, rfl, rfl⟩
    | 3, _ =>
      refine Ob.intro (show (0 : Int) ≤ ((3 : Nat) : Int) ∧ ((3 : Nat) : Int) < ((8 : Nat) : Int) by omega) ?_
      exact hK ⟨4, by omega⟩ [0, 1, 2, 3, 4, 5, 6, 7, 8, 9, 10, 11, 12, 13, 14, 15, 16, 17, 18] _ rfl ⟨⟨rfl, rfl, rfl, congrArg i64 (wincP (n := 3) (by omega)), True.intro⟩, ⟨.inl rfl, .inl rfl, .inl rfl, oS rfl, oS rfl, oS rfl, oS rfl, oS rfl, oS rfl, oS rfl, oS rfl, oM rfl, oM rfl, oM rfl, oM rfl, oM rfl, oM rfl, oM rfl, oM rfl, True.intro⟩, rfl, rfl, rfl⟩
    | 4, _ =>
      refine Ob.intro (show (0 : Int) ≤ ((4 : Nat) : Int) ∧ ((4 : Nat) : Int) < ((8 : Nat) : Int) by omega) ?_
      exact hK ⟨5, by omega⟩ [0, 1, 2, 3, 4, 5, 6, 7, 8, 9, 10, 11, 12, 13, 14, 15, 16, 17, 18] _ rfl ⟨⟨rfl, rfl, rfl, congrArg i64 (wincP (n := 4) (by omega)), True.intro⟩, ⟨.inl rfl, .inl rfl, .inl rfl, oS rfl, oS rfl, oS rfl, oS rfl, oS rfl, oS rfl, oS rfl, oS rfl, oM rfl, oM rfl, oM rfl, oM rfl, oM rfl, oM rfl, oM rfl, oM rfl, True.intro⟩, rfl, rfl, rfl⟩
    | 5, _ =>
      refine Ob.intro (show (0 : Int) ≤ ((5 : Nat) : Int) ∧ ((5 : Nat) : Int) < ((8 : Nat) : Int) by omega) ?_
      exact hK ⟨6, by omega⟩ [0, 1, 2, 3, 4, 5, 6, 7, 8, 9, 10, 11, 12, 13, 14, 15, 16, 17, 18] _ rfl ⟨⟨rfl, rfl, rfl, congrArg i64 (wincP (n := 5) (by omega)), True.intro⟩, ⟨.inl rfl, .inl rfl, .inl rfl, oS rfl, oS rfl, oS rfl, oS rfl, oS rfl, oS rfl, oS rfl, oS rfl, oM rfl, oM rfl, oM rfl, oM rfl, oM rfl, oM rfl, oM rfl, oM rfl, True.intro⟩, rfl, rfl, rfl⟩
    | 6, _ =>
      refine Ob.intro (show (0 : Int) ≤ ((6 : Nat) : Int) ∧ ((6 : Nat) : Int) < ((8 : Nat) : Int) by omega) ?_
      exact hK ⟨7, by omega⟩ [0, 1, 2, 3, 4, 5, 6, 7, 8, 9, 10, 11, 12, 13, 14, 15, 16, 17, 18] _ rfl ⟨⟨rfl, rfl, rfl, congrArg i64 (wincP (n := 6) (by omega)), True.intro⟩, ⟨.inl rfl, .inl rfl, .inl rfl, oS rfl, oS rfl, oS rfl, oS rfl, oS rfl, oS rfl, oS rfl, oS rfl, oM rfl, oM rfl, oM rfl, oM rfl, oM rfl, oM rfl, oM rfl, oM rfl, True.intro⟩, rfl, rfl, rfl⟩
    | 7, _ =>
      refine Ob.intro (show (0 : Int) ≤ ((7 : Nat) : Int) ∧ ((7 : Nat) : Int) < ((8 : Nat) : Int) by omega) ?_
      exact hK ⟨8, by omega⟩ [0, 1, 2, 3, 4, 5, 6, 7, 8, 9, 10, 11, 12, 13, 14, 15, 16, 17, 18] _ rfl ⟨⟨rfl, rfl, rfl, congrArg i64 (wincP (n := 7) (by omega)), True.intro⟩, ⟨.inl rfl, .inl rfl, .inl rfl, oS rfl, oS rfl, oS rfl, oS rfl, oS rfl, oS rfl, oS rfl, oS rfl, oM rfl, oM rfl, oM rfl, oM rfl, oM rfl, oM rfl, oM rfl, oM rfl, True.intro⟩, rfl, rfl, rfl⟩
    | 8, _ =>
      exact endH rfl rfl rfl ⟨.inl rfl, .inl rfl, .inl rfl, .inl rfl, .inl rfl, .inl rfl, .inl rfl, .inl rfl, .inl rfl, .inl rfl, .inl rfl, .inl rfl, .inl rfl, .inl rfl, .inl rfl, .inl rfl, .inl rfl, .inl rfl, .inl rfl, True.intro⟩ (Nat.le_refl 19) (Wd.below _) rfl
    | k + 9, hj => exact absurd hj (by omega)
end Go.Proofs.YthbncljlclcecaaDoor.A
