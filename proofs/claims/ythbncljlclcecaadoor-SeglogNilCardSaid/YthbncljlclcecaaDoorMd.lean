/- seglog: look (printed by genlook.py). No condition. -/
import Derived.Test.YthbncljlclcecaaDoorMc
namespace Go.Proofs.YthbncljlclcecaaDoor.A
open Go
set_option linter.unusedVariables false
set_option linter.unusedSimpArgs false
set_option maxRecDepth 100000
set_option pp.maxSteps 600
/-- What the sectors of an extent tell. -/
noncomputable def uoL (w : Wd) (e : Int) (j : Nat) : List Uo := (List.range j).map fun k : Nat => unp (w.read e k).1
theorem uoL_len (w : Wd) (e : Int) (j : Nat) : (uoL w e j).length = j := by unfold uoL; rw [List.length_map, List.length_range]
theorem uoL_succ (w : Wd) (e : Int) (j : Nat) : uoL w e (j + 1) = uoL w e j ++ [unp (w.read e (j : Nat)).1] := by unfold uoL; rw [List.range_succ, List.map_append]; rfl
/-- The greatest life. -/
def lfL (L : List Uo) : Nat := L.foldl (fun m o => max m (stO o).l) 0
theorem lfL_snoc (L : List Uo) (o : Uo) : lfL (L ++ [o]) = max (lfL L) (stO o).l := by unfold lfL; rw [List.foldl_append]; rfl
def stR (L : List Uo) : List AV := flat s5C (L.map stO)
def daR (L : List Uo) : List AV := (L.map daO).map str
def isR (L : List Uo) : List AV := (L.map isO).map bo
theorem renO_stR (r : Nat → Nat) (L : List Uo) : renO r (.row (stR L)) = .row (stR L) := renO_flat (fun _ _ => rfl) r _
theorem renO_daR (r : Nat → Nat) (L : List Uo) : renO r (.row (daR L)) = .row (daR L) := renO_str r _
theorem renO_isR (r : Nat → Nat) (L : List Uo) : renO r (.row (isR L)) = .row (isR L) := by rw [renO, isR, renL_map (fun _ _ => rfl)]
theorem stR_snoc (L : List Uo) (o : Uo) : stR (L ++ [o]) = stR L ++ s5C (stO o) := by unfold stR; rw [List.map_append, flat_append]; simp [flat]
theorem daR_snoc (L : List Uo) (o : Uo) : daR (L ++ [o]) = daR L ++ [str (daO o)] := by unfold daR; rw [List.map_append, List.map_append]; rfl
theorem isR_snoc (L : List Uo) (o : Uo) : isR (L ++ [o]) = isR L ++ [bo (isO o)] := by unfold isR; rw [List.map_append, List.map_append]; rfl
theorem stR_len (L : List Uo) : (stR L).length = L.length * 5 := by unfold stR; rw [flat_len s5C_len, List.length_map]
theorem daR_len (L : List Uo) : (daR L).length = L.length := by unfold daR; rw [List.length_map, List.length_map]
theorem isR_len (L : List Uo) : (isR L).length = L.length := by unfold isR; rw [List.length_map, List.length_map]
theorem frz_part {H : Heap} {m i n sz : Nat} {cs : List AV} (h : nth H i = some (.row cs)) (hl : cs.length = n * sz) (hm : Nat.blt i m = false) (k : Nat) (hc : mapO (frz0 H m (k + 1)) cs = some cs) : frz H m (k + 2) (.slc i 0 n sz) = some (.view n cs) := by
  have h1 : rdN H i 0 (n * sz) = some cs := by rw [← hl, ← Nat.mul_one cs.length]; exact rdN_all h (by omega)
  simp only [frz, frz0, hm, cond_false, h1, hc]
theorem frz_sc {H : Heap} {m a b c : Nat} {x : Int} {U : List Uo} (ha : nth H a = some (.row (stR U))) (hb : nth H b = some (.row (daR U))) (hc : nth H c = some (.row (isR U))) (ma : Nat.blt a m = false) (mb : Nat.blt b m = false) (mc : Nat.blt c m = false) (k : Nat) :
    frz H m (k + 3) (.agg [.slc a 0 U.length 5, .slc b 0 U.length 1, .slc c 0 U.length 1, i64 x]) = some (.agg [.view U.length (stR U), .view U.length (daR U), .view U.length (isR U), i64 x]) := by
  have h1 := frz_part (k := k) ha (stR_len U) ma (mapO_flat (f := s5C) (fun _ => rfl) _)
  have h2 := frz_part (k := k) (sz := 1) hb (by rw [daR_len, Nat.mul_one]) mb (mapO_map (f := frz0 H m (k + 1)) (g := str) (h := str) (fun _ => rfl) _)
  have h3 := frz_part (k := k) (sz := 1) hc (by rw [isR_len, Nat.mul_one]) mc (mapO_map (f := frz0 H m (k + 1)) (g := bo) (h := bo) (fun _ => rfl) _)
  show (match mapO (frz H m (k + 2)) [_, _, _, _] with | some ds => some (AV.agg ds) | none => none) = _
  simp only [mapO, h1, h2, h3]
  rfl
/-- What a look brings. -/
def scV (L : List Uo) : List AV := [.view L.length (stR L), .view L.length (daR L), .view L.length (isR L), i64 (lfL L : Nat)]

def scF7 (A B C D : List Uo) (o : Uo) : Heap := [.row [nilS, nilS, nilS, i64 0], .row [.slc 9 0 A.length 5, .slc 10 0 B.length 1, .slc 11 0 C.length 1, i64 (lfL D : Nat)], .row (stR A), .row (daR B), .row (isR C), .row (s5C (stO o))]
def scE2 (L : List Uo) : Heap := [.row [nilS, nilS, nilS, i64 0], .row [.slc 9 0 L.length 5, .slc 10 0 L.length 1, .slc 11 0 L.length 1, i64 (lfL L : Nat)], .row (stR L), .row (daR L), .row (isR L)]
set_option maxHeartbeats 4000000 in
theorem look_2 {sec : Nat} (w : Wd) (hi : w.is 2 sec) (hs : sec ≤ 1000) (e : Int) : ACalls Tryd.prog 33 [.ptr 0 0, i64 e] w.H (RetH (.agg (scV (uoL w e sec))) w.H) := by
  obtain ⟨o, d0, d1, m0, m1, hw⟩ := tell_2 hi
  rw [show w.H = (Wd.mk o sec [d0, d1] [m0, m1]).H from congrArg Wd.H hw]
  refine acalls_of_awpC [8, 10] hT mixed Tryd.func33 rfl (by kernel_rfl) (by kernel_rfl) (Nat.le_of_ble_eq_true rfl) ?_
  refine callW (cs := [bo o, i64 (sec : Nat), .slc 1 0 2 1, .slc 2 0 2 1]) (rest := []) (secs_ok o (sec : Nat) 2) rfl rfl rfl ?_
  refine loopG (α := { j : Nat // j ≤ sec }) (fun z => [(0, .ptr 0 0), (1, i64 e), (4, .ptr 7 0), (5, .ptr 8 0), (13, i64 (sec : Nat)), (14, i64 (z.val : Nat))]) (fun z => (Wd.mk o sec [d0, d1] [m0, m1]).H ++ scE2 (uoL w e z.val)) [] (fun z => sec - z.val) ⟨0, Nat.zero_le _⟩ [.cell 8 0 5, .cell 8 1 1, .cell 8 2 1] [0, 1, 2, 3, 4, 5, 6, 7, 8, 9, 10, 11] ⟨⟨rfl, rfl, rfl, rfl, rfl, rfl, True.intro⟩, ⟨.inl rfl, .inl rfl, .inl rfl, oS rfl, oS rfl, oM rfl, oM rfl, .inl rfl, .inl rfl, .inl rfl, .inl rfl, .inl rfl, True.intro⟩, rfl, rfl, rfl⟩ ?_
  rintro ⟨j, hj⟩ K hK
  dsimp only at hj ⊢
  have hlen := uoL_len w e j
  have hsn := uoL_succ w e j
  refine forkD (fun h => ?_) (fun h => ?_)
  · have g : j < sec := by have : (j : Int) < (sec : Int) := h; omega
    have cr := readW w hi.ok e (j : Nat)
    generalize (w.read e (j : Nat)).2 = rc at cr
    generalize (w.read e (j : Nat)).1 = rs at cr hsn
    have cu := unp_ok rs
    generalize unp rs = ou at cu hsn
    generalize uoL w e j = U at *
    have hmx : (if ((stO ou).l : Int) > ((lfL U : Nat) : Int) then ((stO ou).l : Int) else ((lfL U : Nat) : Int)) = ((lfL (U ++ [ou]) : Nat) : Int) := by
      rw [lfL_snoc]
      split <;> omega
    have hb1 : isO ou = true ∨ isO ou = false := by cases isO ou <;> simp
    have e1 : (U ++ [ou]).length = U.length + 1 := by rw [List.length_append]; rfl
    rcases hb1 with hb | hb
    · rw [hb] at cu
      refine callU_2 (E := scE2 U) cr hw hw hi rfl rfl ?_
      refine callP cu rfl rfl ?_
      refine cutI (α := Unit) (fun _ => [(0, .ptr 0 0), (1, i64 e), (4, .ptr 7 0), (5, .ptr 8 0), (9, .ptr 12 0), (10, str (daO ou)), (11, i64 (if true = true then 0 else 4)), (13, i64 (sec : Nat)), (14, i64 (j : Nat))]) (fun _ => (Wd.mk o sec [d0, d1] [m0, m1]).H ++ scF7 (U ++ [ou]) U U U ou) [] (fun K1 hK1 => ?_) (fun _ => ?_)
      · clear hK
        refine Ob.intro rfl ?_
        refine optK_intro (a := stR U) ?_ ?_
        · exact rdN_all rfl (by rw [stR_len])
        refine Ob.intro (show (U.length + 1) * 40 ≤ 140737488355328 ∧ U.length + 1 ≤ 9223372036854775807 by omega) ?_
        refine hK1 () [] [0, 1, 2, 3, 4, 5, 6, 7, 8, 14, 10, 11, 12] _ ⟨⟨rfl, rfl, rfl, rfl, rfl, rfl, rfl, rfl, rfl, True.intro⟩, ⟨.inl rfl, .inl rfl, .inl rfl, oS rfl, oS rfl, oM rfl, oM rfl, .inl rfl, .inl ?_, .inl ?_, .inl ?_, .inl ?_, .inl rfl, True.intro⟩, rfl, rfl, rfl⟩
        · rw [e1]
          rfl
        · rw [renO_stR, stR_snoc]
          rfl
        · rw [renO_daR]
          rfl
        · rw [renO_isR]
          rfl
      refine Ob.intro rfl ?_
      refine optK_intro (a := daR U) ?_ ?_
      · exact rdN_all rfl (by rw [daR_len, Nat.mul_one])
      refine Ob.intro (show (U.length + 1) * 16 ≤ 140737488355328 ∧ U.length + 1 ≤ 9223372036854775807 by omega) ?_
      refine cutI (α := Unit) (fun _ => [(0, .ptr 0 0), (1, i64 e), (4, .ptr 7 0), (5, .ptr 8 0), (9, .ptr 12 0), (13, i64 (sec : Nat)), (14, i64 (j : Nat))]) (fun _ => (Wd.mk o sec [d0, d1] [m0, m1]).H ++ scF7 (U ++ [ou]) (U ++ [ou]) (U ++ [ou]) U ou) [] (fun K1 hK1 => ?_) (fun _ => ?_)
      · clear hK
        refine Ob.intro rfl ?_
        refine optK_intro (a := isR U) ?_ ?_
        · exact rdN_all rfl (by rw [isR_len, Nat.mul_one])
        refine Ob.intro (show (U.length + 1) * 1 ≤ 140737488355328 ∧ U.length + 1 ≤ 9223372036854775807 by omega) ?_
        refine hK1 () [] [0, 1, 2, 3, 4, 5, 6, 7, 8, 9, 14, 16, 12] _ ⟨⟨rfl, rfl, rfl, rfl, rfl, rfl, rfl, True.intro⟩, ⟨.inl rfl, .inl rfl, .inl rfl, oS rfl, oS rfl, oM rfl, oM rfl, .inl rfl, .inl ?_, .inl ?_, .inl ?_, .inl ?_, .inl rfl, True.intro⟩, rfl, rfl, rfl⟩
        · rw [e1]
          rfl
        · rw [renO_stR]
          rfl
        · rw [renO_daR, daR_snoc]
          rfl
        · rw [renO_isR, isR_snoc, hb]
          rfl
      refine hK ⟨j + 1, g⟩ [] [0, 1, 2, 3, 4, 5, 6, 7, 8, 9, 10, 11] _ (show sec - j = sec - (j + 1) + 1 by omega) ⟨⟨rfl, rfl, rfl, rfl, rfl, congrArg i64 (wincQ (by omega)), True.intro⟩, ?_, rfl, rfl, rfl⟩
      dsimp only
      rw [hsn]
      refine ⟨.inl rfl, .inl rfl, .inl rfl, oS rfl, oS rfl, oM rfl, oM rfl, .inl rfl, .inl ?_, .inl ?_, .inl ?_, .inl ?_, True.intro⟩
      · rw [← hmx]
        rfl
      · rw [renO_stR]
        rfl
      · rw [renO_daR]
        rfl
      · rw [renO_isR]
        rfl
    · rw [hb] at cu
      refine callU_2 (E := scE2 U) cr hw hw hi rfl rfl ?_
      refine callP cu rfl rfl ?_
      refine cutI (α := Unit) (fun _ => [(0, .ptr 0 0), (1, i64 e), (4, .ptr 7 0), (5, .ptr 8 0), (9, .ptr 12 0), (10, str (daO ou)), (11, i64 (if false = true then 0 else 4)), (13, i64 (sec : Nat)), (14, i64 (j : Nat))]) (fun _ => (Wd.mk o sec [d0, d1] [m0, m1]).H ++ scF7 (U ++ [ou]) U U U ou) [] (fun K1 hK1 => ?_) (fun _ => ?_)
      · clear hK
        refine Ob.intro rfl ?_
        refine optK_intro (a := stR U) ?_ ?_
        · exact rdN_all rfl (by rw [stR_len])
        refine Ob.intro (show (U.length + 1) * 40 ≤ 140737488355328 ∧ U.length + 1 ≤ 9223372036854775807 by omega) ?_
        refine hK1 () [] [0, 1, 2, 3, 4, 5, 6, 7, 8, 14, 10, 11, 12] _ ⟨⟨rfl, rfl, rfl, rfl, rfl, rfl, rfl, rfl, rfl, True.intro⟩, ⟨.inl rfl, .inl rfl, .inl rfl, oS rfl, oS rfl, oM rfl, oM rfl, .inl rfl, .inl ?_, .inl ?_, .inl ?_, .inl ?_, .inl rfl, True.intro⟩, rfl, rfl, rfl⟩
        · rw [e1]
          rfl
        · rw [renO_stR, stR_snoc]
          rfl
        · rw [renO_daR]
          rfl
        · rw [renO_isR]
          rfl
      refine Ob.intro rfl ?_
      refine optK_intro (a := daR U) ?_ ?_
      · exact rdN_all rfl (by rw [daR_len, Nat.mul_one])
      refine Ob.intro (show (U.length + 1) * 16 ≤ 140737488355328 ∧ U.length + 1 ≤ 9223372036854775807 by omega) ?_
      refine cutI (α := Unit) (fun _ => [(0, .ptr 0 0), (1, i64 e), (4, .ptr 7 0), (5, .ptr 8 0), (9, .ptr 12 0), (13, i64 (sec : Nat)), (14, i64 (j : Nat))]) (fun _ => (Wd.mk o sec [d0, d1] [m0, m1]).H ++ scF7 (U ++ [ou]) (U ++ [ou]) (U ++ [ou]) U ou) [] (fun K1 hK1 => ?_) (fun _ => ?_)
      · clear hK
        refine Ob.intro rfl ?_
        refine optK_intro (a := isR U) ?_ ?_
        · exact rdN_all rfl (by rw [isR_len, Nat.mul_one])
        refine Ob.intro (show (U.length + 1) * 1 ≤ 140737488355328 ∧ U.length + 1 ≤ 9223372036854775807 by omega) ?_
        refine hK1 () [] [0, 1, 2, 3, 4, 5, 6, 7, 8, 9, 14, 16, 12] _ ⟨⟨rfl, rfl, rfl, rfl, rfl, rfl, rfl, True.intro⟩, ⟨.inl rfl, .inl rfl, .inl rfl, oS rfl, oS rfl, oM rfl, oM rfl, .inl rfl, .inl ?_, .inl ?_, .inl ?_, .inl ?_, .inl rfl, True.intro⟩, rfl, rfl, rfl⟩
        · rw [e1]
          rfl
        · rw [renO_stR]
          rfl
        · rw [renO_daR, daR_snoc]
          rfl
        · rw [renO_isR, isR_snoc, hb]
          rfl
      refine hK ⟨j + 1, g⟩ [] [0, 1, 2, 3, 4, 5, 6, 7, 8, 9, 10, 11] _ (show sec - j = sec - (j + 1) + 1 by omega) ⟨⟨rfl, rfl, rfl, rfl, rfl, congrArg i64 (wincQ (by omega)), True.intro⟩, ?_, rfl, rfl, rfl⟩
      dsimp only
      rw [hsn]
      refine ⟨.inl rfl, .inl rfl, .inl rfl, oS rfl, oS rfl, oM rfl, oM rfl, .inl rfl, .inl ?_, .inl ?_, .inl ?_, .inl ?_, True.intro⟩
      · rw [← hmx]
        rfl
      · rw [renO_stR]
        rfl
      · rw [renO_daR]
        rfl
      · rw [renO_isR]
        rfl
  · have e6 : j = sec := by have : ¬ (j : Int) < (sec : Int) := h; omega
    subst e6
    generalize uoL w e j = U at *
    subst hlen
    exact endH rfl rfl (frz_sc rfl rfl rfl rfl rfl rfl 5) ⟨.inl rfl, .inl rfl, .inl rfl, .inl rfl, .inl rfl, .inl rfl, .inl rfl, True.intro⟩ (Nat.le_refl 7) (Wd.below _) rfl
def scF11 (A B C D : List Uo) (o : Uo) : Heap := [.row [nilS, nilS, nilS, i64 0], .row [.slc 13 0 A.length 5, .slc 14 0 B.length 1, .slc 15 0 C.length 1, i64 (lfL D : Nat)], .row (stR A), .row (daR B), .row (isR C), .row (s5C (stO o))]
def scE4 (L : List Uo) : Heap := [.row [nilS, nilS, nilS, i64 0], .row [.slc 13 0 L.length 5, .slc 14 0 L.length 1, .slc 15 0 L.length 1, i64 (lfL L : Nat)], .row (stR L), .row (daR L), .row (isR L)]
set_option maxHeartbeats 4000000 in
theorem look_4 {sec : Nat} (w : Wd) (hi : w.is 4 sec) (hs : sec ≤ 1000) (e : Int) : ACalls Tryd.prog 33 [.ptr 0 0, i64 e] w.H (RetH (.agg (scV (uoL w e sec))) w.H) := by
  obtain ⟨o, d0, d1, d2, d3, m0, m1, m2, m3, hw⟩ := tell_4 hi
  rw [show w.H = (Wd.mk o sec [d0, d1, d2, d3] [m0, m1, m2, m3]).H from congrArg Wd.H hw]
  refine acalls_of_awpC [8, 10] hT mixed Tryd.func33 rfl (by kernel_rfl) (by kernel_rfl) (Nat.le_of_ble_eq_true rfl) ?_
  refine callW (cs := [bo o, i64 (sec : Nat), .slc 1 0 4 1, .slc 2 0 4 1]) (rest := []) (secs_ok o (sec : Nat) 4) rfl rfl rfl ?_
  refine loopG (α := { j : Nat // j ≤ sec }) (fun z => [(0, .ptr 0 0), (1, i64 e), (4, .ptr 11 0), (5, .ptr 12 0), (13, i64 (sec : Nat)), (14, i64 (z.val : Nat))]) (fun z => (Wd.mk o sec [d0, d1, d2, d3] [m0, m1, m2, m3]).H ++ scE4 (uoL w e z.val)) [] (fun z => sec - z.val) ⟨0, Nat.zero_le _⟩ [.cell 12 0 5, .cell 12 1 1, .cell 12 2 1] [0, 1, 2, 3, 4, 5, 6, 7, 8, 9, 10, 11, 12, 13, 14, 15] ⟨⟨rfl, rfl, rfl, rfl, rfl, rfl, True.intro⟩, ⟨.inl rfl, .inl rfl, .inl rfl, oS rfl, oS rfl, oS rfl, oS rfl, oM rfl, oM rfl, oM rfl, oM rfl, .inl rfl, .inl rfl, .inl rfl, .inl rfl, .inl rfl, True.intro⟩, rfl, rfl, rfl⟩ ?_
  rintro ⟨j, hj⟩ K hK
  dsimp only at hj ⊢
  have hlen := uoL_len w e j
  have hsn := uoL_succ w e j
  refine forkD (fun h => ?_) (fun h => ?_)
  · have g : j < sec := by have : (j : Int) < (sec : Int) := h; omega
    have cr := readW w hi.ok e (j : Nat)
    generalize (w.read e (j : Nat)).2 = rc at cr
    generalize (w.read e (j : Nat)).1 = rs at cr hsn
    have cu := unp_ok rs
    generalize unp rs = ou at cu hsn
    generalize uoL w e j = U at *
    have hmx : (if ((stO ou).l : Int) > ((lfL U : Nat) : Int) then ((stO ou).l : Int) else ((lfL U : Nat) : Int)) = ((lfL (U ++ [ou]) : Nat) : Int) := by
      rw [lfL_snoc]
      split <;> omega
    have hb1 : isO ou = true ∨ isO ou = false := by cases isO ou <;> simp
    have e1 : (U ++ [ou]).length = U.length + 1 := by rw [List.length_append]; rfl
    rcases hb1 with hb | hb
    · rw [hb] at cu
      refine callU_4 (E := scE4 U) cr hw hw hi rfl rfl ?_
      refine callP cu rfl rfl ?_
      refine cutI (α := Unit) (fun _ => [(0, .ptr 0 0), (1, i64 e), (4, .ptr 11 0), (5, .ptr 12 0), (9, .ptr 16 0), (10, str (daO ou)), (11, i64 (if true = true then 0 else 4)), (13, i64 (sec : Nat)), (14, i64 (j : Nat))]) (fun _ => (Wd.mk o sec [d0, d1, d2, d3] [m0, m1, m2, m3]).H ++ scF11 (U ++ [ou]) U U U ou) [] (fun K1 hK1 => ?_) (fun _ => ?_)
      · clear hK
        refine Ob.intro rfl ?_
        refine optK_intro (a := stR U) ?_ ?_
        · exact rdN_all rfl (by rw [stR_len])
        refine Ob.intro (show (U.length + 1) * 40 ≤ 140737488355328 ∧ U.length + 1 ≤ 9223372036854775807 by omega) ?_
        refine hK1 () [] [0, 1, 2, 3, 4, 5, 6, 7, 8, 9, 10, 11, 12, 18, 14, 15, 16] _ ⟨⟨rfl, rfl, rfl, rfl, rfl, rfl, rfl, rfl, rfl, True.intro⟩, ⟨.inl rfl, .inl rfl, .inl rfl, oS rfl, oS rfl, oS rfl, oS rfl, oM rfl, oM rfl, oM rfl, oM rfl, .inl rfl, .inl ?_, .inl ?_, .inl ?_, .inl ?_, .inl rfl, True.intro⟩, rfl, rfl, rfl⟩
        · rw [e1]
          rfl
        · rw [renO_stR, stR_snoc]
          rfl
        · rw [renO_daR]
          rfl
        · rw [renO_isR]
          rfl
      refine Ob.intro rfl ?_
      refine optK_intro (a := daR U) ?_ ?_
      · exact rdN_all rfl (by rw [daR_len, Nat.mul_one])
      refine Ob.intro (show (U.length + 1) * 16 ≤ 140737488355328 ∧ U.length + 1 ≤ 9223372036854775807 by omega) ?_
      refine cutI (α := Unit) (fun _ => [(0, .ptr 0 0), (1, i64 e), (4, .ptr 11 0), (5, .ptr 12 0), (9, .ptr 16 0), (13, i64 (sec : Nat)), (14, i64 (j : Nat))]) (fun _ => (Wd.mk o sec [d0, d1, d2, d3] [m0, m1, m2, m3]).H ++ scF11 (U ++ [ou]) (U ++ [ou]) (U ++ [ou]) U ou) [] (fun K1 hK1 => ?_) (fun _ => ?_)
      · clear hK
        refine Ob.intro rfl ?_
        refine optK_intro (a := isR U) ?_ ?_
        · exact rdN_all rfl (by rw [isR_len, Nat.mul_one])
        refine Ob.intro (show (U.length + 1) * 1 ≤ 140737488355328 ∧ U.length + 1 ≤ 9223372036854775807 by omega) ?_
        refine hK1 () [] [0, 1, 2, 3, 4, 5, 6, 7, 8, 9, 10, 11, 12, 13, 18, 20, 16] _ ⟨⟨rfl, rfl, rfl, rfl, rfl, rfl, rfl, True.intro⟩, ⟨.inl rfl, .inl rfl, .inl rfl, oS rfl, oS rfl, oS rfl, oS rfl, oM rfl, oM rfl, oM rfl, oM rfl, .inl rfl, .inl ?_, .inl ?_, .inl ?_, .inl ?_, .inl rfl, True.intro⟩, rfl, rfl, rfl⟩
        · rw [e1]
          rfl
        · rw [renO_stR]
          rfl
        · rw [renO_daR, daR_snoc]
          rfl
        · rw [renO_isR, isR_snoc, hb]
          rfl
      refine hK ⟨j + 1, g⟩ [] [0, 1, 2, 3, 4, 5, 6, 7, 8, 9, 10, 11, 12, 13, 14, 15] _ (show sec - j = sec - (j + 1) + 1 by omega) ⟨⟨rfl, rfl, rfl, rfl, rfl, congrArg i64 (wincQ (by omega)), True.intro⟩, ?_, rfl, rfl, rfl⟩
      dsimp only
      rw [hsn]
      refine ⟨.inl rfl, .inl rfl, .inl rfl, oS rfl, oS rfl, oS rfl, oS rfl, oM rfl, oM rfl, oM rfl, oM rfl, .inl rfl, .inl ?_, .inl ?_, .inl ?_, .inl ?_, True.intro⟩
      · rw [← hmx]
        rfl
      · rw [renO_stR]
        rfl
      · rw [renO_daR]
        rfl
      · rw [renO_isR]
        rfl
    · rw [hb] at cu
      refine callU_4 (E := scE4 U) cr hw hw hi rfl rfl ?_
      refine callP cu rfl rfl ?_
      refine cutI (α := Unit) (fun _ => [(0, .ptr 0 0), (1, i64 e), (4, .ptr 11 0), (5, .ptr 12 0), (9, .ptr 16 0), (10, str (daO ou)), (11, i64 (if false = true then 0 else 4)), (13, i64 (sec : Nat)), (14, i64 (j : Nat))]) (fun _ => (Wd.mk o sec [d0, d1, d2, d3] [m0, m1, m2, m3]).H ++ scF11 (U ++ [ou]) U U U ou) [] (fun K1 hK1 => ?_) (fun _ => ?_)
      · clear hK
        refine Ob.intro rfl ?_
        refine optK_intro (a := stR U) ?_ ?_
        · exact rdN_all rfl (by rw [stR_len])
        refine Ob.intro (show (U.length + 1) * 40 ≤ 140737488355328 ∧ U.length + 1 ≤ 9223372036854775807 by omega) ?_
        refine hK1 () [] [0, 1, 2, 3, 4, 5, 6, 7, 8, 9, 10, 11, 12, 18, 14, 15, 16] _ ⟨⟨rfl, rfl, rfl, rfl, rfl, rfl, rfl, rfl, rfl, True.intro⟩, ⟨.inl rfl, .inl rfl, .inl rfl, oS rfl, oS rfl, oS rfl, oS rfl, oM rfl, oM rfl, oM rfl, oM rfl, .inl rfl, .inl ?_, .inl ?_, .inl ?_, .inl ?_, .inl rfl, True.intro⟩, rfl, rfl, rfl⟩
        · rw [e1]
          rfl
        · rw [renO_stR, stR_snoc]
          rfl
        · rw [renO_daR]
          rfl
        · rw [renO_isR]
          rfl
      refine Ob.intro rfl ?_
      refine optK_intro (a := daR U) ?_ ?_
      · exact rdN_all rfl (by rw [daR_len, Nat.mul_one])
      refine Ob.intro (show (U.length + 1) * 16 ≤ 140737488355328 ∧ U.length + 1 ≤ 9223372036854775807 by omega) ?_
      refine cutI (α := Unit) (fun _ => [(0, .ptr 0 0), (1, i64 e), (4, .ptr 11 0), (5, .ptr 12 0), (9, .ptr 16 0), (13, i64 (sec : Nat)), (14, i64 (j : Nat))]) (fun _ => (Wd.mk o sec [d0, d1, d2, d3] [m0, m1, m2, m3]).H ++ scF11 (U ++ [ou]) (U ++ [ou]) (U ++ [ou]) U ou) [] (fun K1 hK1 => ?_) (fun _ => ?_)
      · clear hK
        refine Ob.intro rfl ?_
        refine optK_intro (a := isR U) ?_ ?_
        · exact rdN_all rfl (by rw [isR_len, Nat.mul_one])
        refine Ob.intro (show (U.length + 1) * 1 ≤ 140737488355328 ∧ U.length + 1 ≤ 9223372036854775807 by omega) ?_
        refine hK1 () [] [0, 1, 2, 3, 4, 5, 6, 7, 8, 9, 10, 11, 12, 13, 18, 20, 16] _ ⟨⟨rfl, rfl, rfl, rfl, rfl, rfl, rfl, True.intro⟩, ⟨.inl rfl, .inl rfl, .inl rfl, oS rfl, oS rfl, oS rfl, oS rfl, oM rfl, oM rfl, oM rfl, oM rfl, .inl rfl, .inl ?_, .inl ?_, .inl ?_, .inl ?_, .inl rfl, True.intro⟩, rfl, rfl, rfl⟩
        · rw [e1]
          rfl
        · rw [renO_stR]
          rfl
        · rw [renO_daR, daR_snoc]
          rfl
        · rw [renO_isR, isR_snoc, hb]
          rfl
      refine hK ⟨j + 1, g⟩ [] [0, 1, 2, 3, 4, 5, 6, 7, 8, 9, 10, 11, 12, 13, 14, 15] _ (show sec - j = sec - (j + 1) + 1 by omega) ⟨⟨rfl, rfl, rfl, rfl, rfl, congrArg i64 (wincQ (by omega)), True.intro⟩, ?_, rfl, rfl, rfl⟩
      dsimp only
      rw [hsn]
      refine ⟨.inl rfl, .inl rfl, .inl rfl, oS rfl, oS rfl, oS rfl, oS rfl, oM rfl, oM rfl, oM rfl, oM rfl, .inl rfl, .inl ?_, .inl ?_, .inl ?_, .inl ?_, True.intro⟩
      · rw [← hmx]
        rfl
      · rw [renO_stR]
        rfl
      · rw [renO_daR]
        rfl
      · rw [renO_isR]
        rfl
  · have e6 : j = sec := by have : ¬ (j : Int) < (sec : Int) := h; omega
    subst e6
    generalize uoL w e j = U at *
    subst hlen
    exact endH rfl rfl (frz_sc rfl rfl rfl rfl rfl rfl 5) ⟨.inl rfl, .inl rfl, .inl rfl, .inl rfl, .inl rfl, .inl rfl, .inl rfl, .inl rfl, .inl rfl, .inl rfl, .inl rfl, True.intro⟩ (Nat.le_refl 11) (Wd.below _) rfl
end Go.Proofs.YthbncljlclcecaaDoor.A
