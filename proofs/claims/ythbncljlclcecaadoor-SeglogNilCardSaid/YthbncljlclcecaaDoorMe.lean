/- seglog: Open, by what a look's records are (printed by genopen.py). No condition. -/
import Derived.Test.YthbncljlclcecaaDoorMd
namespace Go.Proofs.YthbncljlclcecaaDoor.A
open Go
set_option linter.unusedVariables false
set_option linter.unusedSimpArgs false
set_option maxRecDepth 100000
set_option pp.maxSteps 600
abbrev dlMe2a : List Nat := [0, 0, 0, 0, 0, 0, 0, 0, 0, 0, 0, 0, 0, 0, 0, 0, 0]
abbrev dlMe2b : List (List Nat) := [[], [0], [0, 1], [0, 1, 2], [0, 1, 2, 3], [0, 1, 2, 3, 4], [0, 1, 2, 3, 4, 5], [0, 1, 2, 3, 4, 5, 6], [0, 1, 2, 3, 4, 5, 6, 7], [0, 1, 2, 3, 4, 5, 6, 7, 8], [0, 1, 2, 3, 4, 5, 6, 7, 8, 9], [0, 1, 2, 3, 4, 5], [0, 1, 2, 3, 4, 5, 11], [0, 1, 2, 3, 4, 5, 11, 12], [0, 1, 2, 3, 4, 5, 11, 12, 13], [0, 1, 2, 3, 4, 5, 6, 7, 8, 9, 10, 11, 12, 13, 14], [0, 1, 2, 3, 4, 5, 6, 7, 8, 9, 10, 11, 12, 13, 14, 15]]
abbrev dlMe2c : List Nat := [0, 0, 0, 0, 0, 0, 0, 0, 0, 0, 0, 0, 0, 0, 0, 0, 0]
abbrev dlMe2d : List Nat := []
abbrev dlMe2e : List (List Nat) := [[10], [56], [57], [58], [59], [60], [10, 61], [62, 61], [63, 61], [64, 61], [65, 61], [7, 61], [67, 61], [68, 61], [69, 61], [66, 70, 61], [61, 71]]
abbrev dlMe1a : List Nat := [0, 0, 0, 0, 0, 0, 0, 0, 0, 0, 1]
abbrev dlMe1b : List (List Nat) := [[], [], [1], [1, 2], [1, 2, 3], [], [5], [1, 2, 3, 4, 5, 6], [0, 1, 2, 3, 4, 5, 6, 7], [0, 1, 2, 3, 4, 5, 6, 7, 8], [0, 1, 2, 3, 4, 5, 6, 7, 8, 9]]
abbrev dlMe1c : List Nat := [0, 0, 0, 0, 0, 0, 0, 0, 0, 0, 0]
abbrev dlMe1d : List Nat := [10]
abbrev dlMe1e : List (List Nat) := [[7], [7], [47], [48], [49], [10], [51], [50, 52], [46], [54], [55, 53]]
/-- What is known of the log on the way: the extent, the generation, what is used, the greatest life, the records. -/
structure Op where
  at_ : Nat
  gen : Nat
  used : Nat
  life : Nat
  b : Option (List ByteArray)
def bestV (b : Option (List ByteArray)) : AV :=
  match b with
  | none => nilS
  | some L => txV L
/-- What stands first. -/
def hdO (U : List Uo) : Uo := (U.head?).getD none
def opStep (U : List Uo) (R : List ByteArray) (u e : Nat) (s : Op) : Op :=
  if isO (hdO U) = true ∧ s.gen < (stO (hdO U)).g ∧ 0 < u then ⟨e, (stO (hdO U)).g, u, max s.life (lfL U), some R⟩ else ⟨s.at_, s.gen, s.used, max s.life (lfL U), s.b⟩
def opLg (first : Nat) (s : Op) : Lg := ⟨first, s.at_, s.gen, s.used, s.life⟩
/-- Behind so many extents. -/
noncomputable def opN (w : Wd) (sec first : Nat) (R : Nat → List ByteArray) (u : Nat → Nat) : Nat → Op
  | 0 => ⟨first + 1, 0, 0, 0, none⟩
  | k + 1 => opStep (uoL w (first + k : Nat) sec) (R (first + k)) (u (first + k)) (first + k) (opN w sec first R u k)
theorem s5_lt {s : ByteArray} : (stO (unp s)).l ≤ 2147483647 ∧ (stO (unp s)).g ≤ 2147483647 := by
  by_cases h : ∃ m, OkU s m
  · obtain ⟨m, o⟩ := h
    rw [unp_yes o]
    obtain ⟨⟨_, h1⟩, ⟨_, h2⟩, _⟩ := o.hR
    dsimp only at h1 h2
    show gU s 7 11 ≤ _ ∧ gU s 1 5 ≤ _
    omega
  · rw [unp_no h]
    exact ⟨Nat.zero_le _, Nat.zero_le _⟩
theorem lfL_lt : ∀ {U : List Uo}, (∀ x ∈ U, (stO x).l ≤ 2147483647) → lfL U ≤ 2147483647 := by
  intro U h
  unfold lfL
  have key : ∀ (U : List Uo) (m : Nat), m ≤ 2147483647 → (∀ x ∈ U, (stO x).l ≤ 2147483647) → U.foldl (fun m o => max m (stO o).l) m ≤ 2147483647 := by
    intro U
    induction U with
    | nil => intro m hm _; exact hm
    | cons x U ih =>
      intro m hm h
      exact ih _ (Nat.max_le.2 ⟨hm, h x (List.mem_cons_self ..)⟩) (fun y hy => h y (List.mem_cons_of_mem _ hy))
  exact key U 0 (Nat.zero_le _) h
theorem uoL_life (w : Wd) (e : Int) (j : Nat) : lfL (uoL w e j) ≤ 2147483647 := lfL_lt fun x hx => by
  unfold uoL at hx
  obtain ⟨k, _, rfl⟩ := List.mem_map.1 hx
  exact s5_lt.1
theorem opN_life (w : Wd) (sec first : Nat) (R : Nat → List ByteArray) (u : Nat → Nat) : ∀ k, (opN w sec first R u k).life ≤ 2147483647
  | 0 => Nat.zero_le _
  | k + 1 => by
    show (opStep _ _ _ _ _).life ≤ _
    unfold opStep
    split <;> exact Nat.max_le.2 ⟨opN_life w sec first R u k, uoL_life ..⟩
theorem log_below (w : Wd) (G : Lg) (wr : AV) (hw : ∀ N, A.below N wr = true) : belowH (w.H ++ [AObj.row (AV.ptr 0 0 :: lgC G wr)]).length (w.H ++ [AObj.row (AV.ptr 0 0 :: lgC G wr)]) = true := by
  have hl : (w.H ++ [AObj.row (AV.ptr 0 0 :: lgC G wr)]).length = w.H.length + 1 := by rw [List.length_append]; rfl
  rw [hl]
  refine belowH_app _ _ _ (w.belowN _ (by rw [w.H_len]; omega)) ?_
  show (belowL _ (AV.ptr 0 0 :: lgC G wr) && true) = true
  unfold lgC
  simp only [belowL, A.below, Bool.and_true, Bool.and_eq_true]
  exact ⟨blt_of (by omega), rfl, rfl, rfl, rfl, rfl, hw _⟩
theorem imax (a b : Nat) : (if (b : Int) > (a : Int) then (b : Int) else (a : Int)) = ((max a b : Nat) : Int) := by split <;> omega

set_option maxHeartbeats 4000000 in
theorem open_2 {sec : Nat} (w : Wd) (hi : w.is 2 sec) (hs1 : 1 ≤ sec) (hs : sec ≤ 1000) (ho : w.off = false) (first : Nat) (hf : first + 1 < 2) (R : Nat → List ByteArray) (u : Nat → Nat) (hu : ∀ e, u e ≤ sec)
    (hrec : ∀ e, isO (hdO (uoL w (e : Nat) sec)) = true → ACalls Tryd.prog 34 [.agg (scV (uoL w (e : Nat) sec))] [] (Ret (.tup [txV (R e), i64 (u e : Nat)]))) :
    ACalls Tryd.prog 12 [.ptr 0 0, i64 (first : Nat)] w.H (RetH (.tup [.ptr 7 0, bestV (opN w sec first R u 2).b, i64 0]) (w.H ++ [AObj.row (AV.ptr 0 0 :: lgC (opLg first ⟨(opN w sec first R u 2).at_, (opN w sec first R u 2).gen, (opN w sec first R u 2).used, (opN w sec first R u 2).life + 1, none⟩) (.sc (.pointer none)))])) := by
  obtain ⟨o, d0, d1, m0, m1, hw⟩ := tell_2 hi
  rw [show w.H = (Wd.mk o sec [d0, d1] [m0, m1]).H from congrArg Wd.H hw]
  have ho' : o = false := by rw [hw] at ho; exact ho
  subst ho'
  have wf1 : wrp .i64 ((first : Int) + 1) = ((first + 1 : Nat) : Int) := wincQ (by omega)
  refine acalls_of_awp hT mixed Tryd.func12 rfl (by kernel_rfl) (by kernel_rfl) (Nat.le_of_ble_eq_true rfl) ?_
  refine callW (cs := [bo false, i64 (sec : Nat), .slc 1 0 2 1, .slc 2 0 2 1]) (rest := []) (on_ok false (sec : Nat) 2) rfl rfl rfl ?_
  refine callW (cs := [bo false, i64 (sec : Nat), .slc 1 0 2 1, .slc 2 0 2 1]) (rest := []) (exts_ok false (sec : Nat) 2) rfl rfl rfl ?_
  have hwn : wrp .i64 (((2 : Nat) : Int) - 1) = ((2 : Nat) : Int) - 1 := by rw [wrpE, wi64]; omega
  refine forkD (fun h => ?_) (fun _ => ?_)
  · rw [hwn] at h
    exact absurd h (by omega)
  refine loopI (α := { k : Nat // k ≤ 2 }) (fun z => [(0, .ptr 0 0), (1, i64 (first : Nat)), (7, .ptr 7 0), (8, bestV (opN w sec first R u z.val).b), (9, i64 ((first + z.val : Nat) : Nat))]) (fun z => (Wd.mk false sec [d0, d1] [m0, m1]).H ++ [AObj.row (AV.ptr 0 0 :: lgC (opLg first (opN w sec first R u z.val)) (.sc (.pointer none)))]) (fun z => 2 - z.val) ⟨0, Nat.zero_le _⟩ [0, 1, 2, 3, 4, 5, 6, 7] ⟨⟨rfl, rfl, rfl, rfl, rfl, True.intro⟩, ⟨.inl rfl, .inl rfl, .inl rfl, oS rfl, oS rfl, oM rfl, oM rfl, .inl ?_, True.intro⟩, rfl, rfl, rfl⟩ ?_
  · rw [wf1]
    rfl
  rintro ⟨k, hk⟩ K hK
  dsimp only at hk ⊢
  have hlf := opN_life w sec first R u k
  refine forkD (fun h => ?_) (fun h => ?_)
  · rw [wf1] at h
    have g : k < 2 := by have : ((first + k : Nat) : Int) ≤ ((first + 1 : Nat) : Int) := h; omega
    have cl := look_2 w hi hs ((first + k : Nat) : Nat)
    have hr := hrec (first + k)
    have hn : opN w sec first R u (k + 1) = opStep (uoL w (first + k : Nat) sec) (R (first + k)) (u (first + k)) (first + k) (opN w sec first R u k) := rfl
    have hUl := uoL_len w (first + k : Nat) sec
    have huk := hu (first + k)
    have hl2 := uoL_life w (first + k : Nat) sec
    generalize opN w sec first R u k = S at *
    obtain ⟨sa, sg, su, sl, sb⟩ := S
    generalize uoL w ((first + k : Nat) : Int) sec = U at *
    generalize R (first + k) = rs at *
    generalize u (first + k) = us at *
    obtain ⟨x, U, rfl⟩ : ∃ x V, U = x :: V := by
      cases U with
      | nil => rw [List.length_nil] at hUl; omega
      | cons x V => exact ⟨x, V, rfl⟩
    have hb0 : (0 : Int) ≤ 0 ∧ (0 : Int) < (((x :: U).length : Nat) : Int) := by rw [List.length_cons]; omega
    have hmax := imax sl (lfL (x :: U))
    have wk : wrp .i64 (((first + k : Nat) : Int) + 1) = ((first + (k + 1) : Nat) : Int) := wincQ (by omega)
    rcases x with _ | ⟨y, da⟩
    · have hn2 : opN w sec first R u (k + 1) = ⟨sa, sg, su, max sl (lfL (none :: U)), sb⟩ := by
        rw [hn]
        unfold opStep
        rw [if_neg (fun h => by cases h.1)]
      cases sb <;>
      · refine callU_2 (E := [AObj.row (AV.ptr 0 0 :: lgC (opLg first ⟨sa, sg, su, sl, _⟩) (.sc (.pointer none)))]) cl hw hw hi rfl rfl ?_
        refine ⟨dlMe1a, dlMe1b, dlMe1c, dlMe1d, dlMe1e, Ob.intro (by kernel_rfl) ?_⟩
        repeat refine same ?_
        refine ⟨dlMe2a, dlMe2b, dlMe2c, dlMe2d, dlMe2e, Ob.intro (by kernel_rfl) ?_⟩
        repeat first | refine same ?_ | refine Ob.intro hb0 ?_
        refine hK ⟨k + 1, g⟩ [0, 1, 2, 3, 4, 5, 6, 7] _ (show 2 - k = 2 - (k + 1) + 1 by omega) ⟨⟨rfl, rfl, rfl, ?_, congrArg i64 wk, True.intro⟩, ⟨.inl rfl, .inl rfl, .inl rfl, oS rfl, oS rfl, oM rfl, oM rfl, .inl ?_, True.intro⟩, rfl, rfl, rfl⟩
        · dsimp only
          rw [hn2]
          rfl
        · dsimp only
          rw [hn2]
          exact congrArg (fun z : Int => some (AObj.row (AV.ptr 0 0 :: [i64 (first : Nat), i64 (sa : Nat), i64 (sg : Nat), i64 (su : Nat), i64 z, .sc (.pointer none)]))) hmax
    · by_cases hg : sg < y.g
      · have hr := hr rfl
        by_cases hu0 : 0 < us
        · have hn2 : opN w sec first R u (k + 1) = ⟨first + k, y.g, us, max sl (lfL (some (y, da) :: U)), some rs⟩ := by
            rw [hn]
            unfold opStep
            rw [if_pos ⟨rfl, hg, hu0⟩]
            rfl
          cases sb <;>
          · refine callU_2 (E := [AObj.row (AV.ptr 0 0 :: lgC (opLg first ⟨sa, sg, su, sl, _⟩) (.sc (.pointer none)))]) cl hw hw hi rfl rfl ?_
            refine ⟨dlMe1a, dlMe1b, dlMe1c, dlMe1d, dlMe1e, Ob.intro (by kernel_rfl) ?_⟩
            repeat refine same ?_
            refine ⟨dlMe2a, dlMe2b, dlMe2c, dlMe2d, dlMe2e, Ob.intro (by kernel_rfl) ?_⟩
            repeat first | refine same ?_ | refine Ob.intro hb0 ?_
            refine forkD (fun h => absurd (show ((y.g : Nat) : Int) ≤ (sg : Nat) from h) (by omega)) (fun _ => ?_)
            repeat first | refine same ?_ | refine Ob.intro hb0 ?_
            refine callP hr rfl rfl ?_
            refine forkD (fun _ => ?_) (fun h => absurd (show ((us : Nat) : Int) > 0 by omega) h)
            repeat first | refine same ?_ | refine Ob.intro hb0 ?_
            refine hK ⟨k + 1, g⟩ [0, 1, 2, 3, 4, 5, 6, 7] _ (show 2 - k = 2 - (k + 1) + 1 by omega) ⟨⟨rfl, rfl, rfl, ?_, congrArg i64 wk, True.intro⟩, ⟨.inl rfl, .inl rfl, .inl rfl, oS rfl, oS rfl, oM rfl, oM rfl, .inl ?_, True.intro⟩, rfl, rfl, rfl⟩
            · dsimp only
              rw [hn2]
              rfl
            · dsimp only
              rw [hn2]
              exact congrArg (fun z : Int => some (AObj.row (AV.ptr 0 0 :: [i64 (first : Nat), i64 ((first + k) : Nat), i64 (y.g : Nat), i64 (us : Nat), i64 z, .sc (.pointer none)]))) hmax
        · have hn2 : opN w sec first R u (k + 1) = ⟨sa, sg, su, max sl (lfL (some (y, da) :: U)), sb⟩ := by
            rw [hn]
            unfold opStep
            rw [if_neg (fun h => hu0 h.2.2)]
          cases sb <;>
          · refine callU_2 (E := [AObj.row (AV.ptr 0 0 :: lgC (opLg first ⟨sa, sg, su, sl, _⟩) (.sc (.pointer none)))]) cl hw hw hi rfl rfl ?_
            refine ⟨dlMe1a, dlMe1b, dlMe1c, dlMe1d, dlMe1e, Ob.intro (by kernel_rfl) ?_⟩
            repeat refine same ?_
            refine ⟨dlMe2a, dlMe2b, dlMe2c, dlMe2d, dlMe2e, Ob.intro (by kernel_rfl) ?_⟩
            repeat first | refine same ?_ | refine Ob.intro hb0 ?_
            refine forkD (fun h => absurd (show ((y.g : Nat) : Int) ≤ (sg : Nat) from h) (by omega)) (fun _ => ?_)
            repeat first | refine same ?_ | refine Ob.intro hb0 ?_
            refine callP hr rfl rfl ?_
            refine forkD (fun h => absurd (show ((us : Nat) : Int) > 0 from h) (by omega)) (fun _ => ?_)
            repeat first | refine same ?_ | refine Ob.intro hb0 ?_
            refine hK ⟨k + 1, g⟩ [0, 1, 2, 3, 4, 5, 6, 7] _ (show 2 - k = 2 - (k + 1) + 1 by omega) ⟨⟨rfl, rfl, rfl, ?_, congrArg i64 wk, True.intro⟩, ⟨.inl rfl, .inl rfl, .inl rfl, oS rfl, oS rfl, oM rfl, oM rfl, .inl ?_, True.intro⟩, rfl, rfl, rfl⟩
            · dsimp only
              rw [hn2]
              rfl
            · dsimp only
              rw [hn2]
              exact congrArg (fun z : Int => some (AObj.row (AV.ptr 0 0 :: [i64 (first : Nat), i64 (sa : Nat), i64 (sg : Nat), i64 (su : Nat), i64 z, .sc (.pointer none)]))) hmax
      · have hn2 : opN w sec first R u (k + 1) = ⟨sa, sg, su, max sl (lfL (some (y, da) :: U)), sb⟩ := by
          rw [hn]
          unfold opStep
          rw [if_neg (fun h => hg h.2.1)]
        cases sb <;>
        · refine callU_2 (E := [AObj.row (AV.ptr 0 0 :: lgC (opLg first ⟨sa, sg, su, sl, _⟩) (.sc (.pointer none)))]) cl hw hw hi rfl rfl ?_
          refine ⟨dlMe1a, dlMe1b, dlMe1c, dlMe1d, dlMe1e, Ob.intro (by kernel_rfl) ?_⟩
          repeat refine same ?_
          refine ⟨dlMe2a, dlMe2b, dlMe2c, dlMe2d, dlMe2e, Ob.intro (by kernel_rfl) ?_⟩
          repeat first | refine same ?_ | refine Ob.intro hb0 ?_
          refine forkD (fun _ => ?_) (fun h => absurd (show ((y.g : Nat) : Int) ≤ (sg : Nat) by omega) h)
          repeat first | refine same ?_ | refine Ob.intro hb0 ?_
          refine hK ⟨k + 1, g⟩ [0, 1, 2, 3, 4, 5, 6, 7] _ (show 2 - k = 2 - (k + 1) + 1 by omega) ⟨⟨rfl, rfl, rfl, ?_, congrArg i64 wk, True.intro⟩, ⟨.inl rfl, .inl rfl, .inl rfl, oS rfl, oS rfl, oM rfl, oM rfl, .inl ?_, True.intro⟩, rfl, rfl, rfl⟩
          · dsimp only
            rw [hn2]
            rfl
          · dsimp only
            rw [hn2]
            exact congrArg (fun z : Int => some (AObj.row (AV.ptr 0 0 :: [i64 (first : Nat), i64 (sa : Nat), i64 (sg : Nat), i64 (su : Nat), i64 z, .sc (.pointer none)]))) hmax
  · rw [wf1] at h
    have g : k = 2 := by have : ¬ ((first + k : Nat) : Int) ≤ ((first + 1 : Nat) : Int) := h; omega
    subst g
    generalize opN w sec first R u 2 = S at *
    obtain ⟨sa, sg, su, sl, sb⟩ := S
    have wl : wrp .i64 ((sl : Int) + 1) = ((sl + 1 : Nat) : Int) := by rw [wrpE, wi64]; dsimp only at hlf; omega
    have hbl : belowH (Wd.mk false sec [d0, d1] [m0, m1]).H.length (Wd.mk false sec [d0, d1] [m0, m1]).H = true := Wd.below _
    cases sb <;>
    · refine endH rfl rfl rfl ⟨.inl rfl, .inl rfl, .inl rfl, .inl rfl, .inl rfl, .inl rfl, .inl rfl, .inl ?_, True.intro⟩ (Nat.le_of_ble_eq_true rfl) (log_below _ _ _ (fun _ => rfl)) rfl
      exact congrArg (fun z : Int => AObj.row (AV.ptr 0 0 :: [i64 (first : Nat), i64 (sa : Nat), i64 (sg : Nat), i64 (su : Nat), i64 z, .sc (.pointer none)])) wl.symm
set_option maxHeartbeats 4000000 in
theorem open_4 {sec : Nat} (w : Wd) (hi : w.is 4 sec) (hs1 : 1 ≤ sec) (hs : sec ≤ 1000) (ho : w.off = false) (first : Nat) (hf : first + 1 < 4) (R : Nat → List ByteArray) (u : Nat → Nat) (hu : ∀ e, u e ≤ sec)
    (hrec : ∀ e, isO (hdO (uoL w (e : Nat) sec)) = true → ACalls Tryd.prog 34 [.agg (scV (uoL w (e : Nat) sec))] [] (Ret (.tup [txV (R e), i64 (u e : Nat)]))) :
    ACalls Tryd.prog 12 [.ptr 0 0, i64 (first : Nat)] w.H (RetH (.tup [.ptr 11 0, bestV (opN w sec first R u 2).b, i64 0]) (w.H ++ [AObj.row (AV.ptr 0 0 :: lgC (opLg first ⟨(opN w sec first R u 2).at_, (opN w sec first R u 2).gen, (opN w sec first R u 2).used, (opN w sec first R u 2).life + 1, none⟩) (.sc (.pointer none)))])) := by
  obtain ⟨o, d0, d1, d2, d3, m0, m1, m2, m3, hw⟩ := tell_4 hi
  rw [show w.H = (Wd.mk o sec [d0, d1, d2, d3] [m0, m1, m2, m3]).H from congrArg Wd.H hw]
  have ho' : o = false := by rw [hw] at ho; exact ho
  subst ho'
  have wf1 : wrp .i64 ((first : Int) + 1) = ((first + 1 : Nat) : Int) := wincQ (by omega)
  refine acalls_of_awp hT mixed Tryd.func12 rfl (by kernel_rfl) (by kernel_rfl) (Nat.le_of_ble_eq_true rfl) ?_
  refine callW (cs := [bo false, i64 (sec : Nat), .slc 1 0 4 1, .slc 2 0 4 1]) (rest := []) (on_ok false (sec : Nat) 4) rfl rfl rfl ?_
  refine callW (cs := [bo false, i64 (sec : Nat), .slc 1 0 4 1, .slc 2 0 4 1]) (rest := []) (exts_ok false (sec : Nat) 4) rfl rfl rfl ?_
  have hwn : wrp .i64 (((4 : Nat) : Int) - 1) = ((4 : Nat) : Int) - 1 := by rw [wrpE, wi64]; omega
  refine forkD (fun h => ?_) (fun _ => ?_)
  · rw [hwn] at h
    exact absurd h (by omega)
  refine loopI (α := { k : Nat // k ≤ 2 }) (fun z => [(0, .ptr 0 0), (1, i64 (first : Nat)), (7, .ptr 11 0), (8, bestV (opN w sec first R u z.val).b), (9, i64 ((first + z.val : Nat) : Nat))]) (fun z => (Wd.mk false sec [d0, d1, d2, d3] [m0, m1, m2, m3]).H ++ [AObj.row (AV.ptr 0 0 :: lgC (opLg first (opN w sec first R u z.val)) (.sc (.pointer none)))]) (fun z => 2 - z.val) ⟨0, Nat.zero_le _⟩ [0, 1, 2, 3, 4, 5, 6, 7, 8, 9, 10, 11] ⟨⟨rfl, rfl, rfl, rfl, rfl, True.intro⟩, ⟨.inl rfl, .inl rfl, .inl rfl, oS rfl, oS rfl, oS rfl, oS rfl, oM rfl, oM rfl, oM rfl, oM rfl, .inl ?_, True.intro⟩, rfl, rfl, rfl⟩ ?_
  · rw [wf1]
    rfl
  rintro ⟨k, hk⟩ K hK
  dsimp only at hk ⊢
  have hlf := opN_life w sec first R u k
  refine forkD (fun h => ?_) (fun h => ?_)
  · rw [wf1] at h
    have g : k < 2 := by have : ((first + k : Nat) : Int) ≤ ((first + 1 : Nat) : Int) := h; omega
    have cl := look_4 w hi hs ((first + k : Nat) : Nat)
    have hr := hrec (first + k)
    have hn : opN w sec first R u (k + 1) = opStep (uoL w (first + k : Nat) sec) (R (first + k)) (u (first + k)) (first + k) (opN w sec first R u k) := rfl
    have hUl := uoL_len w (first + k : Nat) sec
    have huk := hu (first + k)
    have hl2 := uoL_life w (first + k : Nat) sec
    generalize opN w sec first R u k = S at *
    obtain ⟨sa, sg, su, sl, sb⟩ := S
    generalize uoL w ((first + k : Nat) : Int) sec = U at *
    generalize R (first + k) = rs at *
    generalize u (first + k) = us at *
    obtain ⟨x, U, rfl⟩ : ∃ x V, U = x :: V := by
      cases U with
      | nil => rw [List.length_nil] at hUl; omega
      | cons x V => exact ⟨x, V, rfl⟩
    have hb0 : (0 : Int) ≤ 0 ∧ (0 : Int) < (((x :: U).length : Nat) : Int) := by rw [List.length_cons]; omega
    have hmax := imax sl (lfL (x :: U))
    have wk : wrp .i64 (((first + k : Nat) : Int) + 1) = ((first + (k + 1) : Nat) : Int) := wincQ (by omega)
    rcases x with _ | ⟨y, da⟩
    · have hn2 : opN w sec first R u (k + 1) = ⟨sa, sg, su, max sl (lfL (none :: U)), sb⟩ := by
        rw [hn]
        unfold opStep
        rw [if_neg (fun h => by cases h.1)]
      cases sb <;>
      · refine callU_4 (E := [AObj.row (AV.ptr 0 0 :: lgC (opLg first ⟨sa, sg, su, sl, _⟩) (.sc (.pointer none)))]) cl hw hw hi rfl rfl ?_
        refine ⟨dlMe1a, dlMe1b, dlMe1c, dlMe1d, dlMe1e, Ob.intro (by kernel_rfl) ?_⟩
        repeat refine same ?_
        refine ⟨dlMe2a, dlMe2b, dlMe2c, dlMe2d, dlMe2e, Ob.intro (by kernel_rfl) ?_⟩
        repeat first | refine same ?_ | refine Ob.intro hb0 ?_
        refine hK ⟨k + 1, g⟩ [0, 1, 2, 3, 4, 5, 6, 7, 8, 9, 10, 11] _ (show 2 - k = 2 - (k + 1) + 1 by omega) ⟨⟨rfl, rfl, rfl, ?_, congrArg i64 wk, True.intro⟩, ⟨.inl rfl, .inl rfl, .inl rfl, oS rfl, oS rfl, oS rfl, oS rfl, oM rfl, oM rfl, oM rfl, oM rfl, .inl ?_, True.intro⟩, rfl, rfl, rfl⟩
        · dsimp only
          rw [hn2]
          rfl
        · dsimp only
          rw [hn2]
          exact congrArg (fun z : Int => some (AObj.row (AV.ptr 0 0 :: [i64 (first : Nat), i64 (sa : Nat), i64 (sg : Nat), i64 (su : Nat), i64 z, .sc (.pointer none)]))) hmax
    · by_cases hg : sg < y.g
      · have hr := hr rfl
        by_cases hu0 : 0 < us
        · have hn2 : opN w sec first R u (k + 1) = ⟨first + k, y.g, us, max sl (lfL (some (y, da) :: U)), some rs⟩ := by
            rw [hn]
            unfold opStep
            rw [if_pos ⟨rfl, hg, hu0⟩]
            rfl
          cases sb <;>
          · refine callU_4 (E := [AObj.row (AV.ptr 0 0 :: lgC (opLg first ⟨sa, sg, su, sl, _⟩) (.sc (.pointer none)))]) cl hw hw hi rfl rfl ?_
            refine ⟨dlMe1a, dlMe1b, dlMe1c, dlMe1d, dlMe1e, Ob.intro (by kernel_rfl) ?_⟩
            repeat refine same ?_
            refine ⟨dlMe2a, dlMe2b, dlMe2c, dlMe2d, dlMe2e, Ob.intro (by kernel_rfl) ?_⟩
            repeat first | refine same ?_ | refine Ob.intro hb0 ?_
            refine forkD (fun h => absurd (show ((y.g : Nat) : Int) ≤ (sg : Nat) from h) (by omega)) (fun _ => ?_)
            repeat first | refine same ?_ | refine Ob.intro hb0 ?_
            refine callP hr rfl rfl ?_
            refine forkD (fun _ => ?_) (fun h => absurd (show ((us : Nat) : Int) > 0 by omega) h)
            repeat first | refine same ?_ | refine Ob.intro hb0 ?_
            refine hK ⟨k + 1, g⟩ [0, 1, 2, 3, 4, 5, 6, 7, 8, 9, 10, 11] _ (show 2 - k = 2 - (k + 1) + 1 by omega) ⟨⟨rfl, rfl, rfl, ?_, congrArg i64 wk, True.intro⟩, ⟨.inl rfl, .inl rfl, .inl rfl, oS rfl, oS rfl, oS rfl, oS rfl, oM rfl, oM rfl, oM rfl, oM rfl, .inl ?_, True.intro⟩, rfl, rfl, rfl⟩
            · dsimp only
              rw [hn2]
              rfl
            · dsimp only
              rw [hn2]
              exact congrArg (fun z : Int => some (AObj.row (AV.ptr 0 0 :: [i64 (first : Nat), i64 ((first + k) : Nat), i64 (y.g : Nat), i64 (us : Nat), i64 z, .sc (.pointer none)]))) hmax
        · have hn2 : opN w sec first R u (k + 1) = ⟨sa, sg, su, max sl (lfL (some (y, da) :: U)), sb⟩ := by
            rw [hn]
            unfold opStep
            rw [if_neg (fun h => hu0 h.2.2)]
          cases sb <;>
          · refine callU_4 (E := [AObj.row (AV.ptr 0 0 :: lgC (opLg first ⟨sa, sg, su, sl, _⟩) (.sc (.pointer none)))]) cl hw hw hi rfl rfl ?_
            refine ⟨dlMe1a, dlMe1b, dlMe1c, dlMe1d, dlMe1e, Ob.intro (by kernel_rfl) ?_⟩
            repeat refine same ?_
            refine ⟨dlMe2a, dlMe2b, dlMe2c, dlMe2d, dlMe2e, Ob.intro (by kernel_rfl) ?_⟩
            repeat first | refine same ?_ | refine Ob.intro hb0 ?_
            refine forkD (fun h => absurd (show ((y.g : Nat) : Int) ≤ (sg : Nat) from h) (by omega)) (fun _ => ?_)
            repeat first | refine same ?_ | refine Ob.intro hb0 ?_
            refine callP hr rfl rfl ?_
            refine forkD (fun h => absurd (show ((us : Nat) : Int) > 0 from h) (by omega)) (fun _ => ?_)
            repeat first | refine same ?_ | refine Ob.intro hb0 ?_
            refine hK ⟨k + 1, g⟩ [0, 1, 2, 3, 4, 5, 6, 7, 8, 9, 10, 11] _ (show 2 - k = 2 - (k + 1) + 1 by omega) ⟨⟨rfl, rfl, rfl, ?_, congrArg i64 wk, True.intro⟩, ⟨.inl rfl, .inl rfl, .inl rfl, oS rfl, oS rfl, oS rfl, oS rfl, oM rfl, oM rfl, oM rfl, oM rfl, .inl ?_, True.intro⟩, rfl, rfl, rfl⟩
            · dsimp only
              rw [hn2]
              rfl
            · dsimp only
              rw [hn2]
              exact congrArg (fun z : Int => some (AObj.row (AV.ptr 0 0 :: [i64 (first : Nat), i64 (sa : Nat), i64 (sg : Nat), i64 (su : Nat), i64 z, .sc (.pointer none)]))) hmax
      · have hn2 : opN w sec first R u (k + 1) = ⟨sa, sg, su, max sl (lfL (some (y, da) :: U)), sb⟩ := by
          rw [hn]
          unfold opStep
          rw [if_neg (fun h => hg h.2.1)]
        cases sb <;>
        · refine callU_4 (E := [AObj.row (AV.ptr 0 0 :: lgC (opLg first ⟨sa, sg, su, sl, _⟩) (.sc (.pointer none)))]) cl hw hw hi rfl rfl ?_
          refine ⟨dlMe1a, dlMe1b, dlMe1c, dlMe1d, dlMe1e, Ob.intro (by kernel_rfl) ?_⟩
          repeat refine same ?_
          refine ⟨dlMe2a, dlMe2b, dlMe2c, dlMe2d, dlMe2e, Ob.intro (by kernel_rfl) ?_⟩
          repeat first | refine same ?_ | refine Ob.intro hb0 ?_
          refine forkD (fun _ => ?_) (fun h => absurd (show ((y.g : Nat) : Int) ≤ (sg : Nat) by omega) h)
          repeat first | refine same ?_ | refine Ob.intro hb0 ?_
          refine hK ⟨k + 1, g⟩ [0, 1, 2, 3, 4, 5, 6, 7, 8, 9, 10, 11] _ (show 2 - k = 2 - (k + 1) + 1 by omega) ⟨⟨rfl, rfl, rfl, ?_, congrArg i64 wk, True.intro⟩, ⟨.inl rfl, .inl rfl, .inl rfl, oS rfl, oS rfl, oS rfl, oS rfl, oM rfl, oM rfl, oM rfl, oM rfl, .inl ?_, True.intro⟩, rfl, rfl, rfl⟩
          · dsimp only
            rw [hn2]
            rfl
          · dsimp only
            rw [hn2]
            exact congrArg (fun z : Int => some (AObj.row (AV.ptr 0 0 :: [i64 (first : Nat), i64 (sa : Nat), i64 (sg : Nat), i64 (su : Nat), i64 z, .sc (.pointer none)]))) hmax
  · rw [wf1] at h
    have g : k = 2 := by have : ¬ ((first + k : Nat) : Int) ≤ ((first + 1 : Nat) : Int) := h; omega
    subst g
    generalize opN w sec first R u 2 = S at *
    obtain ⟨sa, sg, su, sl, sb⟩ := S
    have wl : wrp .i64 ((sl : Int) + 1) = ((sl + 1 : Nat) : Int) := by rw [wrpE, wi64]; dsimp only at hlf; omega
    have hbl : belowH (Wd.mk false sec [d0, d1, d2, d3] [m0, m1, m2, m3]).H.length (Wd.mk false sec [d0, d1, d2, d3] [m0, m1, m2, m3]).H = true := Wd.below _
    cases sb <;>
    · refine endH rfl rfl rfl ⟨.inl rfl, .inl rfl, .inl rfl, .inl rfl, .inl rfl, .inl rfl, .inl rfl, .inl rfl, .inl rfl, .inl rfl, .inl rfl, .inl ?_, True.intro⟩ (Nat.le_of_ble_eq_true rfl) (log_below _ _ _ (fun _ => rfl)) rfl
      exact congrArg (fun z : Int => AObj.row (AV.ptr 0 0 :: [i64 (first : Nat), i64 (sa : Nat), i64 (sg : Nat), i64 (su : Nat), i64 z, .sc (.pointer none)])) wl.symm
end Go.Proofs.YthbncljlclcecaaDoor.A
