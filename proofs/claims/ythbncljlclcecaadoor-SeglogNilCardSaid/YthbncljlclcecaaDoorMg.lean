/- seglog: sector, install, Move (printed by genmove.py). No condition. -/
import Derived.Test.YthbncljlclcecaaDoorMf
namespace Go.Proofs.YthbncljlclcecaaDoor.A
open Go
set_option linter.unusedVariables false
set_option linter.unusedSimpArgs false
set_option maxRecDepth 100000
set_option pp.maxSteps 600
abbrev dlMg1a : List Nat := [0, 0, 0, 0, 0, 0, 0, 0, 0, 0, 0]
abbrev dlMg1b : List (List Nat) := [[], [0], [0, 1], [0, 1, 2], [], [4], [4, 5], [4, 5, 6], [4, 5, 6, 7], [0, 1, 2, 3, 4, 5, 6, 7, 8], [0, 1, 2, 3, 4, 5, 6, 7, 8, 9]]
abbrev dlMg1c : List Nat := [0, 0, 0, 0, 0, 0, 0, 0, 0, 0, 0]
abbrev dlMg1d : List Nat := []
abbrev dlMg1e : List (List Nat) := [[0], [16], [17], [18], [0], [20], [21], [22], [23], [19, 24], [25]]
/-- The next sector. -/
def nxT (G : Lg) (X : Wx) (d : ByteArray) : ByteArray := packS X.gen (X.at_ + X.done) G.life X.done X.P.length d
set_option maxHeartbeats 4000000 in
theorem sector_2 {sec : Nat} {G : Lg} {X : Wx} {d : ByteArray} (w : Wd) (hi : w.is 2 sec) (hd : X.P[X.done]? = some d) (hd50 : d.size ≤ 50) (hok : okS ⟨X.gen, (X.at_ + X.done : Nat), G.life, X.done, X.P.length⟩) (h0 : (w.write (X.to_ : Nat) ((X.at_ + X.done : Nat) : Nat) (nxT G X d)).1 = 0) :
    ACalls Tryd.prog 40 [.ptr 8 0] (w.H ++ [lgO G (.ptr 8 0), mwO (.ptr 7 0) X]) (RetH (i64 0) ((w.write (X.to_ : Nat) ((X.at_ + X.done : Nat) : Nat) (nxT G X d)).2.H ++ [lgO G (.ptr 8 0), mwO (.ptr 7 0) X])) := by
  obtain ⟨o, d0, d1, m0, m1, hw⟩ := tell_2 hi
  have hi' := write_is hi (X.to_ : Nat) ((X.at_ + X.done : Nat) : Nat) (nxT G X d)
  have cw := writeW w hi.ok (X.to_ : Nat) ((X.at_ + X.done : Nat) : Nat) (nxT G X d)
  rw [h0] at cw
  have cp := pack_ok X.gen (X.at_ + X.done) G.life X.done X.P.length d hok hd50
  have hix : ((X.at_ + X.done : Nat) : Int) ≤ 127 := hok.2.2.1.2
  have e1 : wrp .i64 ((X.at_ : Int) + (X.done : Int)) = ((X.at_ + X.done : Nat) : Int) := by rw [wrpE, wi64]; omega
  generalize w.write (X.to_ : Nat) ((X.at_ + X.done : Nat) : Nat) (nxT G X d) = ww at *
  obtain ⟨r, w'⟩ := ww
  dsimp only at hi' cw ⊢
  obtain ⟨o', x0, x1, y0, y1, hw'⟩ := tell_2 hi'
  rw [show w.H = (Wd.mk o sec [d0, d1] [m0, m1]).H from congrArg Wd.H hw, show w'.H = (Wd.mk o' sec [x0, x1] [y0, y1]).H from congrArg Wd.H hw']
  rw [← e1] at cp cw
  obtain ⟨to_, gen, at_, P, done, over⟩ := X
  dsimp only at hd hd50 hok cw cp e1 hix
  have hb : (0 : Int) ≤ (done : Nat) ∧ ((done : Nat) : Int) < (P.length : Nat) := by have := (List.getElem?_eq_some_iff.1 hd).1; omega
  refine acalls_of_awp hT mixed Tryd.func40 rfl (by kernel_rfl) (by kernel_rfl) (Nat.le_of_ble_eq_true rfl) ?_
  refine ⟨[0, 0, 0, 0, 0, 0, 0, 0, 0, 0, 0, 0, 0, 0, 0, 0, 0, 0, 0, 0, 0, 0, 0, 0, 0, 0, 0, 0, 0, 0, 0, 1], [[], [0], [0, 1], [0, 1, 2], [], [4], [4, 5], [4, 5, 6], [], [8], [8, 9], [8, 9, 10], [4, 5, 6, 7, 8, 9, 10, 11], [], [13], [13, 14], [13, 14, 15], [13, 14, 15, 16], [13, 14, 15, 16, 17], [13, 14, 15, 16, 17, 18], [], [20], [20, 21], [20, 21, 22], [], [24], [24, 25], [24, 25, 26], [24, 25, 26, 27], [0, 1, 2, 3, 4, 5, 6, 7, 8, 9, 10, 11, 12, 13, 14, 15, 16, 17, 18, 19, 20, 21, 22, 23, 24, 25, 26, 27, 28], [], [0, 1, 2, 3, 4, 5, 6, 7, 8, 9, 10, 11, 12, 13, 14, 15, 16, 17, 18, 19, 20, 21, 22, 23, 24, 25, 26, 27, 28, 29, 30]], [0, 0, 0, 0, 0, 0, 0, 0, 0, 0, 0, 0, 0, 0, 0, 0, 0, 0, 0, 0, 0, 0, 0, 0, 0, 0, 0, 0, 0, 0, 0, 1], [31], [[0], [6], [7], [8], [0], [10], [11], [12], [0], [14], [15], [16], [13, 17], [0], [19], [20], [21], [22], [23], [24], [0], [26], [27], [28], [0], [30], [31], [32], [33], [9, 18, 25, 29, 34], [], [3, 35]], Ob.intro (by kernel_rfl) ?_⟩
  repeat refine same ?_
  refine ⟨[0, 0, 0, 0, 0, 0, 0, 0, 0, 0, 0, 1, 1, 1, 1, 1, 1], [[], [], [1], [1, 2], [1, 2, 3], [], [5], [5, 6], [5, 6, 7], [1, 2, 3, 4, 5, 6, 7, 8], [1, 2, 3, 4, 5, 6, 7, 8, 9], [0, 1, 2, 3, 4, 5, 6, 7, 8, 9, 10], [0, 1, 2, 3, 4, 5, 6, 7, 8, 9, 10, 11], [0, 1, 2, 3, 4, 5, 6, 7, 8, 9, 10, 11, 12], [0, 1, 2, 3, 4, 5, 6, 7, 8, 9, 10, 11, 12], [0, 1, 2, 3, 4, 5, 6, 7, 8, 9, 10, 11, 12, 13], [0, 1, 2, 3, 4, 5, 6, 7, 8, 9, 10, 11, 12, 13, 14, 15]], [0, 0, 0, 0, 0, 0, 0, 0, 0, 0, 0, 0, 0, 0, 0, 0, 0], [11], [[3], [0], [38], [39], [40], [0], [42], [43], [44], [41, 45], [46], [37, 47], [48], [36], [36], [49], [50]], Ob.intro (by kernel_rfl) ?_⟩
  repeat first | refine same ?_ | refine Ob.intro hb ?_ | refine optK_intro (nth_mapI (w := (done : Nat)) (g := str) hd) ?_
  refine callP cp rfl rfl ?_
  repeat first | refine same ?_ | refine Ob.intro hb ?_ | refine optK_intro (nth_mapI (w := (done : Nat)) (g := str) hd) ?_
  refine ⟨[0, 0, 0, 0, 0, 0, 0, 0, 0, 0, 0, 0, 0, 0, 1, 1], [[], [0], [0, 1], [0, 1, 2], [0, 1, 2, 3], [0, 1, 2, 3, 4], [0, 1, 2, 3, 4, 5], [], [7], [7, 8], [7, 8, 9], [], [11], [], [0, 1, 2, 3, 4, 5, 6, 7, 8, 9, 10, 11, 12, 13], [0, 1, 2, 3, 4, 5, 6, 7, 8, 9, 10, 11, 12, 13, 14]], [0, 0, 0, 0, 0, 0, 0, 0, 0, 0, 0, 0, 0, 0, 0, 0], [14], [[0], [54], [55], [56], [57], [58], [59], [0], [61], [62], [63], [3], [65], [4], [60, 64, 66, 67], [68]], Ob.intro (by kernel_rfl) ?_⟩
  repeat refine same ?_
  refine callU_2 (E := [lgO G (.ptr 8 0), mwO (.ptr 7 0) ⟨to_, gen, at_, P, done, over⟩, AObj.row [i64 (gen : Nat), i64 (wrp .i64 ((at_ : Int) + (done : Int))), i64 (G.life : Nat), i64 (done : Nat), i64 (P.length : Nat)]]) cw hw hw' hi' rfl rfl ?_
  repeat refine same ?_
  exact endH rfl rfl rfl ⟨.inl rfl, .inl rfl, .inl rfl, .inl rfl, .inl rfl, .inl rfl, .inl rfl, .inl rfl, .inl rfl, True.intro⟩ (Nat.le_of_ble_eq_true rfl) (logw_below ⟨_, sec, [x0, x1], [y0, y1]⟩ _ _ _ _ (Nat.le_of_ble_eq_true rfl) rfl) rfl
set_option maxHeartbeats 4000000 in
theorem move_w_2 {sec : Nat} {G : Lg} {X : Wx} {d : ByteArray} (w : Wd) (hi : w.is 2 sec) (ho : X.over = false) (hd : X.P[X.done]? = some d) (hd50 : d.size ≤ 50) (hok : okS ⟨X.gen, (X.at_ + X.done : Nat), G.life, X.done, X.P.length⟩) (h0 : (w.write (X.to_ : Nat) ((X.at_ + X.done : Nat) : Nat) (nxT G X d)).1 = 0) :
    ACalls Tryd.prog 20 [.ptr 8 0] (w.H ++ [lgO G (.ptr 8 0), mwO (.ptr 7 0) X]) (RetH (.tup [i64 1, i64 0]) ((w.write (X.to_ : Nat) ((X.at_ + X.done : Nat) : Nat) (nxT G X d)).2.H ++ [lgO G (.ptr 8 0), mwO (.ptr 7 0) ⟨X.to_, X.gen, X.at_, X.P, X.done + 1, X.over⟩])) := by
  have cs := sector_2 w hi hd hd50 hok h0
  have hi' := write_is hi (X.to_ : Nat) ((X.at_ + X.done : Nat) : Nat) (nxT G X d)
  have hlt := (List.getElem?_eq_some_iff.1 hd).1
  have hdn : (X.done : Int) ≤ 127 := by have := hok.2.2.1.2; dsimp only at this; omega
  generalize (w.write (X.to_ : Nat) ((X.at_ + X.done : Nat) : Nat) (nxT G X d)).2 = w' at *
  obtain ⟨o', x0, x1, y0, y1, hw'⟩ := tell_2 hi'
  obtain ⟨o, d0, d1, m0, m1, hw⟩ := tell_2 hi
  rw [show w.H = (Wd.mk o sec [d0, d1] [m0, m1]).H from congrArg Wd.H hw, show w'.H = (Wd.mk o' sec [x0, x1] [y0, y1]).H from congrArg Wd.H hw'] at *
  obtain ⟨to_, gen, at_, P, done, over⟩ := X
  dsimp only at ho hlt hdn cs ⊢
  subst ho
  have e1 : wrp .i64 ((done : Int) + 1) = ((done + 1 : Nat) : Int) := by rw [wrpE, wi64]; omega
  refine acalls_of_awp hT mixed Tryd.func20 rfl (by kernel_rfl) (by kernel_rfl) (Nat.le_of_ble_eq_true rfl) ?_
  refine ⟨dlMg1a, dlMg1b, dlMg1c, dlMg1d, dlMg1e, Ob.intro (by kernel_rfl) ?_⟩
  refine forkD (fun _ => ?_) (fun h => absurd (show ((done : Nat) : Int) < (P.length : Nat) by omega) h)
  repeat refine same ?_
  refine callH cs [0, 1, 2, 3, 4, 5, 6, 7, 8] rfl ⟨.inl rfl, .inl rfl, .inl rfl, oS rfl, oS rfl, oM rfl, oM rfl, .inl rfl, .inl rfl, True.intro⟩ rfl rfl (H' := (Wd.mk o' sec [x0, x1] [y0, y1]).H ++ [lgO G (.ptr 8 0), mwO (.ptr 7 0) ⟨to_, gen, at_, P, done, false⟩]) (by unfold merge Wd.H; simp only [List.map_cons, List.map_nil, List.cons_append, List.nil_append, renH, renO_str, renO_mp]; rfl) ?_
  refine endH rfl rfl rfl ⟨.inl rfl, .inl rfl, .inl rfl, .inl rfl, .inl rfl, .inl rfl, .inl rfl, .inl rfl, .inl ?_, True.intro⟩ (Nat.le_of_ble_eq_true rfl) (logw_below ⟨_, sec, [x0, x1], [y0, y1]⟩ _ _ _ _ (Nat.le_of_ble_eq_true rfl) rfl) rfl
  exact congrArg (fun z : Int => AObj.row [.ptr 7 0, i64 (to_ : Nat), i64 (gen : Nat), i64 (at_ : Nat), txV P, i64 z, bo false]) e1.symm
set_option maxHeartbeats 4000000 in
theorem move_f_2 {sec : Nat} {G : Lg} {X : Wx} (w : Wd) (hi : w.is 2 sec) (ho : X.over = false) (hd : X.done = X.P.length) (hdn : X.done ≤ 1000) (h0 : (w.flush (X.to_ : Nat)).1 = 0) :
    ACalls Tryd.prog 20 [.ptr 8 0] (w.H ++ [lgO G (.ptr 8 0), mwO (.ptr 7 0) X]) (RetH (.tup [i64 1, i64 0]) ((w.flush (X.to_ : Nat)).2.H ++ [lgO G (.ptr 8 0), mwO (.ptr 7 0) ⟨X.to_, X.gen, X.at_, X.P, X.done + 1, X.over⟩])) := by
  have cs := flushW w hi.ok (X.to_ : Nat)
  have hi' := flush_is hi (X.to_ : Nat)
  rw [h0] at cs
  generalize (w.flush (X.to_ : Nat)).2 = w' at *
  obtain ⟨o', x0, x1, y0, y1, hw'⟩ := tell_2 hi'
  obtain ⟨o, d0, d1, m0, m1, hw⟩ := tell_2 hi
  rw [show w.H = (Wd.mk o sec [d0, d1] [m0, m1]).H from congrArg Wd.H hw, show w'.H = (Wd.mk o' sec [x0, x1] [y0, y1]).H from congrArg Wd.H hw']
  obtain ⟨to_, gen, at_, P, done, over⟩ := X
  dsimp only at ho hd hdn cs ⊢
  subst ho
  have e1 : wrp .i64 ((done : Int) + 1) = ((done + 1 : Nat) : Int) := by rw [wrpE, wi64]; omega
  refine acalls_of_awp hT mixed Tryd.func20 rfl (by kernel_rfl) (by kernel_rfl) (Nat.le_of_ble_eq_true rfl) ?_
  refine ⟨dlMg1a, dlMg1b, dlMg1c, dlMg1d, dlMg1e, Ob.intro (by kernel_rfl) ?_⟩
  refine forkD (fun h => absurd (show ((done : Nat) : Int) < (P.length : Nat) from h) (by omega)) (fun _ => ?_)
  repeat refine same ?_
  refine ⟨[0, 0, 0, 0, 0, 0, 0, 0, 0, 0, 0], [[], [0], [0, 1], [0, 1, 2], [], [4], [4, 5], [4, 5, 6], [4, 5, 6, 7], [0, 1, 2, 3, 4, 5, 6, 7, 8], [0, 1, 2, 3, 4, 5, 6, 7, 8, 9]], [0, 0, 0, 0, 0, 0, 0, 0, 0, 0, 0], [], [[0], [29], [30], [31], [0], [33], [34], [35], [36], [32, 37], [38]], Ob.intro (by kernel_rfl) ?_⟩
  refine fork (fun _ => ?_) (fun h => ?_)
  rotate_left
  · exact absurd (beq_iff_eq.2 (show ((done : Nat) : Int) = ((P.length : Nat) : Int) by omega)) (by rw [h]; decide)
  repeat refine same ?_
  refine ⟨[0, 0, 0, 0, 0, 0, 0, 0, 0, 0, 0, 1, 1], [[], [0], [0, 1], [0, 1, 2], [0, 1, 2, 3], [0, 1, 2, 3, 4], [0, 1, 2, 3, 4, 5], [], [7], [7, 8], [7, 8, 9], [0, 1, 2, 3, 4, 5, 6, 7, 8, 9, 10], [0, 1, 2, 3, 4, 5, 6, 7, 8, 9, 10, 11]], [0, 0, 0, 0, 0, 0, 0, 0, 0, 0, 0, 0, 0], [11], [[0], [39], [40], [41], [42], [43], [44], [0], [46], [47], [48], [45, 49], [50]], Ob.intro (by kernel_rfl) ?_⟩
  repeat refine same ?_
  refine callU_2 (E := [lgO G (.ptr 8 0), mwO (.ptr 7 0) ⟨to_, gen, at_, P, done, false⟩]) cs hw hw' hi' rfl rfl ?_
  repeat refine same ?_
  refine endH rfl rfl rfl ⟨.inl rfl, .inl rfl, .inl rfl, .inl rfl, .inl rfl, .inl rfl, .inl rfl, .inl rfl, .inl ?_, True.intro⟩ (Nat.le_of_ble_eq_true rfl) (logw_below ⟨_, sec, [x0, x1], [y0, y1]⟩ _ _ _ _ (Nat.le_of_ble_eq_true rfl) rfl) rfl
  exact congrArg (fun z : Int => AObj.row [.ptr 7 0, i64 (to_ : Nat), i64 (gen : Nat), i64 (at_ : Nat), txV P, i64 z, bo false]) e1.symm
set_option maxHeartbeats 4000000 in
theorem install_2 {o : Bool} {sec : Nat} {d0 d1 : List ByteArray} {m0 m1 : Mp} {G : Lg} {X : Wx} (hat : X.at_ ≤ 1000000) (hl : X.P.length ≤ 1000000) :
    ACalls Tryd.prog 42 [.ptr 8 0] ((Wd.mk o sec [d0, d1] [m0, m1]).H ++ [lgO G (.ptr 8 0), mwO (.ptr 7 0) X]) (RetH (.tup []) ((Wd.mk o sec [d0, d1] [m0, m1]).H ++ [lgO ⟨G.first, X.to_, X.gen, X.at_ + X.P.length, G.life⟩ (.sc (.pointer none)), mwO (.ptr 7 0) ⟨X.to_, X.gen, X.at_, X.P, X.done, true⟩])) := by
  obtain ⟨to_, gen, at_, P, done, over⟩ := X
  dsimp only at hat hl ⊢
  have e1 : wrp .i64 ((at_ : Int) + (P.length : Int)) = ((at_ + P.length : Nat) : Int) := by rw [wrpE, wi64]; omega
  refine acalls_of_awp hT mixed Tryd.func42 rfl (by kernel_rfl) (by kernel_rfl) (Nat.le_of_ble_eq_true rfl) ?_
  refine ⟨[0, 0, 0, 0, 0, 0, 0, 0, 0, 0, 0, 0, 0, 0, 0, 0, 0, 0, 0, 0, 0, 0, 0, 0, 0, 0, 0, 0, 0, 0, 0, 0, 1, 1, 1, 2, 2, 2, 3], [[], [0], [0, 1], [0, 1, 2], [], [4], [4, 5], [4, 5, 6], [], [8], [8, 9], [8, 9, 10], [], [12], [12, 13], [12, 13, 14], [], [16], [16, 17], [16, 17, 18], [], [20], [20, 21], [20, 21, 22], [], [24], [24, 25], [24, 25, 26], [24, 25, 26, 27], [20, 21, 22, 23, 24, 25, 26, 27, 28], [0, 1, 2, 3, 4, 5, 6, 7, 8, 9, 10, 11, 12, 13, 14, 15, 16, 17, 18, 19, 20, 21, 22, 23, 24, 25, 26, 27], [0, 1, 2, 3, 4, 5, 6, 7, 8, 9, 10, 11, 12, 13, 14, 15, 16, 17, 18, 19, 20, 21, 22, 23, 24, 25, 26, 27, 30], [0, 1, 2, 3, 4, 5, 6, 7, 8, 9, 10, 11, 12, 13, 14, 15, 16, 17, 18, 19, 20, 21, 22, 23, 24, 25, 26, 27, 30, 31], [0, 1, 2, 3, 4, 5, 6, 7, 8, 9, 10, 11, 12, 13, 14, 15, 16, 17, 18, 19, 20, 21, 22, 23, 24, 25, 26, 27, 30, 31, 32], [0, 1, 2, 3, 4, 5, 6, 7, 8, 9, 10, 11, 12, 13, 14, 15, 16, 17, 18, 19, 20, 21, 22, 23, 24, 25, 26, 27, 30, 31, 32, 33], [0, 1, 2, 3, 4, 5, 6, 7, 8, 9, 10, 11, 12, 13, 14, 15, 16, 17, 18, 19, 20, 21, 22, 23, 24, 25, 26, 27, 30, 31, 32, 33, 34], [0, 1, 2, 3, 4, 5, 6, 7, 8, 9, 10, 11, 12, 13, 14, 15, 16, 17, 18, 19, 20, 21, 22, 23, 24, 25, 26, 27, 28, 29, 30, 31, 32, 33, 34, 35], [0, 1, 2, 3, 4, 5, 6, 7, 8, 9, 10, 11, 12, 13, 14, 15, 16, 17, 18, 19, 20, 21, 22, 23, 24, 25, 26, 27, 28, 29, 30, 31, 32, 33, 34, 35, 36], [0, 1, 2, 3, 4, 5, 6, 7, 8, 9, 10, 11, 12, 13, 14, 15, 16, 17, 18, 19, 20, 21, 22, 23, 24, 25, 26, 27, 28, 29, 30, 31, 32, 33, 34, 35, 36, 37]], [0, 0, 0, 0, 0, 0, 0, 0, 0, 0, 0, 0, 0, 0, 0, 0, 0, 0, 0, 0, 0, 0, 0, 0, 0, 0, 0, 0, 0, 0, 0, 0, 0, 0, 0, 0, 0, 0, 0], [32, 35, 38], [[0], [11], [12], [13], [0], [15], [16], [17], [0], [19], [20], [21], [0], [23], [24], [25], [0], [27], [28], [29], [0], [31], [32], [33], [0], [35], [36], [37], [38], [34, 39], [14], [41], [42, 26], [18], [43], [44, 30], [22], [45], [46, 40]], Ob.intro (by kernel_rfl) ?_⟩
  repeat refine same ?_
  refine endH rfl rfl rfl ⟨.inl rfl, .inl rfl, .inl rfl, .inl rfl, .inl rfl, .inl rfl, .inl rfl, .inl ?_, .inl rfl, True.intro⟩ (Nat.le_of_ble_eq_true rfl) (logw_below ⟨_, sec, [d0, d1], [m0, m1]⟩ _ _ _ _ (Nat.le_of_ble_eq_true rfl) rfl) rfl
  exact congrArg (fun z : Int => AObj.row [.ptr 0 0, i64 (G.first : Nat), i64 (to_ : Nat), i64 (gen : Nat), i64 z, i64 (G.life : Nat), .sc (.pointer none)]) e1.symm
set_option maxHeartbeats 4000000 in
theorem move_i_2 {sec : Nat} {G : Lg} {X : Wx} (w : Wd) (hi : w.is 2 sec) (ho : X.over = false) (hd : X.done = X.P.length + 1) (hat : X.at_ ≤ 1000000) (hl : X.P.length ≤ 1000000) :
    ACalls Tryd.prog 20 [.ptr 8 0] (w.H ++ [lgO G (.ptr 8 0), mwO (.ptr 7 0) X]) (RetH (.tup [i64 2, i64 0]) (w.H ++ [lgO ⟨G.first, X.to_, X.gen, X.at_ + X.P.length, G.life⟩ (.sc (.pointer none)), mwO (.ptr 7 0) ⟨X.to_, X.gen, X.at_, X.P, X.done, true⟩])) := by
  obtain ⟨o, d0, d1, m0, m1, hw⟩ := tell_2 hi
  have ci := install_2 (o := o) (sec := sec) (d0 := d0) (d1 := d1) (m0 := m0) (m1 := m1) (G := G) (X := X) hat hl
  rw [show w.H = (Wd.mk o sec [d0, d1] [m0, m1]).H from congrArg Wd.H hw]
  obtain ⟨to_, gen, at_, P, done, over⟩ := X
  dsimp only at ho hd ci ⊢
  subst ho
  refine acalls_of_awp hT mixed Tryd.func20 rfl (by kernel_rfl) (by kernel_rfl) (Nat.le_of_ble_eq_true rfl) ?_
  refine ⟨dlMg1a, dlMg1b, dlMg1c, dlMg1d, dlMg1e, Ob.intro (by kernel_rfl) ?_⟩
  refine forkD (fun h => absurd (show ((done : Nat) : Int) < (P.length : Nat) from h) (by omega)) (fun _ => ?_)
  repeat refine same ?_
  refine ⟨[0, 0, 0, 0, 0, 0, 0, 0, 0, 0, 0], [[], [0], [0, 1], [0, 1, 2], [], [4], [4, 5], [4, 5, 6], [4, 5, 6, 7], [0, 1, 2, 3, 4, 5, 6, 7, 8], [0, 1, 2, 3, 4, 5, 6, 7, 8, 9]], [0, 0, 0, 0, 0, 0, 0, 0, 0, 0, 0], [], [[0], [29], [30], [31], [0], [33], [34], [35], [36], [32, 37], [38]], Ob.intro (by kernel_rfl) ?_⟩
  refine fork (fun h => ?_) (fun _ => ?_)
  · have h1 : ((done : Nat) : Int) = ((P.length : Nat) : Int) := beq_iff_eq.1 h
    have h2 : done = P.length + 1 := hd
    omega
  repeat refine same ?_
  refine callH ci [0, 1, 2, 3, 4, 5, 6, 7, 8] rfl ⟨.inl rfl, .inl rfl, .inl rfl, oS rfl, oS rfl, oM rfl, oM rfl, .inl rfl, .inl rfl, True.intro⟩ rfl rfl (H' := (Wd.mk o sec [d0, d1] [m0, m1]).H ++ [lgO ⟨G.first, to_, gen, at_ + P.length, G.life⟩ (.sc (.pointer none)), mwO (.ptr 7 0) ⟨to_, gen, at_, P, done, true⟩]) (by unfold merge Wd.H; simp only [List.map_cons, List.map_nil, List.cons_append, List.nil_append, renH, renO_str, renO_mp]; rfl) ?_
  exact endH rfl rfl rfl ⟨.inl rfl, .inl rfl, .inl rfl, .inl rfl, .inl rfl, .inl rfl, .inl rfl, .inl rfl, .inl rfl, True.intro⟩ (Nat.le_of_ble_eq_true rfl) (logw_below ⟨_, sec, [d0, d1], [m0, m1]⟩ _ _ _ _ (Nat.le_of_ble_eq_true rfl) rfl) rfl
end Go.Proofs.YthbncljlclcecaaDoor.A
