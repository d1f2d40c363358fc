/- seglog: begin, Base, Record (printed by genbase.py). No condition. -/
import Derived.Test.YthbncljlclcecaaDoorMe
namespace Go.Proofs.YthbncljlclcecaaDoor.A
open Go
set_option linter.unusedVariables false
set_option linter.unusedSimpArgs false
set_option maxRecDepth 100000
set_option pp.maxSteps 600
/-- A writer. -/
structure Wx where
  to_ : Nat
  gen : Nat
  at_ : Nat
  P : List ByteArray
  done : Nat
  over : Bool
def mwC (l : AV) (X : Wx) : List AV := [l, i64 (X.to_ : Nat), i64 (X.gen : Nat), i64 (X.at_ : Nat), txV X.P, i64 (X.done : Nat), bo X.over]
def lgO (G : Lg) (wr : AV) : AObj := .row (.ptr 0 0 :: lgC G wr)
def mwO (l : AV) (X : Wx) : AObj := .row (mwC l X)
theorem logw_below (w : Wd) (G : Lg) (wr : AV) (q : Nat) (X : Wx) (hq : q < w.H.length + 2) (hw : A.below (w.H.length + 2) wr = true) : belowH (w.H ++ [lgO G wr, mwO (.ptr q 0) X]).length (w.H ++ [lgO G wr, mwO (.ptr q 0) X]) = true := by
  have hl : (w.H ++ [lgO G wr, mwO (.ptr q 0) X]).length = w.H.length + 2 := by rw [List.length_append]; rfl
  rw [hl]
  refine belowH_app _ _ _ (w.belowN _ (by rw [w.H_len]; omega)) ?_
  have hA : belowL (w.H.length + 2) (AV.ptr 0 0 :: lgC G wr) = true := by
    show (Nat.blt 0 (w.H.length + 2) && (true && (true && (true && (true && (true && (A.below (w.H.length + 2) wr && true))))))) = true
    rw [hw, blt_of (by omega)]
    rfl
  have hB : belowL (w.H.length + 2) (mwC (.ptr q 0) X) = true := by
    show (Nat.blt q (w.H.length + 2) && true) = true
    rw [blt_of hq]
    rfl
  show (belowL _ (AV.ptr 0 0 :: lgC G wr) && (belowL _ (mwC (.ptr q 0) X) && true)) = true
  rw [hA, hB]
  rfl
set_option maxHeartbeats 4000000 in
theorem begin_ok_2 {off : Bool} {sec : Nat} {d0 d1 : List ByteArray} {m0 m1 : Mp} {G : Lg} (X : Wx) (hg : X.gen ≤ 2147483647) (hl : G.life ≤ 2147483647) : ACalls Tryd.prog 37 [.ptr 7 0, .ptr 8 0] ((Wd.mk off sec [d0, d1] [m0, m1]).H ++ [lgO G (.sc (.pointer none)), mwO (.sc (.pointer none)) X]) (RetH (.tup [.ptr 8 0, i64 0]) ((Wd.mk off sec [d0, d1] [m0, m1]).H ++ [lgO G (.ptr 8 0), mwO (.ptr 7 0) X])) := by
  refine acalls_of_awp hT mixed Tryd.func37 rfl (by kernel_rfl) (by kernel_rfl) (Nat.le_of_ble_eq_true rfl) ?_
  refine forkD (fun h => absurd (show ((X.gen : Nat) : Int) > 2147483647 from h) (by omega)) (fun _ => ?_)
  refine forkD (fun h => absurd (show ((G.life : Nat) : Int) > 2147483647 from h) (by omega)) (fun _ => ?_)
  exact endH rfl rfl rfl ⟨.inl rfl, .inl rfl, .inl rfl, .inl rfl, .inl rfl, .inl rfl, .inl rfl, .inl rfl, .inl rfl, True.intro⟩ (Nat.le_refl 9) (logw_below ⟨off, sec, [d0, d1], [m0, m1]⟩ _ _ _ _ (Nat.le_of_ble_eq_true rfl) rfl) rfl
set_option maxHeartbeats 4000000 in
theorem base_ok_2 {off : Bool} {sec : Nat} {d0 d1 : List ByteArray} {m0 m1 : Mp} {G : Lg} (s : ByteArray) (hs : s.size ≤ 100000) (hsec : sec ≤ 1000) (hG : G.first ≤ 1000 ∧ G.at_ ≤ 2 * G.first + 1) (hg : G.gen + 1 ≤ 2147483647) (hl : G.life ≤ 2147483647) (hfit : fitB sec (s.size : Nat) 0 = true) :
    ACalls Tryd.prog 19 [.ptr 7 0, str s] ((Wd.mk off sec [d0, d1] [m0, m1]).H ++ [lgO G (.sc (.pointer none))]) (RetH (.tup [.ptr 8 0, i64 0]) ((Wd.mk off sec [d0, d1] [m0, m1]).H ++ [lgO G (.ptr 8 0), mwO (.ptr 7 0) (Wx.mk (2 * G.first + 1 - G.at_) (G.gen + 1) 0 (partsL s) 0 false)])) := by
  have e1 : wrp .i64 (wrp .i64 (wrp .i64 (2 * (G.first : Int)) + 1) - (G.at_ : Int)) = ((2 * G.first + 1 - G.at_ : Nat) : Int) := by
    rw [wrpE, wrpE, wrpE, wi64, wi64, wi64]
    omega
  have e2 : wrp .i64 ((G.gen : Int) + 1) = ((G.gen + 1 : Nat) : Int) := by rw [wrpE, wi64]; omega
  have cbeg := begin_ok_2 (off := off) (sec := sec) (d0 := d0) (d1 := d1) (m0 := m0) (m1 := m1) (G := G) (Wx.mk (2 * G.first + 1 - G.at_) (G.gen + 1) 0 (partsL s) 0 false) hg hl
  have hsz : ((s.size : Nat) : Int) ≤ 100000 := by omega
  have cb := busy_ok (off := off) (b := false) (sec := sec) (n := 2) (G := G)
  have cf := fits_ok (off := off) (b := false) (sec := sec) (n := 2) (G := G) (s.size : Nat) 0 (by omega) hsec (by omega)
  have cp := parts_ok s hs
  rw [hfit] at cf
  refine acalls_of_awp hT mixed Tryd.func19 rfl (by kernel_rfl) (by kernel_rfl) (Nat.le_of_ble_eq_true rfl) ?_
  refine callL (cs := lgC G (.sc (.pointer none))) (ws := [bo off, i64 (sec : Nat), .slc 1 0 2 1, .slc 2 0 2 1]) (rest := []) cb rfl rfl rfl rfl ?_
  refine callL (cs := lgC G (.sc (.pointer none))) (ws := [bo off, i64 (sec : Nat), .slc 1 0 2 1, .slc 2 0 2 1]) (rest := [i64 (s.size : Nat), i64 0]) cf rfl rfl rfl rfl ?_
  refine ⟨[0, 0, 0, 0, 0, 0, 0, 0, 0, 0, 0, 0, 0, 0, 0, 0, 0, 0, 1, 1, 1, 2, 2, 2, 2, 2], [[], [], [1], [1, 2], [1, 2, 3], [1, 2, 3, 4], [1, 2, 3, 4, 5], [], [7], [7, 8], [7, 8, 9], [1, 2, 3, 4, 5, 6, 7, 8, 9, 10], [], [12], [12, 13], [12, 13, 14], [12, 13, 14, 15], [], [17], [1, 2, 3, 4, 5, 6, 7, 8, 9, 10, 11, 12, 13, 14, 15, 16, 17, 18], [1, 2, 3, 4, 5, 6, 7, 8, 9, 10, 11, 12, 13, 14, 15, 16, 17, 18, 19], [0, 1, 2, 3, 4, 5, 6, 7, 8, 9, 10, 11, 12, 13, 14, 15, 16, 17, 18, 19, 20], [0, 1, 2, 3, 4, 5, 6, 7, 8, 9, 10, 11, 12, 13, 14, 15, 16, 17, 18, 19, 20, 21], [0, 1, 2, 3, 4, 5, 6, 7, 8, 9, 10, 11, 12, 13, 14, 15, 16, 17, 18, 19, 20, 21], [0, 1, 2, 3, 4, 5, 6, 7, 8, 9, 10, 11, 12, 13, 14, 15, 16, 17, 18, 19, 20, 21, 22, 23], [0, 1, 2, 3, 4, 5, 6, 7, 8, 9, 10, 11, 12, 13, 14, 15, 16, 17, 18, 19, 20, 21, 22, 23, 24]], [0, 0, 0, 0, 0, 0, 0, 0, 0, 0, 0, 0, 0, 0, 0, 0, 0, 0, 0, 0, 0, 1, 1, 1, 1, 1], [18, 21], [[0], [0], [19], [20], [21], [22], [23], [0], [25], [26], [27], [24, 28], [0], [30], [31], [32], [33], [1], [35], [29, 34, 36], [37], [18, 38], [39], [39], [40], [41]], Ob.intro (by kernel_rfl) ?_⟩
  repeat refine same ?_
  refine callP cp rfl rfl ?_
  repeat refine same ?_
  refine callH cbeg [0, 1, 2, 3, 4, 5, 6, 7, 8] rfl ⟨.inl rfl, .inl rfl, .inl rfl, oS rfl, oS rfl, oM rfl, oM rfl, .inl rfl, .inl ?_, True.intro⟩ rfl rfl (H' := (Wd.mk off sec [d0, d1] [m0, m1]).H ++ [lgO G (.ptr 8 0), mwO (.ptr 7 0) (Wx.mk (2 * G.first + 1 - G.at_) (G.gen + 1) 0 (partsL s) 0 false)]) (by unfold merge Wd.H; simp only [List.map_cons, List.map_nil, List.cons_append, List.nil_append, renH, renO_str, renO_mp]; rfl) ?_
  · exact (congrArg (fun z : Int => some (AObj.row [.sc (.pointer none), i64 z, i64 (wrp .i64 ((G.gen : Int) + 1)), i64 0, txV (partsL s), i64 0, bo false])) e1).trans (congrArg (fun z : Int => some (AObj.row [.sc (.pointer none), i64 ((2 * G.first + 1 - G.at_ : Nat) : Int), i64 z, i64 0, txV (partsL s), i64 0, bo false])) e2)
  repeat refine same ?_
  exact endH rfl rfl rfl ⟨.inl rfl, .inl rfl, .inl rfl, .inl rfl, .inl rfl, .inl rfl, .inl rfl, .inl rfl, .inl rfl, True.intro⟩ (Nat.le_of_ble_eq_true rfl) (logw_below ⟨off, sec, [d0, d1], [m0, m1]⟩ _ _ _ _ (Nat.le_of_ble_eq_true rfl) rfl) rfl
end Go.Proofs.YthbncljlclcecaaDoor.A
