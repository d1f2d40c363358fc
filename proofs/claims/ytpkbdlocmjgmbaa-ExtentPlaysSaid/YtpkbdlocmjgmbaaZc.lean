/- extent: the reference's Crash and Wet. No condition. -/
import Derived.Test.YtpkbdlocmjgmbaaZb
namespace Go.Proofs.Ytpkbdlocmjgmbaa.A
open Go
set_option linter.unusedVariables false
set_option linter.unusedSimpArgs false
set_option maxRecDepth 100000
set_option pp.maxSteps 600
section
variable {off : Bool} {n sec N : Nat} {S : List Sx} {e k : Int} {s : ByteArray} {x : Sx}
def cr1 (b : Bool) (x : Sx) : Sx := if b = true then (x.2.1, x.2.1, false) else (x.1, x.1, false)
def kpB (n sec : Nat) (ps : List (Int × Int)) (k : Nat) (x : Sx) : Bool := !x.2.2 || ps.any fun p => ixO n sec p.1 p.2 == (k : Nat)
def crS (n sec : Nat) (S : List Sx) (ps : List (Int × Int)) (j : Nat) : List Sx := S.mapIdx fun k x => if k < j then cr1 (kpB n sec ps k x) x else x
theorem crS_len (ps : List (Int × Int)) (j : Nat) : (crS n sec S ps j).length = S.length := by unfold crS; rw [List.length_mapIdx]
theorem crS_get (ps : List (Int × Int)) (j k : Nat) : (crS n sec S ps j)[k]? = S[k]?.map fun x => if k < j then cr1 (kpB n sec ps k x) x else x := by unfold crS; rw [List.getElem?_mapIdx]
theorem crS_zero (ps : List (Int × Int)) : crS n sec S ps 0 = S := by
  refine List.ext_getElem? fun k => ?_
  rw [crS_get]
  cases S[k]? with
  | none => rfl
  | some x => rw [Option.map_some, if_neg (by omega)]
theorem crS_succ {ps : List (Int × Int)} {j : Nat} (hx : S[j]? = some x) : crS n sec S ps (j + 1) = (crS n sec S ps j).set j (cr1 (kpB n sec ps j x) x) := by
  refine List.ext_getElem? fun k => ?_
  have hlt := (List.getElem?_eq_some_iff.1 hx).1
  rw [List.getElem?_set, crS_get, crS_get, crS_len]
  by_cases hk : j = k
  · rw [if_pos hk, if_pos hlt, ← hk, hx, Option.map_some, if_pos (by omega)]
  · rw [if_neg hk]
    cases S[k]? with
    | none => rfl
    | some y =>
      rw [Option.map_some, Option.map_some]
      by_cases h2 : k < j
      · rw [if_pos h2, if_pos (by omega)]
      · rw [if_neg h2, if_neg (by omega)]
theorem kpB_zero (k : Nat) : kpB n sec [] k x = !x.2.2 := by unfold kpB; rw [List.any_nil, Bool.or_false]
theorem kpB_succ {ps : List (Int × Int)} {i k : Nat} {p : Int × Int} (h : ps[i]? = some p) : kpB n sec (ps.take (i + 1)) k x = (kpB n sec (ps.take i) k x || ixO n sec p.1 p.2 == (k : Nat)) := by
  unfold kpB
  rw [List.take_add_one, h, List.any_append, Bool.or_assoc]
  congr 2
  show List.any [p] _ = _
  rw [List.any_cons, List.any_nil, Bool.or_false]
theorem refCrash_off (ps : List (Int × Int)) : ACalls Try.prog 33 [.ptr 1 0, pkV ps] (rH true n sec N S) (RetH (i64 6) (rH true n sec N S)) := by
  refine acalls_of_awp hT mixed Try.func33 rfl (by kernel_rfl) (by kernel_rfl) (Nat.le_of_ble_eq_true rfl) ?_
  exact endH rfl rfl rfl ⟨.inl rfl, .inl rfl, True.intro⟩ (Nat.le_refl 2) (rH_below ..) rfl
theorem refCrash_ok (hn : n ≤ 1000) (hs : sec ≤ 1000) (hN : N = n * sec) (hS : S.length = N) (ps : List (Int × Int)) (hps : ps.length ≤ 100000) : ACalls Try.prog 33 [.ptr 1 0, pkV ps] (rH false n sec N S) (RetH (i64 0) (rH true n sec N (crS n sec S ps N))) := by
  have hNb : N ≤ 1000000 := by rw [hN]; exact Nat.mul_le_mul hn hs
  refine acalls_of_awp hT mixed Try.func33 rfl (by kernel_rfl) (by kernel_rfl) (Nat.le_of_ble_eq_true rfl) ?_
  refine loopI (α := { j : Nat // j ≤ N }) (fun z => [(0, .ptr 1 0), (1, pkV ps), (5, i64 (z.val : Nat))]) (fun z => rH false n sec N (crS n sec S ps z.val)) (fun z => N - z.val) ⟨0, Nat.zero_le _⟩ [0, 1] ⟨⟨rfl, rfl, rfl, True.intro⟩, ⟨.inl (by rw [renO_sx, crS_zero]; rfl), .inl rfl, True.intro⟩, rfl, rfl, rfl⟩ ?_
  rintro ⟨j, hj⟩ K hK
  dsimp only at hj ⊢
  refine forkD (fun h => ?_) (fun h => ?_)
  · have g : j < N := by have : (j : Int) < (N : Int) := h; omega
    obtain ⟨x, hx⟩ : ∃ x, S[j]? = some x := ⟨_, List.getElem?_eq_getElem (by omega)⟩
    have hx1 : (crS n sec S ps j)[j]? = some x := by rw [crS_get, hx, Option.map_some, if_neg (by omega)]
    have hb : (0 : Int) ≤ (j : Nat) ∧ ((j : Nat) : Int) < (N : Nat) := by omega
    have hnext := crS_succ (n := n) (sec := sec) (ps := ps) hx
    generalize crS n sec S ps j = T0 at *
    have hlt := (List.getElem?_eq_some_iff.1 hx1).1
    refine Ob.intro hb ?_
    refine optK_intro (rd_cellX sxC_len (v := bo x.2.2) (c := 2) rfl hx1 (by show 0 + ((j : Nat) : Int).toNat * 3 + 2 = _; omega) rfl) ?_
    have hz := kpB_zero (n := n) (sec := sec) (x := x) j
    generalize hX : x.2.2 = xb at hz ⊢
    have key : ∀ q : Bool, kpB n sec ps j x = q → cr1 q x = cr1 (kpB n sec ps j x) x := fun q h => by rw [h]
    cases xb <;>
    · refine loopI (α := { i : Nat // i ≤ ps.length }) (fun z => [(0, .ptr 1 0), (1, pkV ps), (5, i64 (j : Nat)), (6, bo (kpB n sec (ps.take z.val) j x)), (7, i64 (z.val : Nat))]) (fun z => rH false n sec N T0) (fun z => ps.length - z.val) ⟨0, Nat.zero_le _⟩ [0, 1] ⟨⟨rfl, rfl, rfl, congrArg bo hz.symm, rfl, True.intro⟩, ⟨oX rfl, .inl rfl, True.intro⟩, rfl, rfl, rfl⟩ ?_
      rintro ⟨i, hi⟩ K2 hK2
      dsimp only at hi ⊢
      refine forkD (fun h2 => ?_) (fun h2 => ?_)
      · have g2 : i < ps.length := by have : (i : Int) < (ps.length : Int) := h2; omega
        obtain ⟨⟨pa, pb⟩, hpp⟩ : ∃ p, ps[i]? = some p := ⟨_, List.getElem?_eq_getElem g2⟩
        have hb2 : (0 : Int) ≤ (i : Nat) ∧ ((i : Nat) : Int) < (ps.length : Nat) := by omega
        have hsucc := kpB_succ (n := n) (sec := sec) (x := x) (k := j) hpp
        have ha := refAt_ok false n sec N hn hs pa pb
        generalize kpB n sec (ps.take i) j x = q at *
        cases q
        · refine ⟨[0, 0, 0, 0, 0, 0, 0, 0, 0, 0, 0, 0, 0, 1, 0, 1, 1, 1], [[], [0], [0, 1], [0, 1], [0, 1], [0, 1, 3, 4], [0, 1, 3, 4, 5], [0, 1, 3, 4, 5, 6], [0, 1], [0, 1], [0, 1, 8, 9], [0, 1, 8, 9, 10], [0, 1, 8, 9, 10, 11], [0, 1, 2, 3, 4, 5, 6, 7, 8, 9, 10, 11, 12], [0, 1], [0, 1, 2, 3, 4, 5, 6, 7, 8, 9, 10, 11, 12, 13, 14], [0, 1, 2, 3, 4, 5, 6, 7, 8, 9, 10, 11, 12, 13, 14, 15], [0, 1, 2, 3, 4, 5, 6, 7, 8, 9, 10, 11, 12, 13, 14, 15, 16]], [0, 0, 0, 0, 0, 0, 0, 0, 0, 0, 0, 0, 0, 0, 0, 0, 0, 0], [13], [[6], [36], [0, 37], [1, 37], [7, 37], [39, 40, 37], [41, 37], [42, 37], [1, 37], [7, 37], [44, 45, 37], [46, 37], [47, 37], [38, 43, 48, 37], [5, 37], [49, 50, 37], [37, 51], [52]], Ob.intro (by kernel_rfl) ?_⟩
          repeat first | refine same ?_ | refine Ob.intro hb2 ?_ | refine optK_intro (cellX0 (f := pkC) (n := 2) (fun _ => rfl) hpp rfl) ?_ | refine optK_intro (cellX (f := pkC) (n := 2) (fun _ => rfl) hpp 1 rfl) ?_
          refine callW (cs := rwX false n sec N) (rest := [i64 pa, i64 pb]) ha rfl rfl rfl ?_
          refine fork (fun he => ?_) (fun he => ?_)
          · repeat first | refine same ?_ | refine Ob.intro hb2 ?_ | refine optK_intro (cellX0 (f := pkC) (n := 2) (fun _ => rfl) hpp rfl) ?_ | refine optK_intro (cellX (f := pkC) (n := 2) (fun _ => rfl) hpp 1 rfl) ?_
            have hsucc : kpB n sec (ps.take (i + 1)) j x = true := hsucc.trans (by rw [he]; rfl)
            exact hK2 ⟨i + 1, g2⟩ [0, 1] _ (show ps.length - i = ps.length - (i + 1) + 1 by omega) ⟨⟨rfl, rfl, rfl, congrArg bo hsucc.symm, congrArg i64 (wincQ (by omega)), True.intro⟩, ⟨oX rfl, .inl rfl, True.intro⟩, rfl, rfl, rfl⟩
          · repeat first | refine same ?_ | refine Ob.intro hb2 ?_ | refine optK_intro (cellX0 (f := pkC) (n := 2) (fun _ => rfl) hpp rfl) ?_ | refine optK_intro (cellX (f := pkC) (n := 2) (fun _ => rfl) hpp 1 rfl) ?_
            have hsucc : kpB n sec (ps.take (i + 1)) j x = false := hsucc.trans (by rw [he]; rfl)
            exact hK2 ⟨i + 1, g2⟩ [0, 1] _ (show ps.length - i = ps.length - (i + 1) + 1 by omega) ⟨⟨rfl, rfl, rfl, congrArg bo hsucc.symm, congrArg i64 (wincQ (by omega)), True.intro⟩, ⟨oX rfl, .inl rfl, True.intro⟩, rfl, rfl, rfl⟩
        · refine ⟨[0, 0, 0, 0, 0, 0, 0, 0, 0, 0, 0, 0, 0, 1, 0, 1, 1, 1], [[], [0], [0, 1], [0, 1], [0, 1], [0, 1, 3, 4], [0, 1, 3, 4, 5], [0, 1, 3, 4, 5, 6], [0, 1], [0, 1], [0, 1, 8, 9], [0, 1, 8, 9, 10], [0, 1, 8, 9, 10, 11], [0, 1, 2, 3, 4, 5, 6, 7, 8, 9, 10, 11, 12], [0, 1], [0, 1, 2, 3, 4, 5, 6, 7, 8, 9, 10, 11, 12, 13, 14], [0, 1, 2, 3, 4, 5, 6, 7, 8, 9, 10, 11, 12, 13, 14, 15], [0, 1, 2, 3, 4, 5, 6, 7, 8, 9, 10, 11, 12, 13, 14, 15, 16]], [0, 0, 0, 0, 0, 0, 0, 0, 0, 0, 0, 0, 0, 0, 0, 0, 0, 0], [13], [[6], [36], [0, 37], [1, 37], [7, 37], [39, 40, 37], [41, 37], [42, 37], [1, 37], [7, 37], [44, 45, 37], [46, 37], [47, 37], [38, 43, 48, 37], [5, 37], [49, 50, 37], [37, 51], [52]], Ob.intro (by kernel_rfl) ?_⟩
          repeat first | refine same ?_
          exact hK2 ⟨i + 1, g2⟩ [0, 1] _ (show ps.length - i = ps.length - (i + 1) + 1 by omega) ⟨⟨rfl, rfl, rfl, congrArg bo hsucc.symm, congrArg i64 (wincQ (by omega)), True.intro⟩, ⟨oX rfl, .inl rfl, True.intro⟩, rfl, rfl, rfl⟩
      · have e6 : i = ps.length := by have : ¬ (i : Int) < (ps.length : Int) := h2; omega
        subst e6
        rw [List.take_length]
        clear hK2
        obtain ⟨xd, xn, xb⟩ := x
        dsimp only at hX
        subst hX
        generalize kpB n sec ps j (xd, xn, _) = q at hnext
        cases q
        · refine ⟨[0, 0, 0, 0, 0, 0, 0, 0, 0, 0, 0, 0, 0, 0, 0, 1], [[], [0], [0, 1], [0, 1, 2], [], [], [5], [5, 6], [5, 6, 7], [], [5, 6, 7, 8, 9], [5, 6, 7, 8, 9, 10], [5, 6, 7, 8, 9, 10, 11], [0, 1, 2, 3, 4, 5, 6, 7, 8, 9, 10, 11, 12], [0, 1, 2, 3, 4, 5, 6, 7, 8, 9, 10, 11, 12, 13], [0, 1, 2, 3, 4, 5, 6, 7, 8, 9, 10, 11, 12, 13, 14]], [0, 0, 0, 0, 0, 0, 0, 0, 0, 0, 0, 0, 0, 0, 0, 0], [15], [[0], [69], [70], [71], [5], [0], [74], [75], [76], [5], [77, 78], [79], [80], [72, 73], [82], [83, 81]], Ob.intro (by kernel_rfl) ?_⟩
          repeat first | refine same ?_ | refine Ob.intro hb ?_ | refine optK_intro (rd_cellX sxC_len (v := str xd) (c := 0) rfl hx1 (by show 0 + ((j : Nat) : Int).toNat * 3 + 0 = _; omega) rfl) ?_
          refine wr_cellX sxC_len (c := 1) (xd, xd, _) rfl hx1 (by show 0 + ((j : Nat) : Int).toNat * 3 + 1 = _; omega) (Nat.le_of_ble_eq_true rfl) rfl ?_
          refine Ob.intro hb ?_
          refine wr_cellX sxC_len (c := 2) (xd, xd, false) rfl (List.getElem?_set_self hlt) (by show 0 + ((j : Nat) : Int).toNat * 3 + 2 = _; omega) (Nat.le_of_ble_eq_true rfl) rfl ?_
          refine hK ⟨j + 1, g⟩ [0, 1] _ (show N - j = N - (j + 1) + 1 by omega) ⟨⟨rfl, rfl, congrArg i64 (wincQ (by omega)), True.intro⟩, ⟨.inl ?_, .inl rfl, True.intro⟩, rfl, rfl, rfl⟩
          rw [renO_sx, hnext, List.set_set]
          rfl
        · refine ⟨[0, 0, 0, 0, 0, 0, 0, 0, 0, 0, 0, 0, 0, 0, 0, 1], [[], [0], [0, 1], [0, 1, 2], [], [], [5], [5, 6], [5, 6, 7], [], [5, 6, 7, 8, 9], [5, 6, 7, 8, 9, 10], [5, 6, 7, 8, 9, 10, 11], [0, 1, 2, 3, 4, 5, 6, 7, 8, 9, 10, 11, 12], [0, 1, 2, 3, 4, 5, 6, 7, 8, 9, 10, 11, 12, 13], [0, 1, 2, 3, 4, 5, 6, 7, 8, 9, 10, 11, 12, 13, 14]], [0, 0, 0, 0, 0, 0, 0, 0, 0, 0, 0, 0, 0, 0, 0, 0], [15], [[0], [54], [55], [56], [5], [0], [59], [60], [61], [5], [62, 63], [64], [65], [57, 58], [67], [68, 66]], Ob.intro (by kernel_rfl) ?_⟩
          repeat first | refine same ?_ | refine Ob.intro hb ?_ | refine optK_intro (rd_cellX sxC_len (v := str xn) (c := 1) rfl hx1 (by show 0 + ((j : Nat) : Int).toNat * 3 + 1 = _; omega) rfl) ?_
          refine wr_cellX sxC_len (c := 0) (xn, xn, _) rfl hx1 (by show 0 + ((j : Nat) : Int).toNat * 3 + 0 = _; omega) (Nat.le_of_ble_eq_true rfl) rfl ?_
          refine ⟨[0, 0, 0, 0, 0, 0, 0, 0, 0, 0, 0, 0, 0, 0, 0, 1], [[], [0], [0, 1], [0, 1, 2], [], [], [5], [5, 6], [5, 6, 7], [], [5, 6, 7, 8, 9], [5, 6, 7, 8, 9, 10], [5, 6, 7, 8, 9, 10, 11], [0, 1, 2, 3, 4, 5, 6, 7, 8, 9, 10, 11, 12], [0, 1, 2, 3, 4, 5, 6, 7, 8, 9, 10, 11, 12, 13], [0, 1, 2, 3, 4, 5, 6, 7, 8, 9, 10, 11, 12, 13, 14]], [0, 0, 0, 0, 0, 0, 0, 0, 0, 0, 0, 0, 0, 0, 0, 0], [15], [[0], [69], [70], [71], [5], [0], [74], [75], [76], [5], [77, 78], [79], [80], [72, 73], [82], [83, 81]], Ob.intro (by kernel_rfl) ?_⟩
          repeat first | refine same ?_ | refine Ob.intro hb ?_ | refine optK_intro (rd_cellX sxC_len (v := str xn) (c := 0) rfl (List.getElem?_set_self hlt) (by show 0 + ((j : Nat) : Int).toNat * 3 + 0 = _; omega) rfl) ?_
          refine wr_cellX sxC_len (c := 1) (xn, xn, _) rfl (List.getElem?_set_self hlt) (by show 0 + ((j : Nat) : Int).toNat * 3 + 1 = _; omega) (Nat.le_of_ble_eq_true rfl) rfl ?_
          refine Ob.intro hb ?_
          refine wr_cellX sxC_len (c := 2) (xn, xn, false) rfl (List.getElem?_set_self (by rw [List.length_set]; exact hlt)) (by show 0 + ((j : Nat) : Int).toNat * 3 + 2 = _; omega) (Nat.le_of_ble_eq_true rfl) rfl ?_
          refine hK ⟨j + 1, g⟩ [0, 1] _ (show N - j = N - (j + 1) + 1 by omega) ⟨⟨rfl, rfl, congrArg i64 (wincQ (by omega)), True.intro⟩, ⟨.inl ?_, .inl rfl, True.intro⟩, rfl, rfl, rfl⟩
          rw [renO_sx, hnext, List.set_set, List.set_set]
          rfl
  · have e6 : j = N := by have : ¬ (j : Int) < (N : Int) := h; omega
    subst e6
    exact endH rfl rfl rfl ⟨.inl rfl, .inl rfl, True.intro⟩ (Nat.le_refl 2) (rH_below ..) rfl
end
end Go.Proofs.Ytpkbdlocmjgmbaa.A
