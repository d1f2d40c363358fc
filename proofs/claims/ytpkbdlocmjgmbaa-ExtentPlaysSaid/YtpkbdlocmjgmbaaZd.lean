/- extent: the reference's Wet. No condition. -/
import Derived.Test.YtpkbdlocmjgmbaaZc
namespace Go.Proofs.Ytpkbdlocmjgmbaa.A
open Go
set_option linter.unusedVariables false
set_option linter.unusedSimpArgs false
set_option maxRecDepth 100000
set_option pp.maxSteps 600
theorem frz_iV {H : Heap} {i n : Nat} {l : List Int} (h : nth H i = some (.row (l.map i64))) (hn : n = l.length) (hm : Nat.blt i 2 = false) (k : Nat) : frz H 2 (k + 2) (.slc i 0 n 1) = some (iV l) := by
  subst hn
  have h1 : rdN H i 0 (l.length * 1) = some (l.map i64) := rdN_all h (by rw [List.length_map]; omega)
  have h2 : mapO (frz0 H 2 (k + 1)) (l.map i64) = some (l.map i64) := mapO_map (f := frz0 H 2 (k + 1)) (g := i64) (h := i64) (fun _ => rfl) l
  simp only [frz, frz0, hm, cond_false, h1, h2]
  rfl
theorem renO_i64 (r : Nat → Nat) (l : List Int) : renO r (.row (l.map i64)) = .row (l.map i64) := by
  rw [renO, renL_map (fun _ _ => rfl)]
section
variable {off : Bool} {n sec N : Nat} {S : List Sx} {e k : Int} {s : ByteArray} {x : Sx}
def isWx (n sec : Nat) (S : List Sx) (e : Int) (k : Nat) : Bool := if inS (sec : Nat) n e (k : Nat) then ((S[ixN sec e (k : Nat)]?.map fun x => x.2.2).getD false) else false
/-- What is wet of an extent. -/
def wxL (n sec : Nat) (S : List Sx) (e : Int) (j : Nat) : List Int := ((List.range j).filter (isWx n sec S e)).map fun k : Nat => (k : Int)
theorem wxL_succ (j : Nat) : wxL n sec S e (j + 1) = wxL n sec S e j ++ (if isWx n sec S e j = true then [(j : Int)] else []) := by
  unfold wxL
  rw [List.range_succ, List.filter_append, List.map_append]
  congr 1
  rw [List.filter_cons]
  split <;> rfl
theorem wxL_len (j : Nat) : (wxL n sec S e j).length ≤ j := by
  unfold wxL
  rw [List.length_map]
  exact Nat.le_trans (List.length_filter_le ..) (by rw [List.length_range]; exact Nat.le_refl _)
def wxO (n sec : Nat) (S : List Sx) (e : Int) (j : Nat) : AObj := .row ((wxL n sec S e j).map i64)
theorem renO_wx (r : Nat → Nat) (j : Nat) : renO r (wxO n sec S e j) = wxO n sec S e j := renO_i64 r _
theorem refWet_ok (hn : n ≤ 1000) (hs : sec ≤ 1000) (hN : N = n * sec) (hS : S.length = N) : ACalls Try.prog 21 [.ptr 1 0, i64 e] (rH off n sec N S) (RetH (iV (wxL n sec S e sec)) (rH off n sec N S)) := by
  refine acalls_of_awp hT mixed Try.func21 rfl (by kernel_rfl) (by kernel_rfl) (Nat.le_of_ble_eq_true rfl) ?_
  refine loopI (α := { j : Nat // j ≤ sec }) (fun z => [(0, .ptr 1 0), (1, i64 e), (5, .slc 2 0 (wxL n sec S e z.val).length 1), (6, i64 (z.val : Nat))]) (fun z => rH off n sec N S ++ [wxO n sec S e z.val]) (fun z => sec - z.val) ⟨0, Nat.zero_le _⟩ [0, 1, 2] ⟨⟨rfl, rfl, rfl, rfl, True.intro⟩, ⟨oX rfl, .inl rfl, .inl rfl, True.intro⟩, rfl, rfl, rfl⟩ ?_
  rintro ⟨j, hj⟩ K hK
  dsimp only at hj ⊢
  refine forkD (fun h => ?_) (fun h => ?_)
  · have g : j < sec := by have : (j : Int) < (sec : Int) := h; omega
    have ha := refAt_ok off n sec N hn hs e (j : Nat)
    have hsu := wxL_succ (n := n) (sec := sec) (S := S) (e := e) j
    have hll := wxL_len (n := n) (sec := sec) (S := S) (e := e) j
    by_cases hin : inS (sec : Nat) n e (j : Nat)
    · obtain ⟨x, hx⟩ : ∃ x, S[ixN sec e (j : Nat)]? = some x := ⟨_, List.getElem?_eq_getElem (by have := (ix_in hin).2; omega)⟩
      have hw : isWx n sec S e j = x.2.2 := by unfold isWx; rw [if_pos hin, hx]; rfl
      have hlt := (ix_in hin).2
      rw [(ix_in hin).1] at ha
      rw [hw] at hsu
      clear hw
      generalize ixN sec e (j : Nat) = i at *
      refine callW (cs := rwX off n sec N) (rest := [i64 e, i64 (j : Nat)]) ha rfl rfl rfl ?_
      refine Ob.intro (show (0 : Int) ≤ (i : Nat) ∧ ((i : Nat) : Int) < (N : Nat) by omega) ?_
      refine optK_intro (rd_cellX sxC_len (v := bo x.2.2) (c := 2) rfl hx (by show 0 + ((i : Nat) : Int).toNat * 3 + 2 = _; omega) rfl) ?_
      obtain ⟨xd, xn, xb⟩ := x
      dsimp only at hsu ⊢
      cases xb
      · have hsk : wxL n sec S e (j + 1) = wxL n sec S e j := by rw [hsu, if_neg (by decide), List.append_nil]
        exact hK ⟨j + 1, g⟩ [0, 1, 2] _ (show sec - j = sec - (j + 1) + 1 by omega) ⟨⟨rfl, rfl, congrArg (fun l : List Int => AV.slc 2 0 l.length 1) hsk.symm, congrArg i64 (wincQ (by omega)), True.intro⟩, ⟨oX rfl, .inl rfl, .inl (by rw [renO_wx]; exact congrArg (fun l : List Int => some (AObj.row (l.map i64))) hsk.symm), True.intro⟩, rfl, rfl, rfl⟩
      · refine Ob.intro rfl ?_
        refine optK_intro (a := (wxL n sec S e j).map i64) ?_ ?_
        · exact rdN_all rfl (by rw [List.length_map]; omega)
        refine Ob.intro (show ((wxL n sec S e j).length + 1) * 8 ≤ 140737488355328 ∧ (wxL n sec S e j).length + 1 ≤ 9223372036854775807 by omega) ?_
        rw [if_pos rfl] at hsu
        refine hK ⟨j + 1, g⟩ [0, 1, 4] _ (show sec - j = sec - (j + 1) + 1 by omega) ⟨⟨rfl, rfl, ?_, congrArg i64 (wincQ (by omega)), True.intro⟩, ⟨oX rfl, .inl rfl, .inl ?_, True.intro⟩, rfl, rfl, rfl⟩
        · dsimp only
          rw [hsu, List.length_append]
          rfl
        · rw [renO_wx]
          unfold wxO
          rw [hsu, List.map_append]
          rfl
    · have hsk : wxL n sec S e (j + 1) = wxL n sec S e j := by rw [hsu, show isWx n sec S e j = false from if_neg hin, if_neg (by decide), List.append_nil]
      rw [ix_no hin] at ha
      refine callW (cs := rwX off n sec N) (rest := [i64 e, i64 (j : Nat)]) ha rfl rfl rfl ?_
      exact hK ⟨j + 1, g⟩ [0, 1, 2] _ (show sec - j = sec - (j + 1) + 1 by omega) ⟨⟨rfl, rfl, congrArg (fun l : List Int => AV.slc 2 0 l.length 1) hsk.symm, congrArg i64 (wincQ (by omega)), True.intro⟩, ⟨oX rfl, .inl rfl, .inl (by rw [renO_wx]; exact congrArg (fun l : List Int => some (AObj.row (l.map i64))) hsk.symm), True.intro⟩, rfl, rfl, rfl⟩
  · have e6 : j = sec := by have : ¬ (j : Int) < (sec : Int) := h; omega
    subst e6
    exact endH rfl rfl (frz_iV rfl rfl rfl 6) ⟨.inl rfl, .inl rfl, True.intro⟩ (Nat.le_refl 2) (rH_below ..) rfl
end
end Go.Proofs.Ytpkbdlocmjgmbaa.A
