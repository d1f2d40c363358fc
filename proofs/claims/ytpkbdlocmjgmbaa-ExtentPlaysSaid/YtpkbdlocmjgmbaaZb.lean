/- extent: the reference's New, Flush, Crash, Wet; Ints. No condition. -/
import Derived.Test.YtpkbdlocmjgmbaaZa
namespace Go.Proofs.Ytpkbdlocmjgmbaa.A
open Go
set_option linter.unusedVariables false
set_option linter.unusedSimpArgs false
set_option maxRecDepth 100000
set_option pp.maxSteps 600
section
variable {off : Bool} {n sec N : Nat} {S : List Sx} {e k : Int} {s : ByteArray} {x : Sx}
theorem zeros_sx (k : Nat) : zerosA ti71.zero k = flat sxC (List.replicate k (ByteArray.empty, ByteArray.empty, false)) := by
  unfold zerosA
  induction k with
  | zero => rfl
  | succ k ih => rw [List.replicate_succ, List.replicate_succ, List.flatten_cons, flat_cons, ih]; rfl
theorem refNew_bad (n sec : Int) (h : ¬ ((1 ≤ n ∧ n ≤ 32) ∧ 1 ≤ sec ∧ sec ≤ 128)) : ACalls Try.prog 16 [i64 n, i64 sec] [] (Ret (.tup [.sc (.pointer none), i64 1])) := by
  refine acalls_of_awp hT mixed Try.func16 rfl (by kernel_rfl) (by kernel_rfl) (Nat.le_of_ble_eq_true rfl) ?_
  refine forkD (fun h1 => end0 rfl rfl rfl rfl) (fun h1 => ?_)
  refine forkD (fun h2 => end0 rfl rfl rfl rfl) (fun h2 => ?_)
  refine forkD (fun h3 => end0 rfl rfl rfl rfl) (fun h3 => ?_)
  refine forkD (fun h4 => end0 rfl rfl rfl rfl) (fun h4 => absurd ⟨⟨?_, ?_⟩, ?_, ?_⟩ h)
  all_goals omega
theorem refNew_ok (h1 : 1 ≤ n) (h8 : n ≤ 32) (h2 : 1 ≤ sec) (h3 : sec ≤ 128) (hN : N = n * sec) : ACalls Try.prog 16 [i64 (n : Nat), i64 (sec : Nat)] [] (RetH (.tup [.ptr 1 0, i64 0]) (rH false n sec N (List.replicate N (ByteArray.empty, ByteArray.empty, false)))) := by
  have hm : N ≤ 4096 := by rw [hN]; exact Nat.mul_le_mul h8 h3
  have hw : wrp .i64 ((n : Int) * (sec : Int)) = ((N : Nat) : Int) := by
    rw [wrpE, wi64, hN, Int.natCast_mul]
    have : ((n * sec : Nat) : Int) = (n : Int) * sec := Int.natCast_mul ..
    rw [← this, ← hN]
    omega
  refine acalls_of_awp hT mixed Try.func16 rfl (by kernel_rfl) (by kernel_rfl) (Nat.le_of_ble_eq_true rfl) ?_
  refine forkD (fun h => ?_) (fun _ => ?_)
  · exact absurd h (by omega)
  refine forkD (fun h => ?_) (fun _ => ?_)
  · exact absurd h (by omega)
  refine forkD (fun h => ?_) (fun _ => ?_)
  · exact absurd h (by omega)
  refine forkD (fun h => ?_) (fun _ => ?_)
  · exact absurd h (by omega)
  refine Ob.intro (show (0 : Int) ≤ wrp .i64 ((n : Int) * (sec : Int)) ∧ wrp .i64 ((n : Int) * (sec : Int)) ≤ wrp .i64 ((n : Int) * (sec : Int)) ∧ wrp .i64 ((n : Int) * (sec : Int)) ≤ 140737488355328 ∧ (40 : Int) * wrp .i64 ((n : Int) * (sec : Int)) ≤ 140737488355328 from by rw [hw]; omega) ?_
  refine endH rfl rfl rfl ⟨.inl ?_, .inl ?_, True.intro⟩ (Nat.zero_le _) (rH_below ..) rfl
  · exact (congrArg AObj.row (zeros_sx N)).symm.trans (by rw [hw]; rfl)
  · rw [hw]
    rfl
theorem ints_same (l : List Int) (hl : l.length ≤ 1000000) : ACalls Try.prog 20 [iV l, iV l] [] (Ret (bo true)) := by
  refine acalls_of_awp hT mixed Try.func20 rfl (by kernel_rfl) (by kernel_rfl) (Nat.le_of_ble_eq_true rfl) ?_
  refine fork (fun h => ?_) (fun _ => ?_)
  · exact absurd rfl (bne_iff_ne.1 h)
  refine loopI (α := { i : Nat // i ≤ l.length }) (fun z => [(0, iV l), (1, iV l), (5, i64 (z.val : Nat))]) (fun z => []) (fun z => l.length - z.val) ⟨0, Nat.zero_le _⟩ [] ⟨⟨rfl, rfl, rfl, True.intro⟩, True.intro, rfl, rfl, rfl⟩ ?_
  rintro ⟨i, hi⟩ K hK
  dsimp only at hi ⊢
  refine forkD (fun h => ?_) (fun h => ?_)
  · have g : i < l.length := by have : (i : Int) < (l.length : Int) := h; omega
    obtain ⟨x, hx⟩ : ∃ x, l[i]? = some x := ⟨_, List.getElem?_eq_getElem g⟩
    have hb : (0 : Int) ≤ (i : Nat) ∧ ((i : Nat) : Int) < (l.length : Nat) := by omega
    refine ⟨[0, 0, 0, 0, 0, 0, 0, 0, 0], [[], [], [0, 1], [0, 1, 2], [], [], [4, 5], [4, 5, 6], [0, 1, 2, 3, 4, 5, 6, 7]], [0, 0, 0, 0, 0, 0, 0, 0, 0], [], [[0], [5], [17, 18], [19], [1], [5], [21, 22], [23], [20, 24]], Ob.intro (by kernel_rfl) ?_⟩
    repeat first | refine same ?_ | refine Ob.intro hb ?_ | refine optK_intro (nth_mapI (w := (i : Nat)) (g := i64) hx) ?_
    refine fork (fun h => ?_) (fun _ => ?_)
    · exact absurd rfl (bne_iff_ne.1 h)
    repeat first | refine same ?_ | refine Ob.intro hb ?_ | refine optK_intro (nth_mapI (w := (i : Nat)) (g := i64) hx) ?_
    exact hK ⟨i + 1, g⟩ [] _ (show l.length - i = l.length - (i + 1) + 1 by omega) ⟨⟨rfl, rfl, congrArg i64 (wincQ (by omega)), True.intro⟩, True.intro, rfl, rfl, rfl⟩
  · exact end0 rfl rfl rfl rfl
/-! ### Flush -/
def fl1 (x : Sx) : Sx := (x.2.1, x.2.1, false)
/-- Sectors from i on, j of them, are flushed. -/
def flS (S : List Sx) (i j : Nat) : List Sx := S.mapIdx fun k x => if i ≤ k ∧ k < i + j then fl1 x else x
theorem flS_len (i j : Nat) : (flS S i j).length = S.length := by unfold flS; rw [List.length_mapIdx]
theorem flS_get (i j k : Nat) : (flS S i j)[k]? = S[k]?.map fun x => if i ≤ k ∧ k < i + j then fl1 x else x := by unfold flS; rw [List.getElem?_mapIdx]
theorem flS_zero (i : Nat) : flS S i 0 = S := by
  refine List.ext_getElem? fun k => ?_
  rw [flS_get]
  cases S[k]? with
  | none => rfl
  | some x => rw [Option.map_some, if_neg (by omega)]
theorem flS_succ {i j : Nat} (hx : S[i + j]? = some x) : flS S i (j + 1) = (flS S i j).set (i + j) (fl1 x) := by
  refine List.ext_getElem? fun k => ?_
  have hlt := (List.getElem?_eq_some_iff.1 hx).1
  rw [List.getElem?_set, flS_get, flS_get, flS_len]
  by_cases hk : i + j = k
  · rw [if_pos hk, if_pos hlt, ← hk, hx, Option.map_some, if_pos (by omega)]
  · rw [if_neg hk]
    cases S[k]? with
    | none => rfl
    | some y =>
      rw [Option.map_some, Option.map_some]
      by_cases h2 : i ≤ k ∧ k < i + j
      · rw [if_pos h2, if_pos (by omega)]
      · rw [if_neg h2, if_neg (by omega)]
theorem refFlush_off : ACalls Try.prog 32 [.ptr 1 0, i64 e] (rH true n sec N S) (RetH (i64 6) (rH true n sec N S)) := by
  refine acalls_of_awp hT mixed Try.func32 rfl (by kernel_rfl) (by kernel_rfl) (Nat.le_of_ble_eq_true rfl) ?_
  exact endH rfl rfl rfl ⟨.inl rfl, .inl rfl, True.intro⟩ (Nat.le_refl 2) (rH_below ..) rfl
theorem refFlush_no (hn : n ≤ 1000) (hs : sec ≤ 1000) (hin : ¬ inS (sec : Nat) n e 0) : ACalls Try.prog 32 [.ptr 1 0, i64 e] (rH false n sec N S) (RetH (i64 1) (rH false n sec N S)) := by
  have ha := refAt_ok false n sec N hn hs e 0
  rw [ix_no hin] at ha
  refine acalls_of_awp hT mixed Try.func32 rfl (by kernel_rfl) (by kernel_rfl) (Nat.le_of_ble_eq_true rfl) ?_
  refine callW (cs := rwX false n sec N) (rest := [i64 e, i64 0]) ha rfl rfl rfl ?_
  exact endH rfl rfl rfl ⟨.inl rfl, .inl rfl, True.intro⟩ (Nat.le_refl 2) (rH_below ..) rfl
theorem refFlush_ok (hn : n ≤ 1000) (hs : sec ≤ 1000) (hN : N = n * sec) (hS : S.length = N) (hin : inS (sec : Nat) n e 0) : ACalls Try.prog 32 [.ptr 1 0, i64 e] (rH false n sec N S) (RetH (i64 0) (rH false n sec N (flS S (ixN sec e 0) sec))) := by
  have ha := refAt_ok false n sec N hn hs e 0
  have hfit : ixN sec e 0 + sec ≤ N := by
    obtain ⟨⟨h1, h2⟩, h3, h4⟩ := hin
    have : (e + 1) * (sec : Int) ≤ (n : Int) * sec := Int.mul_le_mul_of_nonneg_right (by omega) (by omega)
    rw [Int.add_mul] at this
    have h5 : ((n * sec : Nat) : Int) = (n : Int) * sec := by rw [Int.natCast_mul]
    have hm : 0 ≤ e * sec := Int.mul_nonneg h1 (by omega)
    unfold ixN
    omega
  have hNb : N ≤ 1000000 := by rw [hN]; exact Nat.mul_le_mul hn hs
  rw [(ix_in hin).1] at ha
  generalize ixN sec e 0 = i at *
  refine acalls_of_awp hT mixed Try.func32 rfl (by kernel_rfl) (by kernel_rfl) (Nat.le_of_ble_eq_true rfl) ?_
  refine callW (cs := rwX false n sec N) (rest := [i64 e, i64 0]) ha rfl rfl rfl ?_
  refine loopI (α := { j : Nat // j ≤ sec }) (fun z => [(0, .ptr 1 0), (5, i64 (i : Nat)), (6, i64 ((i + z.val : Nat) : Nat))]) (fun z => rH false n sec N (flS S i z.val)) (fun z => sec - z.val) ⟨0, Nat.zero_le _⟩ [0, 1] ⟨⟨rfl, rfl, rfl, True.intro⟩, ⟨.inl (by rw [renO_sx, flS_zero]; rfl), .inl rfl, True.intro⟩, rfl, rfl, rfl⟩ ?_
  rintro ⟨j, hj⟩ K hK
  dsimp only at hj ⊢
  have hw : wrp .i64 ((i : Int) + (sec : Int)) = ((i + sec : Nat) : Int) := by rw [wrpE, wi64]; omega
  refine forkD (fun h => ?_) (fun h => ?_)
  · rw [hw] at h
    have g : j < sec := by have : ((i + j : Nat) : Int) < ((i + sec : Nat) : Int) := h; omega
    obtain ⟨x, hx⟩ : ∃ x, S[i + j]? = some x := ⟨_, List.getElem?_eq_getElem (by omega)⟩
    have hx1 : (flS S i j)[i + j]? = some x := by rw [flS_get, hx, Option.map_some, if_neg (by omega)]
    have hb : (0 : Int) ≤ ((i + j : Nat) : Nat) ∧ (((i + j : Nat) : Nat) : Int) < (N : Nat) := by omega
    have hs2 : ((flS S i j).set (i + j) (x.2.1, x.2.1, x.2.2))[i + j]? = some (x.2.1, x.2.1, x.2.2) := List.getElem?_set_self (List.getElem?_eq_some_iff.1 hx1).1
    generalize hp : i + j = p at *
    refine ⟨[0, 0, 0, 0, 0, 0, 0, 0, 0, 0, 0, 0, 0, 0, 0, 1], [[], [0], [0, 1], [0, 1, 2], [], [], [5], [5, 6], [5, 6, 7], [], [5, 6, 7, 8, 9], [5, 6, 7, 8, 9, 10], [5, 6, 7, 8, 9, 10, 11], [0, 1, 2, 3, 4, 5, 6, 7, 8, 9, 10, 11, 12], [0, 1, 2, 3, 4, 5, 6, 7, 8, 9, 10, 11, 12, 13], [0, 1, 2, 3, 4, 5, 6, 7, 8, 9, 10, 11, 12, 13, 14]], [0, 0, 0, 0, 0, 0, 0, 0, 0, 0, 0, 0, 0, 0, 0, 0], [15], [[0], [27], [28], [29], [6], [0], [32], [33], [34], [6], [35, 36], [37], [38], [30, 31], [40], [41, 39]], Ob.intro (by kernel_rfl) ?_⟩
    repeat first | refine same ?_ | refine Ob.intro hb ?_ | refine optK_intro (rd_cellX sxC_len (v := str x.2.1) (c := 1) rfl hx1 (by show 0 + ((p : Nat) : Int).toNat * 3 + 1 = _; omega) rfl) ?_
    refine wr_cellX sxC_len (c := 0) (x.2.1, x.2.1, x.2.2) rfl hx1 (by show 0 + ((p : Nat) : Int).toNat * 3 + 0 = _; omega) (Nat.le_of_ble_eq_true rfl) rfl ?_
    refine Ob.intro hb ?_
    refine wr_cellX sxC_len (c := 2) (fl1 x) rfl hs2 (by show 0 + ((p : Nat) : Int).toNat * 3 + 2 = _; omega) (Nat.le_of_ble_eq_true rfl) rfl ?_
    refine hK ⟨j + 1, g⟩ [0, 1] _ (show sec - j = sec - (j + 1) + 1 by omega) ⟨⟨rfl, rfl, congrArg i64 ?_, True.intro⟩, ⟨.inl ?_, .inl rfl, True.intro⟩, rfl, rfl, rfl⟩
    · rw [← Nat.add_assoc, hp]
      exact wincQ (by omega)
    · rw [renO_sx, List.set_set, flS_succ (by rw [hp]; exact hx), hp]
      rfl
  · rw [hw] at h
    have e6 : j = sec := by have : ¬ ((i + j : Nat) : Int) < ((i + sec : Nat) : Int) := h; omega
    subst e6
    exact endH rfl rfl rfl ⟨.inl rfl, .inl rfl, True.intro⟩ (Nat.le_refl 2) (rH_below ..) rfl
end
end Go.Proofs.Ytpkbdlocmjgmbaa.A
