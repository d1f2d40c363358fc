/- extent: the law ExtentPlays (printed by genplays.py). No condition. -/
import Derived.Test.YtpkbdlocmjgmbaaZg
namespace Go.Proofs.Ytpkbdlocmjgmbaa.A
open Go
set_option linter.unusedVariables false
set_option linter.unusedSimpArgs false
set_option maxRecDepth 100000
set_option pp.maxSteps 600
abbrev dlZh1a : List Nat := [0, 0, 0, 1, 1, 1, 1, 1, 1, 1, 1, 1, 2, 2, 2, 2, 2, 3, 2, 2, 2, 2, 3, 3, 3, 3, 3, 3, 4, 3, 3, 3, 5, 6, 6, 6]
abbrev dlZh1b : List (List Nat) := [[], [], [], [0, 1, 2], [0, 1, 2, 3], [0, 1, 2, 3, 4], [0, 1, 2, 3, 4, 5], [0, 1, 2, 3, 4, 5], [0, 1, 2, 3, 4, 5], [0, 1, 2, 3, 4, 5, 8], [0, 1, 2, 3, 4, 5], [0, 1, 2, 3, 4, 5, 10], [0, 1, 2, 3, 4, 5, 6, 7, 8, 9, 10, 11], [0, 1, 2, 3, 4, 5, 6, 7, 8, 9, 10, 11, 12], [0, 1, 2, 3, 4, 5, 6, 7, 8, 9, 10, 11, 12, 13], [0, 1, 2, 3, 4, 5, 6, 7, 8, 9, 10, 11, 12, 13, 14], [0, 1, 2, 3, 4, 5, 6, 7, 8, 9, 10, 11, 12, 13, 14, 15], [0, 1, 2, 3, 4, 5, 6, 7, 8, 9, 10, 11, 12, 13, 14, 15, 16], [0, 1, 2, 3, 4, 5, 6, 7, 8, 9, 10, 11, 12, 13, 14, 15], [0, 1, 2, 3, 4, 5, 6, 7, 8, 9, 10, 11, 12, 13, 14, 15, 18], [0, 1, 2, 3, 4, 5, 6, 7, 8, 9, 10, 11, 12, 13, 14, 15, 18, 19], [0, 1, 2, 3, 4, 5, 6, 7, 8, 9, 10, 11, 12, 13, 14, 15, 18, 19, 20], [0, 1, 2, 3, 4, 5, 6, 7, 8, 9, 10, 11, 12, 13, 14, 15, 16, 17, 18, 19, 20, 21], [0, 1, 2, 3, 4, 5, 6, 7, 8, 9, 10, 11, 12, 13, 14, 15, 16, 17, 18, 19, 20, 21, 22], [0, 1, 2, 3, 4, 5, 6, 7, 8, 9, 10, 11, 12, 13, 14, 15, 16, 17, 18, 19, 20, 21, 22, 23], [0, 1, 2, 3, 4, 5, 6, 7, 8, 9, 10, 11, 12, 13, 14, 15, 16, 17, 18, 19, 20, 21, 22, 23, 24], [0, 1, 2, 3, 4, 5, 6, 7, 8, 9, 10, 11, 12, 13, 14, 15, 16, 17, 18, 19, 20, 21, 22, 23, 24], [0, 1, 2, 3, 4, 5, 6, 7, 8, 9, 10, 11, 12, 13, 14, 15, 16, 17, 18, 19, 20, 21, 22, 23, 24, 26], [0, 1, 2, 3, 4, 5, 6, 7, 8, 9, 10, 11, 12, 13, 14, 15, 16, 17, 18, 19, 20, 21, 22, 23, 24, 25, 26, 27], [0, 1, 2, 3, 4, 5, 6, 7, 8, 9, 10, 11, 12, 13, 14, 15, 16, 17, 18, 19, 20, 21, 22, 23, 24], [0, 1, 2, 3, 4, 5, 6, 7, 8, 9, 10, 11, 12, 13, 14, 15, 16, 17, 18, 19, 20, 21, 22, 23, 24], [0, 1, 2, 3, 4, 5, 6, 7, 8, 9, 10, 11, 12, 13, 14, 15, 16, 17, 18, 19, 20, 21, 22, 23, 24, 30], [0, 1, 2, 3, 4, 5, 6, 7, 8, 9, 10, 11, 12, 13, 14, 15, 16, 17, 18, 19, 20, 21, 22, 23, 24, 25, 26, 27, 28, 29, 30, 31], [0, 1, 2, 3, 4, 5, 6, 7, 8, 9, 10, 11, 12, 13, 14, 15, 16, 17, 18, 19, 20, 21, 22, 23, 24, 25, 26, 27, 28, 29, 30, 31, 32], [0, 1, 2, 3, 4, 5, 6, 7, 8, 9, 10, 11, 12, 13, 14, 15, 16, 17, 18, 19, 20, 21, 22, 23, 24, 25, 26, 27, 28, 29, 30, 31, 32, 33], [0, 1, 2, 3, 4, 5, 6, 7, 8, 9, 10, 11, 12, 13, 14, 15, 16, 17, 18, 19, 20, 21, 22, 23, 24, 25, 26, 27, 28, 29, 30, 31, 32, 33, 34]]
abbrev dlZh1c : List Nat := [0, 0, 0, 0, 0, 0, 0, 0, 0, 0, 0, 0, 0, 0, 0, 0, 0, 0, 0, 0, 0, 0, 0, 0, 0, 0, 0, 0, 0, 0, 0, 0, 0, 0, 0, 0]
abbrev dlZh1d : List Nat := [3, 12, 17, 28, 32, 33]
abbrev dlZh1e : List (List Nat) := [[7], [9], [12], [81, 82, 83], [84], [85], [7, 86], [9, 86], [12, 86], [89, 86], [12, 86], [91, 86], [87, 88, 90, 92, 86], [93, 86], [86, 94], [95], [7, 96], [97, 96], [9, 96], [99, 96], [100, 96], [101, 96], [98, 102, 96], [96, 103], [104], [7, 105], [12, 105], [107, 105], [106, 108, 105], [9, 105], [12, 105], [111, 105], [110, 112, 105], [109, 113, 105], [114, 105], [105, 115]]
def refO (q : Nat) (w : Wd) (n sec : Nat) : Heap := rE q w.off n sec (n * sec) (secsOf w n sec)
theorem wet_len {w : Wd} {n sec : Nat} (hi : w.is n sec) (e : Int) : (w.wet e).length ≤ sec := by
  unfold Wd.wet
  split
  · rename_i m hm
    split
    · have hmm := List.mem_of_getElem? hm
      have := len_keys (hi.ok.mp m hmm) (fun x hx => hi.ok.ks m hmm x hx)
      unfold ksE
      rw [List.length_mergeSort, List.length_map, ← hi.s]
      exact this
    · exact Nat.zero_le _
  · exact Nat.zero_le _
theorem wet_in {w : Wd} {n sec : Nat} (hi : w.is n sec) (hn : n ≤ 1000) (hs : sec ≤ 1000) {e : Int} (he : 0 ≤ e ∧ e < n) :
    ACalls Try.prog 15 [.ptr 0 0, i64 e] w.H (RetH (iV (w.wet e)) w.H) ∧ ACalls Try.prog 21 [.ptr 1 0, i64 e] (refH w n sec) (RetH (iV (w.wet e)) (refH w n sec)) ∧ ACalls Try.prog 20 [iV (w.wet e), iV (w.wet e)] [] (Ret (bo true)) := by
  have h2 := refWetW (e := e) hi hn hs
  rw [if_pos he] at h2
  exact ⟨wetW w hi.ok e (by rw [hi.n]; exact he), h2, ints_same _ (by have := wet_len hi e; omega)⟩
theorem wet_out {w : Wd} {n sec : Nat} (hi : w.is n sec) (hn : n ≤ 1000) (hs : sec ≤ 1000) {e : Int} (he : ¬ (0 ≤ e ∧ e < n)) :
    ACalls Try.prog 15 [.ptr 0 0, i64 e] w.H (RetH nilS w.H) ∧ ACalls Try.prog 21 [.ptr 1 0, i64 e] (refH w n sec) (RetH (iV []) (refH w n sec)) ∧ ACalls Try.prog 20 [nilS, iV []] [] (Ret (bo true)) := by
  have h2 := refWetW (e := e) hi hn hs
  rw [if_neg he] at h2
  refine ⟨liftW w ?_ rfl rfl, h2, nilArg (ints_same [] (by simp))⟩
  rw [hi.ok.len, hi.n]
  exact wet_ref w.off (w.sec : Nat) n e he
structure PlA (n sec : Nat) where
  i : Nat
  w : Wd
  hi : i ≤ 120
  is : w.is n sec

theorem callM_1 {P : Program} {g : FuncId} {bs args : List AV} {o o' : Bool} {sec n' sec' N : Nat} {d0 : List ByteArray} {m0 : Mp} {S : List Sx} {K : AV → Heap → Prop} {Kp : Value → Heap → Prop} (h : ACalls P g bs [] (RetH (.tup [.ptr 1 0, i64 0]) (rH o' n' sec' N S)))
    (ha : args = renL (rn [] (Wd.mk o sec [d0] [m0]).H.length) bs) (k : K (.tup [.ptr 6 0, i64 0]) ((Wd.mk o sec [d0] [m0]).H ++ rE 5 o' n' sec' N S)) : ACalls P g args (Wd.mk o sec [d0] [m0]).H (panK K Kp) :=
  callH h [] ha True.intro rfl rfl (by unfold merge rH; simp only [renH, renO_sx]; rfl) k
theorem callB_1 {P : Program} {g : FuncId} {bs args : List AV} {v : AV} {o o' : Bool} {sec : Nat} {d0 x0 : List ByteArray} {m0 y0 : Mp} {E : Heap} {K : AV → Heap → Prop} {Kp : Value → Heap → Prop}
    (h : ACalls P g bs ((Wd.mk o sec [d0] [m0]).H ++ rEw 5 ⟨o, sec, [d0], [m0]⟩ 1 sec) (RetH v ((Wd.mk o' sec [x0] [y0]).H ++ rEw 5 ⟨o', sec, [x0], [y0]⟩ 1 sec)))
    (ha : args = renL (rn [0, 1, 2, 3, 4, 5, 6] ((Wd.mk o sec [d0] [m0]).H ++ (refO 5 ⟨o, sec, [d0], [m0]⟩ 1 sec ++ E)).length) bs) (hv : ren (rn [0, 1, 2, 3, 4, 5, 6] ((Wd.mk o sec [d0] [m0]).H ++ (refO 5 ⟨o, sec, [d0], [m0]⟩ 1 sec ++ E)).length) v = v)
    (k : K v ((Wd.mk o' sec [x0] [y0]).H ++ (refO 5 ⟨o', sec, [x0], [y0]⟩ 1 sec ++ E))) :
    ACalls P g args ((Wd.mk o sec [d0] [m0]).H ++ (refO 5 ⟨o, sec, [d0], [m0]⟩ 1 sec ++ E)) (panK K Kp) :=
  callH h [0, 1, 2, 3, 4, 5, 6] ha ⟨.inl rfl, .inl rfl, .inl rfl, oS rfl, oM rfl, oX rfl, .inl rfl, True.intro⟩ rfl hv (by unfold rEw rE Wd.H merge; simp only [List.map_cons, List.map_nil, List.cons_append, List.nil_append, renH, renO_str, renO_mp, renO_sx]; exact Eq.trans (List.append_nil _) rfl) k
theorem plays_1 (sec : Nat) (hs1 : 1 ≤ sec) (hs2 : sec ≤ 20) (L : List Xa) : ACalls Try.prog 5 [i64 (1 : Nat), i64 (sec : Nat), .view L.length (flat xaC L)] [] (Ret (bo true)) := by
  refine acalls_of_awpC [16] hT mixed Try.func5 rfl (by kernel_rfl) (by kernel_rfl) (Nat.le_of_ble_eq_true rfl) ?_
  refine callP awakeX_ok rfl rfl ?_
  refine forkD (fun h => ?_) (fun _ => ?_)
  · exact absurd h (by omega)
  refine callN_1 (newE_ok 1 sec (by omega) (by omega) hs1 (by omega)) (new_is (by omega) (by omega)) rfl rfl (fun o x0 y0 e => ?_)
  have i0 : (⟨o, sec, [x0], [y0]⟩ : Wd).is 1 sec := e ▸ new_is (by omega) (by omega)
  have cm := refNewW (n := 1) (sec := sec) (by omega) (by omega) hs1 (by omega)
  unfold refH at cm
  rw [e] at cm
  refine callM_1 cm rfl ?_
  clear e cm
  refine cutI (α := { w : Wd // w.is 1 sec }) (fun z => [(0, i64 (1 : Nat)), (1, i64 (sec : Nat)), (7, .ptr 0 0), (9, .ptr 6 0)]) (fun z => z.val.H ++ refO 5 z.val 1 sec) [] (fun K1 hK1 => ?_) (fun z => ?_)
  · refine loopI (α := PlA 1 sec) (fun z => [(0, i64 (1 : Nat)), (1, i64 (sec : Nat)), (2, .view L.length (flat xaC L)), (7, .ptr 0 0), (9, .ptr 6 0), (11, i64 (z.i : Nat))]) (fun z => z.w.H ++ refO 5 z.w 1 sec) (fun z => 120 - z.i) (PlA.mk 0 ⟨o, sec, [x0], [y0]⟩ (Nat.zero_le _) i0) [0, 1, 2, 3, 4, 5, 6] ⟨⟨rfl, rfl, rfl, rfl, rfl, rfl, True.intro⟩, ⟨.inl rfl, .inl rfl, .inl rfl, oS rfl, oM rfl, oX rfl, .inl rfl, True.intro⟩, rfl, rfl, rfl⟩ ?_
    clear i0
    rintro ⟨i, w, hi, hw⟩ K hK
    dsimp only at hi ⊢
    obtain ⟨o, d0, m0, rfl⟩ := tell_1 hw
    have out := hK1 ⟨⟨o, sec, [d0], [m0]⟩, hw⟩ [] [0, 1, 2, 3, 4, 5, 6]
    dsimp only at out
    refine forkD (fun h => ?_) (fun h => ?_)
    · refine forkD (fun h2 => ?_) (fun h2 => ?_)
      · have g : i < L.length := by have : (i : Int) < (L.length : Int) := h; omega
        have g2 : i < 120 := by have : (i : Int) < 120 := h2; omega
        obtain ⟨⟨k, e, a, s, ps⟩, hx⟩ : ∃ x, L[i]? = some x := ⟨_, List.getElem?_eq_getElem g⟩
        refine Ob.intro (show (0 : Int) ≤ (i : Nat) ∧ ((i : Nat) : Int) < (L.length : Nat) by omega) ?_
        refine optK_intro (flat_takeN (f := xaC) (n := 5) (fun _ => rfl) hx) ?_
        refine forkD (fun _ => ?_) (fun _ => ?_)
        · exact hK (PlA.mk (i + 1) ⟨o, sec, [d0], [m0]⟩ (by omega) hw) [0, 1, 2, 3, 4, 5, 6] _ (show 120 - i = 120 - (i + 1) + 1 by omega) ⟨⟨rfl, rfl, rfl, rfl, rfl, congrArg i64 (wincQ (by omega)), True.intro⟩, ⟨.inl rfl, .inl rfl, .inl rfl, oS rfl, oM rfl, oX rfl, .inl rfl, True.intro⟩, rfl, rfl, rfl⟩
        refine forkD (fun _ => ?_) (fun hp => ?_)
        · exact hK (PlA.mk (i + 1) ⟨o, sec, [d0], [m0]⟩ (by omega) hw) [0, 1, 2, 3, 4, 5, 6] _ (show 120 - i = 120 - (i + 1) + 1 by omega) ⟨⟨rfl, rfl, rfl, rfl, rfl, congrArg i64 (wincQ (by omega)), True.intro⟩, ⟨.inl rfl, .inl rfl, .inl rfl, oS rfl, oM rfl, oX rfl, .inl rfl, True.intro⟩, rfl, rfl, rfl⟩
        have hps : ps.length ≤ 100 := by have : ¬ (ps.length : Int) > 100 := hp; omega
        have cd := does_1 ⟨o, sec, [d0], [m0]⟩ hw (by omega) ⟨k, e, a, s, ps⟩ hps
        have hi' := play_is hw ⟨k, e, a, s, ps⟩
        generalize Wd.play ⟨o, sec, [d0], [m0]⟩ ⟨k, e, a, s, ps⟩ = w' at cd hi'
        obtain ⟨o', x0, y0, rfl⟩ := tell_1 hi'
        have cl := alike_1 ⟨o', sec, [x0], [y0]⟩ hi' (by omega) e a
        have co := on_ok o' (sec : Nat) 1
        by_cases he : 0 ≤ e ∧ e < ((1 : Nat) : Int)
        · obtain ⟨cw, cm, ci⟩ := wet_in hi' (by omega) (by omega) he
          unfold refH at cm
          cases o' <;>
          · refine ⟨dlZh1a, dlZh1b, dlZh1c, dlZh1d, dlZh1e, Ob.intro (by kernel_rfl) ?_⟩
            repeat refine same ?_
            refine callB_1 (E := [.row (xaC ⟨k, e, a, s, ps⟩)]) cd rfl rfl ?_
            repeat refine same ?_
            refine callB_1 (E := [.row (xaC ⟨k, e, a, s, ps⟩)]) cl rfl rfl ?_
            repeat refine same ?_
            refine callW (cs := [bo _, i64 (sec : Nat), .slc 1 0 1 1, .slc 2 0 1 1]) (rest := []) co rfl rfl rfl ?_
            repeat refine same ?_
            refine callU_1 (E := refO 5 ⟨_, sec, [x0], [y0]⟩ 1 sec ++ [.row (xaC ⟨k, e, a, s, ps⟩)]) cw rfl rfl hi' rfl rfl ?_
            repeat refine same ?_
            refine callR_1 (E := [.row (xaC ⟨k, e, a, s, ps⟩)]) cm rfl rfl ?_
            repeat refine same ?_
            refine callP ci rfl rfl ?_
            repeat refine same ?_
            exact hK (PlA.mk (i + 1) ⟨_, sec, [x0], [y0]⟩ (by omega) hi') [0, 1, 2, 3, 4, 5, 6] _ (show 120 - i = 120 - (i + 1) + 1 by omega) ⟨⟨rfl, rfl, rfl, rfl, rfl, congrArg i64 (wincQ (by omega)), True.intro⟩, ⟨.inl rfl, .inl rfl, .inl rfl, oS rfl, oM rfl, oX rfl, .inl rfl, True.intro⟩, rfl, rfl, rfl⟩
        · obtain ⟨cw, cm, ci⟩ := wet_out hi' (by omega) (by omega) he
          unfold refH at cm
          cases o' <;>
          · refine ⟨dlZh1a, dlZh1b, dlZh1c, dlZh1d, dlZh1e, Ob.intro (by kernel_rfl) ?_⟩
            repeat refine same ?_
            refine callB_1 (E := [.row (xaC ⟨k, e, a, s, ps⟩)]) cd rfl rfl ?_
            repeat refine same ?_
            refine callB_1 (E := [.row (xaC ⟨k, e, a, s, ps⟩)]) cl rfl rfl ?_
            repeat refine same ?_
            refine callW (cs := [bo _, i64 (sec : Nat), .slc 1 0 1 1, .slc 2 0 1 1]) (rest := []) co rfl rfl rfl ?_
            repeat refine same ?_
            refine callU_1 (E := refO 5 ⟨_, sec, [x0], [y0]⟩ 1 sec ++ [.row (xaC ⟨k, e, a, s, ps⟩)]) cw rfl rfl hi' rfl rfl ?_
            repeat refine same ?_
            refine callR_1 (E := [.row (xaC ⟨k, e, a, s, ps⟩)]) cm rfl rfl ?_
            repeat refine same ?_
            refine callP ci rfl rfl ?_
            repeat refine same ?_
            exact hK (PlA.mk (i + 1) ⟨_, sec, [x0], [y0]⟩ (by omega) hi') [0, 1, 2, 3, 4, 5, 6] _ (show 120 - i = 120 - (i + 1) + 1 by omega) ⟨⟨rfl, rfl, rfl, rfl, rfl, congrArg i64 (wincQ (by omega)), True.intro⟩, ⟨.inl rfl, .inl rfl, .inl rfl, oS rfl, oM rfl, oX rfl, .inl rfl, True.intro⟩, rfl, rfl, rfl⟩
      · exact out _ ⟨⟨rfl, rfl, rfl, rfl, True.intro⟩, ⟨.inl rfl, .inl rfl, .inl rfl, oS rfl, oM rfl, oX rfl, .inl rfl, True.intro⟩, rfl, rfl, rfl⟩
    · exact out _ ⟨⟨rfl, rfl, rfl, rfl, True.intro⟩, ⟨.inl rfl, .inl rfl, .inl rfl, oS rfl, oM rfl, oX rfl, .inl rfl, True.intro⟩, rfl, rfl, rfl⟩
  obtain ⟨w, hw⟩ := z
  dsimp only
  obtain ⟨o, d0, m0, rfl⟩ := tell_1 hw
  refine loopI (α := { j : Nat // j ≤ 1 }) (fun z => [(0, i64 (1 : Nat)), (1, i64 (sec : Nat)), (7, .ptr 0 0), (9, .ptr 6 0), (13, i64 (z.val : Nat))]) (fun z => (Wd.mk o sec [d0] [m0]).H ++ refO 5 ⟨o, sec, [d0], [m0]⟩ 1 sec) (fun z => 1 - z.val) ⟨0, Nat.zero_le _⟩ [0, 1, 2, 3, 4, 5, 6] ⟨⟨rfl, rfl, rfl, rfl, rfl, True.intro⟩, ⟨.inl rfl, .inl rfl, .inl rfl, oS rfl, oM rfl, oX rfl, .inl rfl, True.intro⟩, rfl, rfl, rfl⟩ ?_
  rintro ⟨j, hj⟩ K hK
  dsimp only at hj ⊢
  refine forkD (fun h => ?_) (fun h => ?_)
  · have g : j < 1 := by have : (j : Int) < ((1 : Nat) : Int) := h; omega
    refine loopI (α := { t : Nat // t ≤ sec }) (fun z => [(0, i64 (1 : Nat)), (1, i64 (sec : Nat)), (7, .ptr 0 0), (9, .ptr 6 0), (13, i64 (j : Nat)), (14, i64 (z.val : Nat))]) (fun z => (Wd.mk o sec [d0] [m0]).H ++ refO 5 ⟨o, sec, [d0], [m0]⟩ 1 sec) (fun z => sec - z.val) ⟨0, Nat.zero_le _⟩ [0, 1, 2, 3, 4, 5, 6] ⟨⟨rfl, rfl, rfl, rfl, rfl, rfl, True.intro⟩, ⟨.inl rfl, .inl rfl, .inl rfl, oS rfl, oM rfl, oX rfl, .inl rfl, True.intro⟩, rfl, rfl, rfl⟩ ?_
    rintro ⟨t, ht⟩ K2 hK2
    dsimp only at ht ⊢
    refine forkD (fun h2 => ?_) (fun h2 => ?_)
    · have g2 : t < sec := by have : (t : Int) < (sec : Int) := h2; omega
      have cl := alike_1 ⟨o, sec, [d0], [m0]⟩ hw (by omega) (j : Nat) (t : Nat)
      refine callB_1 (E := []) cl rfl rfl ?_
      exact hK2 ⟨t + 1, g2⟩ [0, 1, 2, 3, 4, 5, 6] _ (show sec - t = sec - (t + 1) + 1 by omega) ⟨⟨rfl, rfl, rfl, rfl, rfl, congrArg i64 (wincQ (by omega)), True.intro⟩, ⟨.inl rfl, .inl rfl, .inl rfl, oS rfl, oM rfl, oX rfl, .inl rfl, True.intro⟩, rfl, rfl, rfl⟩
    · exact hK ⟨j + 1, g⟩ [0, 1, 2, 3, 4, 5, 6] _ (show 1 - j = 1 - (j + 1) + 1 by omega) ⟨⟨rfl, rfl, rfl, rfl, congrArg i64 (wincQ (by omega)), True.intro⟩, ⟨.inl rfl, .inl rfl, .inl rfl, oS rfl, oM rfl, oX rfl, .inl rfl, True.intro⟩, rfl, rfl, rfl⟩
  · refine callW (cs := [bo o, i64 (sec : Nat), .slc 1 0 1 1, .slc 2 0 1 1]) (rest := []) (exts_ok o (sec : Nat) 1) rfl rfl rfl ?_
    refine callW (cs := [bo o, i64 (sec : Nat), .slc 1 0 1 1, .slc 2 0 1 1]) (rest := []) (secs_ok o (sec : Nat) 1) rfl rfl rfl ?_
    refine fork (fun _ => ?_) (fun h => ?_)
    rotate_left
    · exact absurd (beq_iff_eq.2 rfl) (by rw [h]; decide)
    exact end0 rfl rfl rfl rfl
theorem callM_2 {P : Program} {g : FuncId} {bs args : List AV} {o o' : Bool} {sec n' sec' N : Nat} {d0 d1 : List ByteArray} {m0 m1 : Mp} {S : List Sx} {K : AV → Heap → Prop} {Kp : Value → Heap → Prop} (h : ACalls P g bs [] (RetH (.tup [.ptr 1 0, i64 0]) (rH o' n' sec' N S)))
    (ha : args = renL (rn [] (Wd.mk o sec [d0, d1] [m0, m1]).H.length) bs) (k : K (.tup [.ptr 8 0, i64 0]) ((Wd.mk o sec [d0, d1] [m0, m1]).H ++ rE 7 o' n' sec' N S)) : ACalls P g args (Wd.mk o sec [d0, d1] [m0, m1]).H (panK K Kp) :=
  callH h [] ha True.intro rfl rfl (by unfold merge rH; simp only [renH, renO_sx]; rfl) k
theorem callB_2 {P : Program} {g : FuncId} {bs args : List AV} {v : AV} {o o' : Bool} {sec : Nat} {d0 d1 x0 x1 : List ByteArray} {m0 m1 y0 y1 : Mp} {E : Heap} {K : AV → Heap → Prop} {Kp : Value → Heap → Prop}
    (h : ACalls P g bs ((Wd.mk o sec [d0, d1] [m0, m1]).H ++ rEw 7 ⟨o, sec, [d0, d1], [m0, m1]⟩ 2 sec) (RetH v ((Wd.mk o' sec [x0, x1] [y0, y1]).H ++ rEw 7 ⟨o', sec, [x0, x1], [y0, y1]⟩ 2 sec)))
    (ha : args = renL (rn [0, 1, 2, 3, 4, 5, 6, 7, 8] ((Wd.mk o sec [d0, d1] [m0, m1]).H ++ (refO 7 ⟨o, sec, [d0, d1], [m0, m1]⟩ 2 sec ++ E)).length) bs) (hv : ren (rn [0, 1, 2, 3, 4, 5, 6, 7, 8] ((Wd.mk o sec [d0, d1] [m0, m1]).H ++ (refO 7 ⟨o, sec, [d0, d1], [m0, m1]⟩ 2 sec ++ E)).length) v = v)
    (k : K v ((Wd.mk o' sec [x0, x1] [y0, y1]).H ++ (refO 7 ⟨o', sec, [x0, x1], [y0, y1]⟩ 2 sec ++ E))) :
    ACalls P g args ((Wd.mk o sec [d0, d1] [m0, m1]).H ++ (refO 7 ⟨o, sec, [d0, d1], [m0, m1]⟩ 2 sec ++ E)) (panK K Kp) :=
  callH h [0, 1, 2, 3, 4, 5, 6, 7, 8] ha ⟨.inl rfl, .inl rfl, .inl rfl, oS rfl, oS rfl, oM rfl, oM rfl, oX rfl, .inl rfl, True.intro⟩ rfl hv (by unfold rEw rE Wd.H merge; simp only [List.map_cons, List.map_nil, List.cons_append, List.nil_append, renH, renO_str, renO_mp, renO_sx]; exact Eq.trans (List.append_nil _) rfl) k
theorem plays_2 (sec : Nat) (hs1 : 1 ≤ sec) (hs2 : sec ≤ 20) (L : List Xa) : ACalls Try.prog 5 [i64 (2 : Nat), i64 (sec : Nat), .view L.length (flat xaC L)] [] (Ret (bo true)) := by
  refine acalls_of_awpC [16] hT mixed Try.func5 rfl (by kernel_rfl) (by kernel_rfl) (Nat.le_of_ble_eq_true rfl) ?_
  refine callP awakeX_ok rfl rfl ?_
  refine forkD (fun h => ?_) (fun _ => ?_)
  · exact absurd h (by omega)
  refine callN_2 (newE_ok 2 sec (by omega) (by omega) hs1 (by omega)) (new_is (by omega) (by omega)) rfl rfl (fun o x0 x1 y0 y1 e => ?_)
  have i0 : (⟨o, sec, [x0, x1], [y0, y1]⟩ : Wd).is 2 sec := e ▸ new_is (by omega) (by omega)
  have cm := refNewW (n := 2) (sec := sec) (by omega) (by omega) hs1 (by omega)
  unfold refH at cm
  rw [e] at cm
  refine callM_2 cm rfl ?_
  clear e cm
  refine cutI (α := { w : Wd // w.is 2 sec }) (fun z => [(0, i64 (2 : Nat)), (1, i64 (sec : Nat)), (7, .ptr 0 0), (9, .ptr 8 0)]) (fun z => z.val.H ++ refO 7 z.val 2 sec) [] (fun K1 hK1 => ?_) (fun z => ?_)
  · refine loopI (α := PlA 2 sec) (fun z => [(0, i64 (2 : Nat)), (1, i64 (sec : Nat)), (2, .view L.length (flat xaC L)), (7, .ptr 0 0), (9, .ptr 8 0), (11, i64 (z.i : Nat))]) (fun z => z.w.H ++ refO 7 z.w 2 sec) (fun z => 120 - z.i) (PlA.mk 0 ⟨o, sec, [x0, x1], [y0, y1]⟩ (Nat.zero_le _) i0) [0, 1, 2, 3, 4, 5, 6, 7, 8] ⟨⟨rfl, rfl, rfl, rfl, rfl, rfl, True.intro⟩, ⟨.inl rfl, .inl rfl, .inl rfl, oS rfl, oS rfl, oM rfl, oM rfl, oX rfl, .inl rfl, True.intro⟩, rfl, rfl, rfl⟩ ?_
    clear i0
    rintro ⟨i, w, hi, hw⟩ K hK
    dsimp only at hi ⊢
    obtain ⟨o, d0, d1, m0, m1, rfl⟩ := tell_2 hw
    have out := hK1 ⟨⟨o, sec, [d0, d1], [m0, m1]⟩, hw⟩ [] [0, 1, 2, 3, 4, 5, 6, 7, 8]
    dsimp only at out
    refine forkD (fun h => ?_) (fun h => ?_)
    · refine forkD (fun h2 => ?_) (fun h2 => ?_)
      · have g : i < L.length := by have : (i : Int) < (L.length : Int) := h; omega
        have g2 : i < 120 := by have : (i : Int) < 120 := h2; omega
        obtain ⟨⟨k, e, a, s, ps⟩, hx⟩ : ∃ x, L[i]? = some x := ⟨_, List.getElem?_eq_getElem g⟩
        refine Ob.intro (show (0 : Int) ≤ (i : Nat) ∧ ((i : Nat) : Int) < (L.length : Nat) by omega) ?_
        refine optK_intro (flat_takeN (f := xaC) (n := 5) (fun _ => rfl) hx) ?_
        refine forkD (fun _ => ?_) (fun _ => ?_)
        · exact hK (PlA.mk (i + 1) ⟨o, sec, [d0, d1], [m0, m1]⟩ (by omega) hw) [0, 1, 2, 3, 4, 5, 6, 7, 8] _ (show 120 - i = 120 - (i + 1) + 1 by omega) ⟨⟨rfl, rfl, rfl, rfl, rfl, congrArg i64 (wincQ (by omega)), True.intro⟩, ⟨.inl rfl, .inl rfl, .inl rfl, oS rfl, oS rfl, oM rfl, oM rfl, oX rfl, .inl rfl, True.intro⟩, rfl, rfl, rfl⟩
        refine forkD (fun _ => ?_) (fun hp => ?_)
        · exact hK (PlA.mk (i + 1) ⟨o, sec, [d0, d1], [m0, m1]⟩ (by omega) hw) [0, 1, 2, 3, 4, 5, 6, 7, 8] _ (show 120 - i = 120 - (i + 1) + 1 by omega) ⟨⟨rfl, rfl, rfl, rfl, rfl, congrArg i64 (wincQ (by omega)), True.intro⟩, ⟨.inl rfl, .inl rfl, .inl rfl, oS rfl, oS rfl, oM rfl, oM rfl, oX rfl, .inl rfl, True.intro⟩, rfl, rfl, rfl⟩
        have hps : ps.length ≤ 100 := by have : ¬ (ps.length : Int) > 100 := hp; omega
        have cd := does_2 ⟨o, sec, [d0, d1], [m0, m1]⟩ hw (by omega) ⟨k, e, a, s, ps⟩ hps
        have hi' := play_is hw ⟨k, e, a, s, ps⟩
        generalize Wd.play ⟨o, sec, [d0, d1], [m0, m1]⟩ ⟨k, e, a, s, ps⟩ = w' at cd hi'
        obtain ⟨o', x0, x1, y0, y1, rfl⟩ := tell_2 hi'
        have cl := alike_2 ⟨o', sec, [x0, x1], [y0, y1]⟩ hi' (by omega) e a
        have co := on_ok o' (sec : Nat) 2
        by_cases he : 0 ≤ e ∧ e < ((2 : Nat) : Int)
        · obtain ⟨cw, cm, ci⟩ := wet_in hi' (by omega) (by omega) he
          unfold refH at cm
          cases o' <;>
          · refine ⟨dlZh1a, dlZh1b, dlZh1c, dlZh1d, dlZh1e, Ob.intro (by kernel_rfl) ?_⟩
            repeat refine same ?_
            refine callB_2 (E := [.row (xaC ⟨k, e, a, s, ps⟩)]) cd rfl rfl ?_
            repeat refine same ?_
            refine callB_2 (E := [.row (xaC ⟨k, e, a, s, ps⟩)]) cl rfl rfl ?_
            repeat refine same ?_
            refine callW (cs := [bo _, i64 (sec : Nat), .slc 1 0 2 1, .slc 2 0 2 1]) (rest := []) co rfl rfl rfl ?_
            repeat refine same ?_
            refine callU_2 (E := refO 7 ⟨_, sec, [x0, x1], [y0, y1]⟩ 2 sec ++ [.row (xaC ⟨k, e, a, s, ps⟩)]) cw rfl rfl hi' rfl rfl ?_
            repeat refine same ?_
            refine callR_2 (E := [.row (xaC ⟨k, e, a, s, ps⟩)]) cm rfl rfl ?_
            repeat refine same ?_
            refine callP ci rfl rfl ?_
            repeat refine same ?_
            exact hK (PlA.mk (i + 1) ⟨_, sec, [x0, x1], [y0, y1]⟩ (by omega) hi') [0, 1, 2, 3, 4, 5, 6, 7, 8] _ (show 120 - i = 120 - (i + 1) + 1 by omega) ⟨⟨rfl, rfl, rfl, rfl, rfl, congrArg i64 (wincQ (by omega)), True.intro⟩, ⟨.inl rfl, .inl rfl, .inl rfl, oS rfl, oS rfl, oM rfl, oM rfl, oX rfl, .inl rfl, True.intro⟩, rfl, rfl, rfl⟩
        · obtain ⟨cw, cm, ci⟩ := wet_out hi' (by omega) (by omega) he
          unfold refH at cm
          cases o' <;>
          · refine ⟨dlZh1a, dlZh1b, dlZh1c, dlZh1d, dlZh1e, Ob.intro (by kernel_rfl) ?_⟩
            repeat refine same ?_
            refine callB_2 (E := [.row (xaC ⟨k, e, a, s, ps⟩)]) cd rfl rfl ?_
            repeat refine same ?_
            refine callB_2 (E := [.row (xaC ⟨k, e, a, s, ps⟩)]) cl rfl rfl ?_
            repeat refine same ?_
            refine callW (cs := [bo _, i64 (sec : Nat), .slc 1 0 2 1, .slc 2 0 2 1]) (rest := []) co rfl rfl rfl ?_
            repeat refine same ?_
            refine callU_2 (E := refO 7 ⟨_, sec, [x0, x1], [y0, y1]⟩ 2 sec ++ [.row (xaC ⟨k, e, a, s, ps⟩)]) cw rfl rfl hi' rfl rfl ?_
            repeat refine same ?_
            refine callR_2 (E := [.row (xaC ⟨k, e, a, s, ps⟩)]) cm rfl rfl ?_
            repeat refine same ?_
            refine callP ci rfl rfl ?_
            repeat refine same ?_
            exact hK (PlA.mk (i + 1) ⟨_, sec, [x0, x1], [y0, y1]⟩ (by omega) hi') [0, 1, 2, 3, 4, 5, 6, 7, 8] _ (show 120 - i = 120 - (i + 1) + 1 by omega) ⟨⟨rfl, rfl, rfl, rfl, rfl, congrArg i64 (wincQ (by omega)), True.intro⟩, ⟨.inl rfl, .inl rfl, .inl rfl, oS rfl, oS rfl, oM rfl, oM rfl, oX rfl, .inl rfl, True.intro⟩, rfl, rfl, rfl⟩
      · exact out _ ⟨⟨rfl, rfl, rfl, rfl, True.intro⟩, ⟨.inl rfl, .inl rfl, .inl rfl, oS rfl, oS rfl, oM rfl, oM rfl, oX rfl, .inl rfl, True.intro⟩, rfl, rfl, rfl⟩
    · exact out _ ⟨⟨rfl, rfl, rfl, rfl, True.intro⟩, ⟨.inl rfl, .inl rfl, .inl rfl, oS rfl, oS rfl, oM rfl, oM rfl, oX rfl, .inl rfl, True.intro⟩, rfl, rfl, rfl⟩
  obtain ⟨w, hw⟩ := z
  dsimp only
  obtain ⟨o, d0, d1, m0, m1, rfl⟩ := tell_2 hw
  refine loopI (α := { j : Nat // j ≤ 2 }) (fun z => [(0, i64 (2 : Nat)), (1, i64 (sec : Nat)), (7, .ptr 0 0), (9, .ptr 8 0), (13, i64 (z.val : Nat))]) (fun z => (Wd.mk o sec [d0, d1] [m0, m1]).H ++ refO 7 ⟨o, sec, [d0, d1], [m0, m1]⟩ 2 sec) (fun z => 2 - z.val) ⟨0, Nat.zero_le _⟩ [0, 1, 2, 3, 4, 5, 6, 7, 8] ⟨⟨rfl, rfl, rfl, rfl, rfl, True.intro⟩, ⟨.inl rfl, .inl rfl, .inl rfl, oS rfl, oS rfl, oM rfl, oM rfl, oX rfl, .inl rfl, True.intro⟩, rfl, rfl, rfl⟩ ?_
  rintro ⟨j, hj⟩ K hK
  dsimp only at hj ⊢
  refine forkD (fun h => ?_) (fun h => ?_)
  · have g : j < 2 := by have : (j : Int) < ((2 : Nat) : Int) := h; omega
    refine loopI (α := { t : Nat // t ≤ sec }) (fun z => [(0, i64 (2 : Nat)), (1, i64 (sec : Nat)), (7, .ptr 0 0), (9, .ptr 8 0), (13, i64 (j : Nat)), (14, i64 (z.val : Nat))]) (fun z => (Wd.mk o sec [d0, d1] [m0, m1]).H ++ refO 7 ⟨o, sec, [d0, d1], [m0, m1]⟩ 2 sec) (fun z => sec - z.val) ⟨0, Nat.zero_le _⟩ [0, 1, 2, 3, 4, 5, 6, 7, 8] ⟨⟨rfl, rfl, rfl, rfl, rfl, rfl, True.intro⟩, ⟨.inl rfl, .inl rfl, .inl rfl, oS rfl, oS rfl, oM rfl, oM rfl, oX rfl, .inl rfl, True.intro⟩, rfl, rfl, rfl⟩ ?_
    rintro ⟨t, ht⟩ K2 hK2
    dsimp only at ht ⊢
    refine forkD (fun h2 => ?_) (fun h2 => ?_)
    · have g2 : t < sec := by have : (t : Int) < (sec : Int) := h2; omega
      have cl := alike_2 ⟨o, sec, [d0, d1], [m0, m1]⟩ hw (by omega) (j : Nat) (t : Nat)
      refine callB_2 (E := []) cl rfl rfl ?_
      exact hK2 ⟨t + 1, g2⟩ [0, 1, 2, 3, 4, 5, 6, 7, 8] _ (show sec - t = sec - (t + 1) + 1 by omega) ⟨⟨rfl, rfl, rfl, rfl, rfl, congrArg i64 (wincQ (by omega)), True.intro⟩, ⟨.inl rfl, .inl rfl, .inl rfl, oS rfl, oS rfl, oM rfl, oM rfl, oX rfl, .inl rfl, True.intro⟩, rfl, rfl, rfl⟩
    · exact hK ⟨j + 1, g⟩ [0, 1, 2, 3, 4, 5, 6, 7, 8] _ (show 2 - j = 2 - (j + 1) + 1 by omega) ⟨⟨rfl, rfl, rfl, rfl, congrArg i64 (wincQ (by omega)), True.intro⟩, ⟨.inl rfl, .inl rfl, .inl rfl, oS rfl, oS rfl, oM rfl, oM rfl, oX rfl, .inl rfl, True.intro⟩, rfl, rfl, rfl⟩
  · refine callW (cs := [bo o, i64 (sec : Nat), .slc 1 0 2 1, .slc 2 0 2 1]) (rest := []) (exts_ok o (sec : Nat) 2) rfl rfl rfl ?_
    refine callW (cs := [bo o, i64 (sec : Nat), .slc 1 0 2 1, .slc 2 0 2 1]) (rest := []) (secs_ok o (sec : Nat) 2) rfl rfl rfl ?_
    refine fork (fun _ => ?_) (fun h => ?_)
    rotate_left
    · exact absurd (beq_iff_eq.2 rfl) (by rw [h]; decide)
    exact end0 rfl rfl rfl rfl
set_option maxHeartbeats 4000000 in
theorem callM_3 {P : Program} {g : FuncId} {bs args : List AV} {o o' : Bool} {sec n' sec' N : Nat} {d0 d1 d2 : List ByteArray} {m0 m1 m2 : Mp} {S : List Sx} {K : AV → Heap → Prop} {Kp : Value → Heap → Prop} (h : ACalls P g bs [] (RetH (.tup [.ptr 1 0, i64 0]) (rH o' n' sec' N S)))
    (ha : args = renL (rn [] (Wd.mk o sec [d0, d1, d2] [m0, m1, m2]).H.length) bs) (k : K (.tup [.ptr 10 0, i64 0]) ((Wd.mk o sec [d0, d1, d2] [m0, m1, m2]).H ++ rE 9 o' n' sec' N S)) : ACalls P g args (Wd.mk o sec [d0, d1, d2] [m0, m1, m2]).H (panK K Kp) :=
  callH h [] ha True.intro rfl rfl (by unfold merge rH; simp only [renH, renO_sx]; rfl) k
set_option maxHeartbeats 4000000 in
theorem callB_3 {P : Program} {g : FuncId} {bs args : List AV} {v : AV} {o o' : Bool} {sec : Nat} {d0 d1 d2 x0 x1 x2 : List ByteArray} {m0 m1 m2 y0 y1 y2 : Mp} {E : Heap} {K : AV → Heap → Prop} {Kp : Value → Heap → Prop}
    (h : ACalls P g bs ((Wd.mk o sec [d0, d1, d2] [m0, m1, m2]).H ++ rEw 9 ⟨o, sec, [d0, d1, d2], [m0, m1, m2]⟩ 3 sec) (RetH v ((Wd.mk o' sec [x0, x1, x2] [y0, y1, y2]).H ++ rEw 9 ⟨o', sec, [x0, x1, x2], [y0, y1, y2]⟩ 3 sec)))
    (ha : args = renL (rn [0, 1, 2, 3, 4, 5, 6, 7, 8, 9, 10] ((Wd.mk o sec [d0, d1, d2] [m0, m1, m2]).H ++ (refO 9 ⟨o, sec, [d0, d1, d2], [m0, m1, m2]⟩ 3 sec ++ E)).length) bs) (hv : ren (rn [0, 1, 2, 3, 4, 5, 6, 7, 8, 9, 10] ((Wd.mk o sec [d0, d1, d2] [m0, m1, m2]).H ++ (refO 9 ⟨o, sec, [d0, d1, d2], [m0, m1, m2]⟩ 3 sec ++ E)).length) v = v)
    (k : K v ((Wd.mk o' sec [x0, x1, x2] [y0, y1, y2]).H ++ (refO 9 ⟨o', sec, [x0, x1, x2], [y0, y1, y2]⟩ 3 sec ++ E))) :
    ACalls P g args ((Wd.mk o sec [d0, d1, d2] [m0, m1, m2]).H ++ (refO 9 ⟨o, sec, [d0, d1, d2], [m0, m1, m2]⟩ 3 sec ++ E)) (panK K Kp) :=
  callH h [0, 1, 2, 3, 4, 5, 6, 7, 8, 9, 10] ha ⟨.inl rfl, .inl rfl, .inl rfl, oS rfl, oS rfl, oS rfl, oM rfl, oM rfl, oM rfl, oX rfl, .inl rfl, True.intro⟩ rfl hv (by unfold rEw rE Wd.H merge; simp only [List.map_cons, List.map_nil, List.cons_append, List.nil_append, renH, renO_str, renO_mp, renO_sx]; exact Eq.trans (List.append_nil _) rfl) k
set_option maxHeartbeats 4000000 in
theorem plays_3 (sec : Nat) (hs1 : 1 ≤ sec) (hs2 : sec ≤ 20) (L : List Xa) : ACalls Try.prog 5 [i64 (3 : Nat), i64 (sec : Nat), .view L.length (flat xaC L)] [] (Ret (bo true)) := by
  refine acalls_of_awpC [16] hT mixed Try.func5 rfl (by kernel_rfl) (by kernel_rfl) (Nat.le_of_ble_eq_true rfl) ?_
  refine callP awakeX_ok rfl rfl ?_
  refine forkD (fun h => ?_) (fun _ => ?_)
  · exact absurd h (by omega)
  refine callN_3 (newE_ok 3 sec (by omega) (by omega) hs1 (by omega)) (new_is (by omega) (by omega)) rfl rfl (fun o x0 x1 x2 y0 y1 y2 e => ?_)
  have i0 : (⟨o, sec, [x0, x1, x2], [y0, y1, y2]⟩ : Wd).is 3 sec := e ▸ new_is (by omega) (by omega)
  have cm := refNewW (n := 3) (sec := sec) (by omega) (by omega) hs1 (by omega)
  unfold refH at cm
  rw [e] at cm
  refine callM_3 cm rfl ?_
  clear e cm
  refine cutI (α := { w : Wd // w.is 3 sec }) (fun z => [(0, i64 (3 : Nat)), (1, i64 (sec : Nat)), (7, .ptr 0 0), (9, .ptr 10 0)]) (fun z => z.val.H ++ refO 9 z.val 3 sec) [] (fun K1 hK1 => ?_) (fun z => ?_)
  · refine loopI (α := PlA 3 sec) (fun z => [(0, i64 (3 : Nat)), (1, i64 (sec : Nat)), (2, .view L.length (flat xaC L)), (7, .ptr 0 0), (9, .ptr 10 0), (11, i64 (z.i : Nat))]) (fun z => z.w.H ++ refO 9 z.w 3 sec) (fun z => 120 - z.i) (PlA.mk 0 ⟨o, sec, [x0, x1, x2], [y0, y1, y2]⟩ (Nat.zero_le _) i0) [0, 1, 2, 3, 4, 5, 6, 7, 8, 9, 10] ⟨⟨rfl, rfl, rfl, rfl, rfl, rfl, True.intro⟩, ⟨.inl rfl, .inl rfl, .inl rfl, oS rfl, oS rfl, oS rfl, oM rfl, oM rfl, oM rfl, oX rfl, .inl rfl, True.intro⟩, rfl, rfl, rfl⟩ ?_
    clear i0
    rintro ⟨i, w, hi, hw⟩ K hK
    dsimp only at hi ⊢
    obtain ⟨o, d0, d1, d2, m0, m1, m2, rfl⟩ := tell_3 hw
    have out := hK1 ⟨⟨o, sec, [d0, d1, d2], [m0, m1, m2]⟩, hw⟩ [] [0, 1, 2, 3, 4, 5, 6, 7, 8, 9, 10]
    dsimp only at out
    refine forkD (fun h => ?_) (fun h => ?_)
    · refine forkD (fun h2 => ?_) (fun h2 => ?_)
      · have g : i < L.length := by have : (i : Int) < (L.length : Int) := h; omega
        have g2 : i < 120 := by have : (i : Int) < 120 := h2; omega
        obtain ⟨⟨k, e, a, s, ps⟩, hx⟩ : ∃ x, L[i]? = some x := ⟨_, List.getElem?_eq_getElem g⟩
        refine Ob.intro (show (0 : Int) ≤ (i : Nat) ∧ ((i : Nat) : Int) < (L.length : Nat) by omega) ?_
        refine optK_intro (flat_takeN (f := xaC) (n := 5) (fun _ => rfl) hx) ?_
        refine forkD (fun _ => ?_) (fun _ => ?_)
        · exact hK (PlA.mk (i + 1) ⟨o, sec, [d0, d1, d2], [m0, m1, m2]⟩ (by omega) hw) [0, 1, 2, 3, 4, 5, 6, 7, 8, 9, 10] _ (show 120 - i = 120 - (i + 1) + 1 by omega) ⟨⟨rfl, rfl, rfl, rfl, rfl, congrArg i64 (wincQ (by omega)), True.intro⟩, ⟨.inl rfl, .inl rfl, .inl rfl, oS rfl, oS rfl, oS rfl, oM rfl, oM rfl, oM rfl, oX rfl, .inl rfl, True.intro⟩, rfl, rfl, rfl⟩
        refine forkD (fun _ => ?_) (fun hp => ?_)
        · exact hK (PlA.mk (i + 1) ⟨o, sec, [d0, d1, d2], [m0, m1, m2]⟩ (by omega) hw) [0, 1, 2, 3, 4, 5, 6, 7, 8, 9, 10] _ (show 120 - i = 120 - (i + 1) + 1 by omega) ⟨⟨rfl, rfl, rfl, rfl, rfl, congrArg i64 (wincQ (by omega)), True.intro⟩, ⟨.inl rfl, .inl rfl, .inl rfl, oS rfl, oS rfl, oS rfl, oM rfl, oM rfl, oM rfl, oX rfl, .inl rfl, True.intro⟩, rfl, rfl, rfl⟩
        have hps : ps.length ≤ 100 := by have : ¬ (ps.length : Int) > 100 := hp; omega
        have cd := does_3 ⟨o, sec, [d0, d1, d2], [m0, m1, m2]⟩ hw (by omega) ⟨k, e, a, s, ps⟩ hps
        have hi' := play_is hw ⟨k, e, a, s, ps⟩
        generalize Wd.play ⟨o, sec, [d0, d1, d2], [m0, m1, m2]⟩ ⟨k, e, a, s, ps⟩ = w' at cd hi'
        obtain ⟨o', x0, x1, x2, y0, y1, y2, rfl⟩ := tell_3 hi'
        have cl := alike_3 ⟨o', sec, [x0, x1, x2], [y0, y1, y2]⟩ hi' (by omega) e a
        have co := on_ok o' (sec : Nat) 3
        by_cases he : 0 ≤ e ∧ e < ((3 : Nat) : Int)
        · obtain ⟨cw, cm, ci⟩ := wet_in hi' (by omega) (by omega) he
          unfold refH at cm
          cases o' <;>
          · refine ⟨dlZh1a, dlZh1b, dlZh1c, dlZh1d, dlZh1e, Ob.intro (by kernel_rfl) ?_⟩
            repeat refine same ?_
            refine callB_3 (E := [.row (xaC ⟨k, e, a, s, ps⟩)]) cd rfl rfl ?_
            repeat refine same ?_
            refine callB_3 (E := [.row (xaC ⟨k, e, a, s, ps⟩)]) cl rfl rfl ?_
            repeat refine same ?_
            refine callW (cs := [bo _, i64 (sec : Nat), .slc 1 0 3 1, .slc 2 0 3 1]) (rest := []) co rfl rfl rfl ?_
            repeat refine same ?_
            refine callU_3 (E := refO 9 ⟨_, sec, [x0, x1, x2], [y0, y1, y2]⟩ 3 sec ++ [.row (xaC ⟨k, e, a, s, ps⟩)]) cw rfl rfl hi' rfl rfl ?_
            repeat refine same ?_
            refine callR_3 (E := [.row (xaC ⟨k, e, a, s, ps⟩)]) cm rfl rfl ?_
            repeat refine same ?_
            refine callP ci rfl rfl ?_
            repeat refine same ?_
            exact hK (PlA.mk (i + 1) ⟨_, sec, [x0, x1, x2], [y0, y1, y2]⟩ (by omega) hi') [0, 1, 2, 3, 4, 5, 6, 7, 8, 9, 10] _ (show 120 - i = 120 - (i + 1) + 1 by omega) ⟨⟨rfl, rfl, rfl, rfl, rfl, congrArg i64 (wincQ (by omega)), True.intro⟩, ⟨.inl rfl, .inl rfl, .inl rfl, oS rfl, oS rfl, oS rfl, oM rfl, oM rfl, oM rfl, oX rfl, .inl rfl, True.intro⟩, rfl, rfl, rfl⟩
        · obtain ⟨cw, cm, ci⟩ := wet_out hi' (by omega) (by omega) he
          unfold refH at cm
          cases o' <;>
          · refine ⟨dlZh1a, dlZh1b, dlZh1c, dlZh1d, dlZh1e, Ob.intro (by kernel_rfl) ?_⟩
            repeat refine same ?_
            refine callB_3 (E := [.row (xaC ⟨k, e, a, s, ps⟩)]) cd rfl rfl ?_
            repeat refine same ?_
            refine callB_3 (E := [.row (xaC ⟨k, e, a, s, ps⟩)]) cl rfl rfl ?_
            repeat refine same ?_
            refine callW (cs := [bo _, i64 (sec : Nat), .slc 1 0 3 1, .slc 2 0 3 1]) (rest := []) co rfl rfl rfl ?_
            repeat refine same ?_
            refine callU_3 (E := refO 9 ⟨_, sec, [x0, x1, x2], [y0, y1, y2]⟩ 3 sec ++ [.row (xaC ⟨k, e, a, s, ps⟩)]) cw rfl rfl hi' rfl rfl ?_
            repeat refine same ?_
            refine callR_3 (E := [.row (xaC ⟨k, e, a, s, ps⟩)]) cm rfl rfl ?_
            repeat refine same ?_
            refine callP ci rfl rfl ?_
            repeat refine same ?_
            exact hK (PlA.mk (i + 1) ⟨_, sec, [x0, x1, x2], [y0, y1, y2]⟩ (by omega) hi') [0, 1, 2, 3, 4, 5, 6, 7, 8, 9, 10] _ (show 120 - i = 120 - (i + 1) + 1 by omega) ⟨⟨rfl, rfl, rfl, rfl, rfl, congrArg i64 (wincQ (by omega)), True.intro⟩, ⟨.inl rfl, .inl rfl, .inl rfl, oS rfl, oS rfl, oS rfl, oM rfl, oM rfl, oM rfl, oX rfl, .inl rfl, True.intro⟩, rfl, rfl, rfl⟩
      · exact out _ ⟨⟨rfl, rfl, rfl, rfl, True.intro⟩, ⟨.inl rfl, .inl rfl, .inl rfl, oS rfl, oS rfl, oS rfl, oM rfl, oM rfl, oM rfl, oX rfl, .inl rfl, True.intro⟩, rfl, rfl, rfl⟩
    · exact out _ ⟨⟨rfl, rfl, rfl, rfl, True.intro⟩, ⟨.inl rfl, .inl rfl, .inl rfl, oS rfl, oS rfl, oS rfl, oM rfl, oM rfl, oM rfl, oX rfl, .inl rfl, True.intro⟩, rfl, rfl, rfl⟩
  obtain ⟨w, hw⟩ := z
  dsimp only
  obtain ⟨o, d0, d1, d2, m0, m1, m2, rfl⟩ := tell_3 hw
  refine loopI (α := { j : Nat // j ≤ 3 }) (fun z => [(0, i64 (3 : Nat)), (1, i64 (sec : Nat)), (7, .ptr 0 0), (9, .ptr 10 0), (13, i64 (z.val : Nat))]) (fun z => (Wd.mk o sec [d0, d1, d2] [m0, m1, m2]).H ++ refO 9 ⟨o, sec, [d0, d1, d2], [m0, m1, m2]⟩ 3 sec) (fun z => 3 - z.val) ⟨0, Nat.zero_le _⟩ [0, 1, 2, 3, 4, 5, 6, 7, 8, 9, 10] ⟨⟨rfl, rfl, rfl, rfl, rfl, True.intro⟩, ⟨.inl rfl, .inl rfl, .inl rfl, oS rfl, oS rfl, oS rfl, oM rfl, oM rfl, oM rfl, oX rfl, .inl rfl, True.intro⟩, rfl, rfl, rfl⟩ ?_
  rintro ⟨j, hj⟩ K hK
  dsimp only at hj ⊢
  refine forkD (fun h => ?_) (fun h => ?_)
  · have g : j < 3 := by have : (j : Int) < ((3 : Nat) : Int) := h; omega
    refine loopI (α := { t : Nat // t ≤ sec }) (fun z => [(0, i64 (3 : Nat)), (1, i64 (sec : Nat)), (7, .ptr 0 0), (9, .ptr 10 0), (13, i64 (j : Nat)), (14, i64 (z.val : Nat))]) (fun z => (Wd.mk o sec [d0, d1, d2] [m0, m1, m2]).H ++ refO 9 ⟨o, sec, [d0, d1, d2], [m0, m1, m2]⟩ 3 sec) (fun z => sec - z.val) ⟨0, Nat.zero_le _⟩ [0, 1, 2, 3, 4, 5, 6, 7, 8, 9, 10] ⟨⟨rfl, rfl, rfl, rfl, rfl, rfl, True.intro⟩, ⟨.inl rfl, .inl rfl, .inl rfl, oS rfl, oS rfl, oS rfl, oM rfl, oM rfl, oM rfl, oX rfl, .inl rfl, True.intro⟩, rfl, rfl, rfl⟩ ?_
    rintro ⟨t, ht⟩ K2 hK2
    dsimp only at ht ⊢
    refine forkD (fun h2 => ?_) (fun h2 => ?_)
    · have g2 : t < sec := by have : (t : Int) < (sec : Int) := h2; omega
      have cl := alike_3 ⟨o, sec, [d0, d1, d2], [m0, m1, m2]⟩ hw (by omega) (j : Nat) (t : Nat)
      refine callB_3 (E := []) cl rfl rfl ?_
      exact hK2 ⟨t + 1, g2⟩ [0, 1, 2, 3, 4, 5, 6, 7, 8, 9, 10] _ (show sec - t = sec - (t + 1) + 1 by omega) ⟨⟨rfl, rfl, rfl, rfl, rfl, congrArg i64 (wincQ (by omega)), True.intro⟩, ⟨.inl rfl, .inl rfl, .inl rfl, oS rfl, oS rfl, oS rfl, oM rfl, oM rfl, oM rfl, oX rfl, .inl rfl, True.intro⟩, rfl, rfl, rfl⟩
    · exact hK ⟨j + 1, g⟩ [0, 1, 2, 3, 4, 5, 6, 7, 8, 9, 10] _ (show 3 - j = 3 - (j + 1) + 1 by omega) ⟨⟨rfl, rfl, rfl, rfl, congrArg i64 (wincQ (by omega)), True.intro⟩, ⟨.inl rfl, .inl rfl, .inl rfl, oS rfl, oS rfl, oS rfl, oM rfl, oM rfl, oM rfl, oX rfl, .inl rfl, True.intro⟩, rfl, rfl, rfl⟩
  · refine callW (cs := [bo o, i64 (sec : Nat), .slc 1 0 3 1, .slc 2 0 3 1]) (rest := []) (exts_ok o (sec : Nat) 3) rfl rfl rfl ?_
    refine callW (cs := [bo o, i64 (sec : Nat), .slc 1 0 3 1, .slc 2 0 3 1]) (rest := []) (secs_ok o (sec : Nat) 3) rfl rfl rfl ?_
    refine fork (fun _ => ?_) (fun h => ?_)
    rotate_left
    · exact absurd (beq_iff_eq.2 rfl) (by rw [h]; decide)
    exact end0 rfl rfl rfl rfl
set_option maxHeartbeats 4000000 in
theorem callM_4 {P : Program} {g : FuncId} {bs args : List AV} {o o' : Bool} {sec n' sec' N : Nat} {d0 d1 d2 d3 : List ByteArray} {m0 m1 m2 m3 : Mp} {S : List Sx} {K : AV → Heap → Prop} {Kp : Value → Heap → Prop} (h : ACalls P g bs [] (RetH (.tup [.ptr 1 0, i64 0]) (rH o' n' sec' N S)))
    (ha : args = renL (rn [] (Wd.mk o sec [d0, d1, d2, d3] [m0, m1, m2, m3]).H.length) bs) (k : K (.tup [.ptr 12 0, i64 0]) ((Wd.mk o sec [d0, d1, d2, d3] [m0, m1, m2, m3]).H ++ rE 11 o' n' sec' N S)) : ACalls P g args (Wd.mk o sec [d0, d1, d2, d3] [m0, m1, m2, m3]).H (panK K Kp) :=
  callH h [] ha True.intro rfl rfl (by unfold merge rH; simp only [renH, renO_sx]; rfl) k
set_option maxHeartbeats 4000000 in
theorem callB_4 {P : Program} {g : FuncId} {bs args : List AV} {v : AV} {o o' : Bool} {sec : Nat} {d0 d1 d2 d3 x0 x1 x2 x3 : List ByteArray} {m0 m1 m2 m3 y0 y1 y2 y3 : Mp} {E : Heap} {K : AV → Heap → Prop} {Kp : Value → Heap → Prop}
    (h : ACalls P g bs ((Wd.mk o sec [d0, d1, d2, d3] [m0, m1, m2, m3]).H ++ rEw 11 ⟨o, sec, [d0, d1, d2, d3], [m0, m1, m2, m3]⟩ 4 sec) (RetH v ((Wd.mk o' sec [x0, x1, x2, x3] [y0, y1, y2, y3]).H ++ rEw 11 ⟨o', sec, [x0, x1, x2, x3], [y0, y1, y2, y3]⟩ 4 sec)))
    (ha : args = renL (rn [0, 1, 2, 3, 4, 5, 6, 7, 8, 9, 10, 11, 12] ((Wd.mk o sec [d0, d1, d2, d3] [m0, m1, m2, m3]).H ++ (refO 11 ⟨o, sec, [d0, d1, d2, d3], [m0, m1, m2, m3]⟩ 4 sec ++ E)).length) bs) (hv : ren (rn [0, 1, 2, 3, 4, 5, 6, 7, 8, 9, 10, 11, 12] ((Wd.mk o sec [d0, d1, d2, d3] [m0, m1, m2, m3]).H ++ (refO 11 ⟨o, sec, [d0, d1, d2, d3], [m0, m1, m2, m3]⟩ 4 sec ++ E)).length) v = v)
    (k : K v ((Wd.mk o' sec [x0, x1, x2, x3] [y0, y1, y2, y3]).H ++ (refO 11 ⟨o', sec, [x0, x1, x2, x3], [y0, y1, y2, y3]⟩ 4 sec ++ E))) :
    ACalls P g args ((Wd.mk o sec [d0, d1, d2, d3] [m0, m1, m2, m3]).H ++ (refO 11 ⟨o, sec, [d0, d1, d2, d3], [m0, m1, m2, m3]⟩ 4 sec ++ E)) (panK K Kp) :=
  callH h [0, 1, 2, 3, 4, 5, 6, 7, 8, 9, 10, 11, 12] ha ⟨.inl rfl, .inl rfl, .inl rfl, oS rfl, oS rfl, oS rfl, oS rfl, oM rfl, oM rfl, oM rfl, oM rfl, oX rfl, .inl rfl, True.intro⟩ rfl hv (by unfold rEw rE Wd.H merge; simp only [List.map_cons, List.map_nil, List.cons_append, List.nil_append, renH, renO_str, renO_mp, renO_sx]; exact Eq.trans (List.append_nil _) rfl) k
set_option maxHeartbeats 4000000 in
theorem plays_4 (sec : Nat) (hs1 : 1 ≤ sec) (hs2 : sec ≤ 20) (L : List Xa) : ACalls Try.prog 5 [i64 (4 : Nat), i64 (sec : Nat), .view L.length (flat xaC L)] [] (Ret (bo true)) := by
  refine acalls_of_awpC [16] hT mixed Try.func5 rfl (by kernel_rfl) (by kernel_rfl) (Nat.le_of_ble_eq_true rfl) ?_
  refine callP awakeX_ok rfl rfl ?_
  refine forkD (fun h => ?_) (fun _ => ?_)
  · exact absurd h (by omega)
  refine callN_4 (newE_ok 4 sec (by omega) (by omega) hs1 (by omega)) (new_is (by omega) (by omega)) rfl rfl (fun o x0 x1 x2 x3 y0 y1 y2 y3 e => ?_)
  have i0 : (⟨o, sec, [x0, x1, x2, x3], [y0, y1, y2, y3]⟩ : Wd).is 4 sec := e ▸ new_is (by omega) (by omega)
  have cm := refNewW (n := 4) (sec := sec) (by omega) (by omega) hs1 (by omega)
  unfold refH at cm
  rw [e] at cm
  refine callM_4 cm rfl ?_
  clear e cm
  refine cutI (α := { w : Wd // w.is 4 sec }) (fun z => [(0, i64 (4 : Nat)), (1, i64 (sec : Nat)), (7, .ptr 0 0), (9, .ptr 12 0)]) (fun z => z.val.H ++ refO 11 z.val 4 sec) [] (fun K1 hK1 => ?_) (fun z => ?_)
  · refine loopI (α := PlA 4 sec) (fun z => [(0, i64 (4 : Nat)), (1, i64 (sec : Nat)), (2, .view L.length (flat xaC L)), (7, .ptr 0 0), (9, .ptr 12 0), (11, i64 (z.i : Nat))]) (fun z => z.w.H ++ refO 11 z.w 4 sec) (fun z => 120 - z.i) (PlA.mk 0 ⟨o, sec, [x0, x1, x2, x3], [y0, y1, y2, y3]⟩ (Nat.zero_le _) i0) [0, 1, 2, 3, 4, 5, 6, 7, 8, 9, 10, 11, 12] ⟨⟨rfl, rfl, rfl, rfl, rfl, rfl, True.intro⟩, ⟨.inl rfl, .inl rfl, .inl rfl, oS rfl, oS rfl, oS rfl, oS rfl, oM rfl, oM rfl, oM rfl, oM rfl, oX rfl, .inl rfl, True.intro⟩, rfl, rfl, rfl⟩ ?_
    clear i0
    rintro ⟨i, w, hi, hw⟩ K hK
    dsimp only at hi ⊢
    obtain ⟨o, d0, d1, d2, d3, m0, m1, m2, m3, rfl⟩ := tell_4 hw
    have out := hK1 ⟨⟨o, sec, [d0, d1, d2, d3], [m0, m1, m2, m3]⟩, hw⟩ [] [0, 1, 2, 3, 4, 5, 6, 7, 8, 9, 10, 11, 12]
    dsimp only at out
    refine forkD (fun h => ?_) (fun h => ?_)
    · refine forkD (fun h2 => ?_) (fun h2 => ?_)
      · have g : i < L.length := by have : (i : Int) < (L.length : Int) := h; omega
        have g2 : i < 120 := by have : (i : Int) < 120 := h2; omega
        obtain ⟨⟨k, e, a, s, ps⟩, hx⟩ : ∃ x, L[i]? = some x := ⟨_, List.getElem?_eq_getElem g⟩
        refine Ob.intro (show (0 : Int) ≤ (i : Nat) ∧ ((i : Nat) : Int) < (L.length : Nat) by omega) ?_
        refine optK_intro (flat_takeN (f := xaC) (n := 5) (fun _ => rfl) hx) ?_
        refine forkD (fun _ => ?_) (fun _ => ?_)
        · exact hK (PlA.mk (i + 1) ⟨o, sec, [d0, d1, d2, d3], [m0, m1, m2, m3]⟩ (by omega) hw) [0, 1, 2, 3, 4, 5, 6, 7, 8, 9, 10, 11, 12] _ (show 120 - i = 120 - (i + 1) + 1 by omega) ⟨⟨rfl, rfl, rfl, rfl, rfl, congrArg i64 (wincQ (by omega)), True.intro⟩, ⟨.inl rfl, .inl rfl, .inl rfl, oS rfl, oS rfl, oS rfl, oS rfl, oM rfl, oM rfl, oM rfl, oM rfl, oX rfl, .inl rfl, True.intro⟩, rfl, rfl, rfl⟩
        refine forkD (fun _ => ?_) (fun hp => ?_)
        · exact hK (PlA.mk (i + 1) ⟨o, sec, [d0, d1, d2, d3], [m0, m1, m2, m3]⟩ (by omega) hw) [0, 1, 2, 3, 4, 5, 6, 7, 8, 9, 10, 11, 12] _ (show 120 - i = 120 - (i + 1) + 1 by omega) ⟨⟨rfl, rfl, rfl, rfl, rfl, congrArg i64 (wincQ (by omega)), True.intro⟩, ⟨.inl rfl, .inl rfl, .inl rfl, oS rfl, oS rfl, oS rfl, oS rfl, oM rfl, oM rfl, oM rfl, oM rfl, oX rfl, .inl rfl, True.intro⟩, rfl, rfl, rfl⟩
        have hps : ps.length ≤ 100 := by have : ¬ (ps.length : Int) > 100 := hp; omega
        have cd := does_4 ⟨o, sec, [d0, d1, d2, d3], [m0, m1, m2, m3]⟩ hw (by omega) ⟨k, e, a, s, ps⟩ hps
        have hi' := play_is hw ⟨k, e, a, s, ps⟩
        generalize Wd.play ⟨o, sec, [d0, d1, d2, d3], [m0, m1, m2, m3]⟩ ⟨k, e, a, s, ps⟩ = w' at cd hi'
        obtain ⟨o', x0, x1, x2, x3, y0, y1, y2, y3, rfl⟩ := tell_4 hi'
        have cl := alike_4 ⟨o', sec, [x0, x1, x2, x3], [y0, y1, y2, y3]⟩ hi' (by omega) e a
        have co := on_ok o' (sec : Nat) 4
        by_cases he : 0 ≤ e ∧ e < ((4 : Nat) : Int)
        · obtain ⟨cw, cm, ci⟩ := wet_in hi' (by omega) (by omega) he
          unfold refH at cm
          cases o' <;>
          · refine ⟨dlZh1a, dlZh1b, dlZh1c, dlZh1d, dlZh1e, Ob.intro (by kernel_rfl) ?_⟩
            repeat refine same ?_
            refine callB_4 (E := [.row (xaC ⟨k, e, a, s, ps⟩)]) cd rfl rfl ?_
            repeat refine same ?_
            refine callB_4 (E := [.row (xaC ⟨k, e, a, s, ps⟩)]) cl rfl rfl ?_
            repeat refine same ?_
            refine callW (cs := [bo _, i64 (sec : Nat), .slc 1 0 4 1, .slc 2 0 4 1]) (rest := []) co rfl rfl rfl ?_
            repeat refine same ?_
            refine callU_4 (E := refO 11 ⟨_, sec, [x0, x1, x2, x3], [y0, y1, y2, y3]⟩ 4 sec ++ [.row (xaC ⟨k, e, a, s, ps⟩)]) cw rfl rfl hi' rfl rfl ?_
            repeat refine same ?_
            refine callR_4 (E := [.row (xaC ⟨k, e, a, s, ps⟩)]) cm rfl rfl ?_
            repeat refine same ?_
            refine callP ci rfl rfl ?_
            repeat refine same ?_
            exact hK (PlA.mk (i + 1) ⟨_, sec, [x0, x1, x2, x3], [y0, y1, y2, y3]⟩ (by omega) hi') [0, 1, 2, 3, 4, 5, 6, 7, 8, 9, 10, 11, 12] _ (show 120 - i = 120 - (i + 1) + 1 by omega) ⟨⟨rfl, rfl, rfl, rfl, rfl, congrArg i64 (wincQ (by omega)), True.intro⟩, ⟨.inl rfl, .inl rfl, .inl rfl, oS rfl, oS rfl, oS rfl, oS rfl, oM rfl, oM rfl, oM rfl, oM rfl, oX rfl, .inl rfl, True.intro⟩, rfl, rfl, rfl⟩
        · obtain ⟨cw, cm, ci⟩ := wet_out hi' (by omega) (by omega) he
          unfold refH at cm
          cases o' <;>
          · refine ⟨dlZh1a, dlZh1b, dlZh1c, dlZh1d, dlZh1e, Ob.intro (by kernel_rfl) ?_⟩
            repeat refine same ?_
            refine callB_4 (E := [.row (xaC ⟨k, e, a, s, ps⟩)]) cd rfl rfl ?_
            repeat refine same ?_
            refine callB_4 (E := [.row (xaC ⟨k, e, a, s, ps⟩)]) cl rfl rfl ?_
            repeat refine same ?_
            refine callW (cs := [bo _, i64 (sec : Nat), .slc 1 0 4 1, .slc 2 0 4 1]) (rest := []) co rfl rfl rfl ?_
            repeat refine same ?_
            refine callU_4 (E := refO 11 ⟨_, sec, [x0, x1, x2, x3], [y0, y1, y2, y3]⟩ 4 sec ++ [.row (xaC ⟨k, e, a, s, ps⟩)]) cw rfl rfl hi' rfl rfl ?_
            repeat refine same ?_
            refine callR_4 (E := [.row (xaC ⟨k, e, a, s, ps⟩)]) cm rfl rfl ?_
            repeat refine same ?_
            refine callP ci rfl rfl ?_
            repeat refine same ?_
            exact hK (PlA.mk (i + 1) ⟨_, sec, [x0, x1, x2, x3], [y0, y1, y2, y3]⟩ (by omega) hi') [0, 1, 2, 3, 4, 5, 6, 7, 8, 9, 10, 11, 12] _ (show 120 - i = 120 - (i + 1) + 1 by omega) ⟨⟨rfl, rfl, rfl, rfl, rfl, congrArg i64 (wincQ (by omega)), True.intro⟩, ⟨.inl rfl, .inl rfl, .inl rfl, oS rfl, oS rfl, oS rfl, oS rfl, oM rfl, oM rfl, oM rfl, oM rfl, oX rfl, .inl rfl, True.intro⟩, rfl, rfl, rfl⟩
      · exact out _ ⟨⟨rfl, rfl, rfl, rfl, True.intro⟩, ⟨.inl rfl, .inl rfl, .inl rfl, oS rfl, oS rfl, oS rfl, oS rfl, oM rfl, oM rfl, oM rfl, oM rfl, oX rfl, .inl rfl, True.intro⟩, rfl, rfl, rfl⟩
    · exact out _ ⟨⟨rfl, rfl, rfl, rfl, True.intro⟩, ⟨.inl rfl, .inl rfl, .inl rfl, oS rfl, oS rfl, oS rfl, oS rfl, oM rfl, oM rfl, oM rfl, oM rfl, oX rfl, .inl rfl, True.intro⟩, rfl, rfl, rfl⟩
  obtain ⟨w, hw⟩ := z
  dsimp only
  obtain ⟨o, d0, d1, d2, d3, m0, m1, m2, m3, rfl⟩ := tell_4 hw
  refine loopI (α := { j : Nat // j ≤ 4 }) (fun z => [(0, i64 (4 : Nat)), (1, i64 (sec : Nat)), (7, .ptr 0 0), (9, .ptr 12 0), (13, i64 (z.val : Nat))]) (fun z => (Wd.mk o sec [d0, d1, d2, d3] [m0, m1, m2, m3]).H ++ refO 11 ⟨o, sec, [d0, d1, d2, d3], [m0, m1, m2, m3]⟩ 4 sec) (fun z => 4 - z.val) ⟨0, Nat.zero_le _⟩ [0, 1, 2, 3, 4, 5, 6, 7, 8, 9, 10, 11, 12] ⟨⟨rfl, rfl, rfl, rfl, rfl, True.intro⟩, ⟨.inl rfl, .inl rfl, .inl rfl, oS rfl, oS rfl, oS rfl, oS rfl, oM rfl, oM rfl, oM rfl, oM rfl, oX rfl, .inl rfl, True.intro⟩, rfl, rfl, rfl⟩ ?_
  rintro ⟨j, hj⟩ K hK
  dsimp only at hj ⊢
  refine forkD (fun h => ?_) (fun h => ?_)
  · have g : j < 4 := by have : (j : Int) < ((4 : Nat) : Int) := h; omega
    refine loopI (α := { t : Nat // t ≤ sec }) (fun z => [(0, i64 (4 : Nat)), (1, i64 (sec : Nat)), (7, .ptr 0 0), (9, .ptr 12 0), (13, i64 (j : Nat)), (14, i64 (z.val : Nat))]) (fun z => (Wd.mk o sec [d0, d1, d2, d3] [m0, m1, m2, m3]).H ++ refO 11 ⟨o, sec, [d0, d1, d2, d3], [m0, m1, m2, m3]⟩ 4 sec) (fun z => sec - z.val) ⟨0, Nat.zero_le _⟩ [0, 1, 2, 3, 4, 5, 6, 7, 8, 9, 10, 11, 12] ⟨⟨rfl, rfl, rfl, rfl, rfl, rfl, True.intro⟩, ⟨.inl rfl, .inl rfl, .inl rfl, oS rfl, oS rfl, oS rfl, oS rfl, oM rfl, oM rfl, oM rfl, oM rfl, oX rfl, .inl rfl, True.intro⟩, rfl, rfl, rfl⟩ ?_
    rintro ⟨t, ht⟩ K2 hK2
    dsimp only at ht ⊢
    refine forkD (fun h2 => ?_) (fun h2 => ?_)
    · have g2 : t < sec := by have : (t : Int) < (sec : Int) := h2; omega
      have cl := alike_4 ⟨o, sec, [d0, d1, d2, d3], [m0, m1, m2, m3]⟩ hw (by omega) (j : Nat) (t : Nat)
      refine callB_4 (E := []) cl rfl rfl ?_
      exact hK2 ⟨t + 1, g2⟩ [0, 1, 2, 3, 4, 5, 6, 7, 8, 9, 10, 11, 12] _ (show sec - t = sec - (t + 1) + 1 by omega) ⟨⟨rfl, rfl, rfl, rfl, rfl, congrArg i64 (wincQ (by omega)), True.intro⟩, ⟨.inl rfl, .inl rfl, .inl rfl, oS rfl, oS rfl, oS rfl, oS rfl, oM rfl, oM rfl, oM rfl, oM rfl, oX rfl, .inl rfl, True.intro⟩, rfl, rfl, rfl⟩
    · exact hK ⟨j + 1, g⟩ [0, 1, 2, 3, 4, 5, 6, 7, 8, 9, 10, 11, 12] _ (show 4 - j = 4 - (j + 1) + 1 by omega) ⟨⟨rfl, rfl, rfl, rfl, congrArg i64 (wincQ (by omega)), True.intro⟩, ⟨.inl rfl, .inl rfl, .inl rfl, oS rfl, oS rfl, oS rfl, oS rfl, oM rfl, oM rfl, oM rfl, oM rfl, oX rfl, .inl rfl, True.intro⟩, rfl, rfl, rfl⟩
  · refine callW (cs := [bo o, i64 (sec : Nat), .slc 1 0 4 1, .slc 2 0 4 1]) (rest := []) (exts_ok o (sec : Nat) 4) rfl rfl rfl ?_
    refine callW (cs := [bo o, i64 (sec : Nat), .slc 1 0 4 1, .slc 2 0 4 1]) (rest := []) (secs_ok o (sec : Nat) 4) rfl rfl rfl ?_
    refine fork (fun _ => ?_) (fun h => ?_)
    rotate_left
    · exact absurd (beq_iff_eq.2 rfl) (by rw [h]; decide)
    exact end0 rfl rfl rfl rfl
set_option maxHeartbeats 4000000 in
theorem callM_5 {P : Program} {g : FuncId} {bs args : List AV} {o o' : Bool} {sec n' sec' N : Nat} {d0 d1 d2 d3 d4 : List ByteArray} {m0 m1 m2 m3 m4 : Mp} {S : List Sx} {K : AV → Heap → Prop} {Kp : Value → Heap → Prop} (h : ACalls P g bs [] (RetH (.tup [.ptr 1 0, i64 0]) (rH o' n' sec' N S)))
    (ha : args = renL (rn [] (Wd.mk o sec [d0, d1, d2, d3, d4] [m0, m1, m2, m3, m4]).H.length) bs) (k : K (.tup [.ptr 14 0, i64 0]) ((Wd.mk o sec [d0, d1, d2, d3, d4] [m0, m1, m2, m3, m4]).H ++ rE 13 o' n' sec' N S)) : ACalls P g args (Wd.mk o sec [d0, d1, d2, d3, d4] [m0, m1, m2, m3, m4]).H (panK K Kp) :=
  callH h [] ha True.intro rfl rfl (by unfold merge rH; simp only [renH, renO_sx]; rfl) k
set_option maxHeartbeats 4000000 in
theorem callB_5 {P : Program} {g : FuncId} {bs args : List AV} {v : AV} {o o' : Bool} {sec : Nat} {d0 d1 d2 d3 d4 x0 x1 x2 x3 x4 : List ByteArray} {m0 m1 m2 m3 m4 y0 y1 y2 y3 y4 : Mp} {E : Heap} {K : AV → Heap → Prop} {Kp : Value → Heap → Prop}
    (h : ACalls P g bs ((Wd.mk o sec [d0, d1, d2, d3, d4] [m0, m1, m2, m3, m4]).H ++ rEw 13 ⟨o, sec, [d0, d1, d2, d3, d4], [m0, m1, m2, m3, m4]⟩ 5 sec) (RetH v ((Wd.mk o' sec [x0, x1, x2, x3, x4] [y0, y1, y2, y3, y4]).H ++ rEw 13 ⟨o', sec, [x0, x1, x2, x3, x4], [y0, y1, y2, y3, y4]⟩ 5 sec)))
    (ha : args = renL (rn [0, 1, 2, 3, 4, 5, 6, 7, 8, 9, 10, 11, 12, 13, 14] ((Wd.mk o sec [d0, d1, d2, d3, d4] [m0, m1, m2, m3, m4]).H ++ (refO 13 ⟨o, sec, [d0, d1, d2, d3, d4], [m0, m1, m2, m3, m4]⟩ 5 sec ++ E)).length) bs) (hv : ren (rn [0, 1, 2, 3, 4, 5, 6, 7, 8, 9, 10, 11, 12, 13, 14] ((Wd.mk o sec [d0, d1, d2, d3, d4] [m0, m1, m2, m3, m4]).H ++ (refO 13 ⟨o, sec, [d0, d1, d2, d3, d4], [m0, m1, m2, m3, m4]⟩ 5 sec ++ E)).length) v = v)
    (k : K v ((Wd.mk o' sec [x0, x1, x2, x3, x4] [y0, y1, y2, y3, y4]).H ++ (refO 13 ⟨o', sec, [x0, x1, x2, x3, x4], [y0, y1, y2, y3, y4]⟩ 5 sec ++ E))) :
    ACalls P g args ((Wd.mk o sec [d0, d1, d2, d3, d4] [m0, m1, m2, m3, m4]).H ++ (refO 13 ⟨o, sec, [d0, d1, d2, d3, d4], [m0, m1, m2, m3, m4]⟩ 5 sec ++ E)) (panK K Kp) :=
  callH h [0, 1, 2, 3, 4, 5, 6, 7, 8, 9, 10, 11, 12, 13, 14] ha ⟨.inl rfl, .inl rfl, .inl rfl, oS rfl, oS rfl, oS rfl, oS rfl, oS rfl, oM rfl, oM rfl, oM rfl, oM rfl, oM rfl, oX rfl, .inl rfl, True.intro⟩ rfl hv (by unfold rEw rE Wd.H merge; simp only [List.map_cons, List.map_nil, List.cons_append, List.nil_append, renH, renO_str, renO_mp, renO_sx]; exact Eq.trans (List.append_nil _) rfl) k
set_option maxHeartbeats 4000000 in
theorem plays_5 (sec : Nat) (hs1 : 1 ≤ sec) (hs2 : sec ≤ 20) (L : List Xa) : ACalls Try.prog 5 [i64 (5 : Nat), i64 (sec : Nat), .view L.length (flat xaC L)] [] (Ret (bo true)) := by
  refine acalls_of_awpC [16] hT mixed Try.func5 rfl (by kernel_rfl) (by kernel_rfl) (Nat.le_of_ble_eq_true rfl) ?_
  refine callP awakeX_ok rfl rfl ?_
  refine forkD (fun h => ?_) (fun _ => ?_)
  · exact absurd h (by omega)
  refine callN_5 (newE_ok 5 sec (by omega) (by omega) hs1 (by omega)) (new_is (by omega) (by omega)) rfl rfl (fun o x0 x1 x2 x3 x4 y0 y1 y2 y3 y4 e => ?_)
  have i0 : (⟨o, sec, [x0, x1, x2, x3, x4], [y0, y1, y2, y3, y4]⟩ : Wd).is 5 sec := e ▸ new_is (by omega) (by omega)
  have cm := refNewW (n := 5) (sec := sec) (by omega) (by omega) hs1 (by omega)
  unfold refH at cm
  rw [e] at cm
  refine callM_5 cm rfl ?_
  clear e cm
  refine cutI (α := { w : Wd // w.is 5 sec }) (fun z => [(0, i64 (5 : Nat)), (1, i64 (sec : Nat)), (7, .ptr 0 0), (9, .ptr 14 0)]) (fun z => z.val.H ++ refO 13 z.val 5 sec) [] (fun K1 hK1 => ?_) (fun z => ?_)
  · refine loopI (α := PlA 5 sec) (fun z => [(0, i64 (5 : Nat)), (1, i64 (sec : Nat)), (2, .view L.length (flat xaC L)), (7, .ptr 0 0), (9, .ptr 14 0), (11, i64 (z.i : Nat))]) (fun z => z.w.H ++ refO 13 z.w 5 sec) (fun z => 120 - z.i) (PlA.mk 0 ⟨o, sec, [x0, x1, x2, x3, x4], [y0, y1, y2, y3, y4]⟩ (Nat.zero_le _) i0) [0, 1, 2, 3, 4, 5, 6, 7, 8, 9, 10, 11, 12, 13, 14] ⟨⟨rfl, rfl, rfl, rfl, rfl, rfl, True.intro⟩, ⟨.inl rfl, .inl rfl, .inl rfl, oS rfl, oS rfl, oS rfl, oS rfl, oS rfl, oM rfl, oM rfl, oM rfl, oM rfl, oM rfl, oX rfl, .inl rfl, True.intro⟩, rfl, rfl, rfl⟩ ?_
    clear i0
    rintro ⟨i, w, hi, hw⟩ K hK
    dsimp only at hi ⊢
    obtain ⟨o, d0, d1, d2, d3, d4, m0, m1, m2, m3, m4, rfl⟩ := tell_5 hw
    have out := hK1 ⟨⟨o, sec, [d0, d1, d2, d3, d4], [m0, m1, m2, m3, m4]⟩, hw⟩ [] [0, 1, 2, 3, 4, 5, 6, 7, 8, 9, 10, 11, 12, 13, 14]
    dsimp only at out
    refine forkD (fun h => ?_) (fun h => ?_)
    · refine forkD (fun h2 => ?_) (fun h2 => ?_)
      · have g : i < L.length := by have : (i : Int) < (L.length : Int) := h; omega
        have g2 : i < 120 := by have : (i : Int) < 120 := h2; omega
        obtain ⟨⟨k, e, a, s, ps⟩, hx⟩ : ∃ x, L[i]? = some x := ⟨_, List.getElem?_eq_getElem g⟩
        refine Ob.intro (show (0 : Int) ≤ (i : Nat) ∧ ((i : Nat) : Int) < (L.length : Nat) by omega) ?_
        refine optK_intro (flat_takeN (f := xaC) (n := 5) (fun _ => rfl) hx) ?_
        refine forkD (fun _ => ?_) (fun _ => ?_)
        · exact hK (PlA.mk (i + 1) ⟨o, sec, [d0, d1, d2, d3, d4], [m0, m1, m2, m3, m4]⟩ (by omega) hw) [0, 1, 2, 3, 4, 5, 6, 7, 8, 9, 10, 11, 12, 13, 14] _ (show 120 - i = 120 - (i + 1) + 1 by omega) ⟨⟨rfl, rfl, rfl, rfl, rfl, congrArg i64 (wincQ (by omega)), True.intro⟩, ⟨.inl rfl, .inl rfl, .inl rfl, oS rfl, oS rfl, oS rfl, oS rfl, oS rfl, oM rfl, oM rfl, oM rfl, oM rfl, oM rfl, oX rfl, .inl rfl, True.intro⟩, rfl, rfl, rfl⟩
        refine forkD (fun _ => ?_) (fun hp => ?_)
        · exact hK (PlA.mk (i + 1) ⟨o, sec, [d0, d1, d2, d3, d4], [m0, m1, m2, m3, m4]⟩ (by omega) hw) [0, 1, 2, 3, 4, 5, 6, 7, 8, 9, 10, 11, 12, 13, 14] _ (show 120 - i = 120 - (i + 1) + 1 by omega) ⟨⟨rfl, rfl, rfl, rfl, rfl, congrArg i64 (wincQ (by omega)), True.intro⟩, ⟨.inl rfl, .inl rfl, .inl rfl, oS rfl, oS rfl, oS rfl, oS rfl, oS rfl, oM rfl, oM rfl, oM rfl, oM rfl, oM rfl, oX rfl, .inl rfl, True.intro⟩, rfl, rfl, rfl⟩
        have hps : ps.length ≤ 100 := by have : ¬ (ps.length : Int) > 100 := hp; omega
        have cd := does_5 ⟨o, sec, [d0, d1, d2, d3, d4], [m0, m1, m2, m3, m4]⟩ hw (by omega) ⟨k, e, a, s, ps⟩ hps
        have hi' := play_is hw ⟨k, e, a, s, ps⟩
        generalize Wd.play ⟨o, sec, [d0, d1, d2, d3, d4], [m0, m1, m2, m3, m4]⟩ ⟨k, e, a, s, ps⟩ = w' at cd hi'
        obtain ⟨o', x0, x1, x2, x3, x4, y0, y1, y2, y3, y4, rfl⟩ := tell_5 hi'
        have cl := alike_5 ⟨o', sec, [x0, x1, x2, x3, x4], [y0, y1, y2, y3, y4]⟩ hi' (by omega) e a
        have co := on_ok o' (sec : Nat) 5
        by_cases he : 0 ≤ e ∧ e < ((5 : Nat) : Int)
        · obtain ⟨cw, cm, ci⟩ := wet_in hi' (by omega) (by omega) he
          unfold refH at cm
          cases o' <;>
          · refine ⟨dlZh1a, dlZh1b, dlZh1c, dlZh1d, dlZh1e, Ob.intro (by kernel_rfl) ?_⟩
            repeat refine same ?_
            refine callB_5 (E := [.row (xaC ⟨k, e, a, s, ps⟩)]) cd rfl rfl ?_
            repeat refine same ?_
            refine callB_5 (E := [.row (xaC ⟨k, e, a, s, ps⟩)]) cl rfl rfl ?_
            repeat refine same ?_
            refine callW (cs := [bo _, i64 (sec : Nat), .slc 1 0 5 1, .slc 2 0 5 1]) (rest := []) co rfl rfl rfl ?_
            repeat refine same ?_
            refine callU_5 (E := refO 13 ⟨_, sec, [x0, x1, x2, x3, x4], [y0, y1, y2, y3, y4]⟩ 5 sec ++ [.row (xaC ⟨k, e, a, s, ps⟩)]) cw rfl rfl hi' rfl rfl ?_
            repeat refine same ?_
            refine callR_5 (E := [.row (xaC ⟨k, e, a, s, ps⟩)]) cm rfl rfl ?_
            repeat refine same ?_
            refine callP ci rfl rfl ?_
            repeat refine same ?_
            exact hK (PlA.mk (i + 1) ⟨_, sec, [x0, x1, x2, x3, x4], [y0, y1, y2, y3, y4]⟩ (by omega) hi') [0, 1, 2, 3, 4, 5, 6, 7, 8, 9, 10, 11, 12, 13, 14] _ (show 120 - i = 120 - (i + 1) + 1 by omega) ⟨⟨rfl, rfl, rfl, rfl, rfl, congrArg i64 (wincQ (by omega)), True.intro⟩, ⟨.inl rfl, .inl rfl, .inl rfl, oS rfl, oS rfl, oS rfl, oS rfl, oS rfl, oM rfl, oM rfl, oM rfl, oM rfl, oM rfl, oX rfl, .inl rfl, True.intro⟩, rfl, rfl, rfl⟩
        · obtain ⟨cw, cm, ci⟩ := wet_out hi' (by omega) (by omega) he
          unfold refH at cm
          cases o' <;>
          · refine ⟨dlZh1a, dlZh1b, dlZh1c, dlZh1d, dlZh1e, Ob.intro (by kernel_rfl) ?_⟩
            repeat refine same ?_
            refine callB_5 (E := [.row (xaC ⟨k, e, a, s, ps⟩)]) cd rfl rfl ?_
            repeat refine same ?_
            refine callB_5 (E := [.row (xaC ⟨k, e, a, s, ps⟩)]) cl rfl rfl ?_
            repeat refine same ?_
            refine callW (cs := [bo _, i64 (sec : Nat), .slc 1 0 5 1, .slc 2 0 5 1]) (rest := []) co rfl rfl rfl ?_
            repeat refine same ?_
            refine callU_5 (E := refO 13 ⟨_, sec, [x0, x1, x2, x3, x4], [y0, y1, y2, y3, y4]⟩ 5 sec ++ [.row (xaC ⟨k, e, a, s, ps⟩)]) cw rfl rfl hi' rfl rfl ?_
            repeat refine same ?_
            refine callR_5 (E := [.row (xaC ⟨k, e, a, s, ps⟩)]) cm rfl rfl ?_
            repeat refine same ?_
            refine callP ci rfl rfl ?_
            repeat refine same ?_
            exact hK (PlA.mk (i + 1) ⟨_, sec, [x0, x1, x2, x3, x4], [y0, y1, y2, y3, y4]⟩ (by omega) hi') [0, 1, 2, 3, 4, 5, 6, 7, 8, 9, 10, 11, 12, 13, 14] _ (show 120 - i = 120 - (i + 1) + 1 by omega) ⟨⟨rfl, rfl, rfl, rfl, rfl, congrArg i64 (wincQ (by omega)), True.intro⟩, ⟨.inl rfl, .inl rfl, .inl rfl, oS rfl, oS rfl, oS rfl, oS rfl, oS rfl, oM rfl, oM rfl, oM rfl, oM rfl, oM rfl, oX rfl, .inl rfl, True.intro⟩, rfl, rfl, rfl⟩
      · exact out _ ⟨⟨rfl, rfl, rfl, rfl, True.intro⟩, ⟨.inl rfl, .inl rfl, .inl rfl, oS rfl, oS rfl, oS rfl, oS rfl, oS rfl, oM rfl, oM rfl, oM rfl, oM rfl, oM rfl, oX rfl, .inl rfl, True.intro⟩, rfl, rfl, rfl⟩
    · exact out _ ⟨⟨rfl, rfl, rfl, rfl, True.intro⟩, ⟨.inl rfl, .inl rfl, .inl rfl, oS rfl, oS rfl, oS rfl, oS rfl, oS rfl, oM rfl, oM rfl, oM rfl, oM rfl, oM rfl, oX rfl, .inl rfl, True.intro⟩, rfl, rfl, rfl⟩
  obtain ⟨w, hw⟩ := z
  dsimp only
  obtain ⟨o, d0, d1, d2, d3, d4, m0, m1, m2, m3, m4, rfl⟩ := tell_5 hw
  refine loopI (α := { j : Nat // j ≤ 5 }) (fun z => [(0, i64 (5 : Nat)), (1, i64 (sec : Nat)), (7, .ptr 0 0), (9, .ptr 14 0), (13, i64 (z.val : Nat))]) (fun z => (Wd.mk o sec [d0, d1, d2, d3, d4] [m0, m1, m2, m3, m4]).H ++ refO 13 ⟨o, sec, [d0, d1, d2, d3, d4], [m0, m1, m2, m3, m4]⟩ 5 sec) (fun z => 5 - z.val) ⟨0, Nat.zero_le _⟩ [0, 1, 2, 3, 4, 5, 6, 7, 8, 9, 10, 11, 12, 13, 14] ⟨⟨rfl, rfl, rfl, rfl, rfl, True.intro⟩, ⟨.inl rfl, .inl rfl, .inl rfl, oS rfl, oS rfl, oS rfl, oS rfl, oS rfl, oM rfl, oM rfl, oM rfl, oM rfl, oM rfl, oX rfl, .inl rfl, True.intro⟩, rfl, rfl, rfl⟩ ?_
  rintro ⟨j, hj⟩ K hK
  dsimp only at hj ⊢
  refine forkD (fun h => ?_) (fun h => ?_)
  · have g : j < 5 := by have : (j : Int) < ((5 : Nat) : Int) := h; omega
    refine loopI (α := { t : Nat // t ≤ sec }) (fun z => [(0, i64 (5 : Nat)), (1, i64 (sec : Nat)), (7, .ptr 0 0), (9, .ptr 14 0), (13, i64 (j : Nat)), (14, i64 (z.val : Nat))]) (fun z => (Wd.mk o sec [d0, d1, d2, d3, d4] [m0, m1, m2, m3, m4]).H ++ refO 13 ⟨o, sec, [d0, d1, d2, d3, d4], [m0, m1, m2, m3, m4]⟩ 5 sec) (fun z => sec - z.val) ⟨0, Nat.zero_le _⟩ [0, 1, 2, 3, 4, 5, 6, 7, 8, 9, 10, 11, 12, 13, 14] ⟨⟨rfl, rfl, rfl, rfl, rfl, rfl, True.intro⟩, ⟨.inl rfl, .inl rfl, .inl rfl, oS rfl, oS rfl, oS rfl, oS rfl, oS rfl, oM rfl, oM rfl, oM rfl, oM rfl, oM rfl, oX rfl, .inl rfl, True.intro⟩, rfl, rfl, rfl⟩ ?_
    rintro ⟨t, ht⟩ K2 hK2
    dsimp only at ht ⊢
    refine forkD (fun h2 => ?_) (fun h2 => ?_)
    · have g2 : t < sec := by have : (t : Int) < (sec : Int) := h2; omega
      have cl := alike_5 ⟨o, sec, [d0, d1, d2, d3, d4], [m0, m1, m2, m3, m4]⟩ hw (by omega) (j : Nat) (t : Nat)
      refine callB_5 (E := []) cl rfl rfl ?_
      exact hK2 ⟨t + 1, g2⟩ [0, 1, 2, 3, 4, 5, 6, 7, 8, 9, 10, 11, 12, 13, 14] _ (show sec - t = sec - (t + 1) + 1 by omega) ⟨⟨rfl, rfl, rfl, rfl, rfl, congrArg i64 (wincQ (by omega)), True.intro⟩, ⟨.inl rfl, .inl rfl, .inl rfl, oS rfl, oS rfl, oS rfl, oS rfl, oS rfl, oM rfl, oM rfl, oM rfl, oM rfl, oM rfl, oX rfl, .inl rfl, True.intro⟩, rfl, rfl, rfl⟩
    · exact hK ⟨j + 1, g⟩ [0, 1, 2, 3, 4, 5, 6, 7, 8, 9, 10, 11, 12, 13, 14] _ (show 5 - j = 5 - (j + 1) + 1 by omega) ⟨⟨rfl, rfl, rfl, rfl, congrArg i64 (wincQ (by omega)), True.intro⟩, ⟨.inl rfl, .inl rfl, .inl rfl, oS rfl, oS rfl, oS rfl, oS rfl, oS rfl, oM rfl, oM rfl, oM rfl, oM rfl, oM rfl, oX rfl, .inl rfl, True.intro⟩, rfl, rfl, rfl⟩
  · refine callW (cs := [bo o, i64 (sec : Nat), .slc 1 0 5 1, .slc 2 0 5 1]) (rest := []) (exts_ok o (sec : Nat) 5) rfl rfl rfl ?_
    refine callW (cs := [bo o, i64 (sec : Nat), .slc 1 0 5 1, .slc 2 0 5 1]) (rest := []) (secs_ok o (sec : Nat) 5) rfl rfl rfl ?_
    refine fork (fun _ => ?_) (fun h => ?_)
    rotate_left
    · exact absurd (beq_iff_eq.2 rfl) (by rw [h]; decide)
    exact end0 rfl rfl rfl rfl
set_option maxHeartbeats 4000000 in
theorem callM_6 {P : Program} {g : FuncId} {bs args : List AV} {o o' : Bool} {sec n' sec' N : Nat} {d0 d1 d2 d3 d4 d5 : List ByteArray} {m0 m1 m2 m3 m4 m5 : Mp} {S : List Sx} {K : AV → Heap → Prop} {Kp : Value → Heap → Prop} (h : ACalls P g bs [] (RetH (.tup [.ptr 1 0, i64 0]) (rH o' n' sec' N S)))
    (ha : args = renL (rn [] (Wd.mk o sec [d0, d1, d2, d3, d4, d5] [m0, m1, m2, m3, m4, m5]).H.length) bs) (k : K (.tup [.ptr 16 0, i64 0]) ((Wd.mk o sec [d0, d1, d2, d3, d4, d5] [m0, m1, m2, m3, m4, m5]).H ++ rE 15 o' n' sec' N S)) : ACalls P g args (Wd.mk o sec [d0, d1, d2, d3, d4, d5] [m0, m1, m2, m3, m4, m5]).H (panK K Kp) :=
  callH h [] ha True.intro rfl rfl (by unfold merge rH; simp only [renH, renO_sx]; rfl) k
set_option maxHeartbeats 4000000 in
theorem callB_6 {P : Program} {g : FuncId} {bs args : List AV} {v : AV} {o o' : Bool} {sec : Nat} {d0 d1 d2 d3 d4 d5 x0 x1 x2 x3 x4 x5 : List ByteArray} {m0 m1 m2 m3 m4 m5 y0 y1 y2 y3 y4 y5 : Mp} {E : Heap} {K : AV → Heap → Prop} {Kp : Value → Heap → Prop}
    (h : ACalls P g bs ((Wd.mk o sec [d0, d1, d2, d3, d4, d5] [m0, m1, m2, m3, m4, m5]).H ++ rEw 15 ⟨o, sec, [d0, d1, d2, d3, d4, d5], [m0, m1, m2, m3, m4, m5]⟩ 6 sec) (RetH v ((Wd.mk o' sec [x0, x1, x2, x3, x4, x5] [y0, y1, y2, y3, y4, y5]).H ++ rEw 15 ⟨o', sec, [x0, x1, x2, x3, x4, x5], [y0, y1, y2, y3, y4, y5]⟩ 6 sec)))
    (ha : args = renL (rn [0, 1, 2, 3, 4, 5, 6, 7, 8, 9, 10, 11, 12, 13, 14, 15, 16] ((Wd.mk o sec [d0, d1, d2, d3, d4, d5] [m0, m1, m2, m3, m4, m5]).H ++ (refO 15 ⟨o, sec, [d0, d1, d2, d3, d4, d5], [m0, m1, m2, m3, m4, m5]⟩ 6 sec ++ E)).length) bs) (hv : ren (rn [0, 1, 2, 3, 4, 5, 6, 7, 8, 9, 10, 11, 12, 13, 14, 15, 16] ((Wd.mk o sec [d0, d1, d2, d3, d4, d5] [m0, m1, m2, m3, m4, m5]).H ++ (refO 15 ⟨o, sec, [d0, d1, d2, d3, d4, d5], [m0, m1, m2, m3, m4, m5]⟩ 6 sec ++ E)).length) v = v)
    (k : K v ((Wd.mk o' sec [x0, x1, x2, x3, x4, x5] [y0, y1, y2, y3, y4, y5]).H ++ (refO 15 ⟨o', sec, [x0, x1, x2, x3, x4, x5], [y0, y1, y2, y3, y4, y5]⟩ 6 sec ++ E))) :
    ACalls P g args ((Wd.mk o sec [d0, d1, d2, d3, d4, d5] [m0, m1, m2, m3, m4, m5]).H ++ (refO 15 ⟨o, sec, [d0, d1, d2, d3, d4, d5], [m0, m1, m2, m3, m4, m5]⟩ 6 sec ++ E)) (panK K Kp) :=
  callH h [0, 1, 2, 3, 4, 5, 6, 7, 8, 9, 10, 11, 12, 13, 14, 15, 16] ha ⟨.inl rfl, .inl rfl, .inl rfl, oS rfl, oS rfl, oS rfl, oS rfl, oS rfl, oS rfl, oM rfl, oM rfl, oM rfl, oM rfl, oM rfl, oM rfl, oX rfl, .inl rfl, True.intro⟩ rfl hv (by unfold rEw rE Wd.H merge; simp only [List.map_cons, List.map_nil, List.cons_append, List.nil_append, renH, renO_str, renO_mp, renO_sx]; exact Eq.trans (List.append_nil _) rfl) k
set_option maxHeartbeats 4000000 in
theorem plays_6 (sec : Nat) (hs1 : 1 ≤ sec) (hs2 : sec ≤ 20) (L : List Xa) : ACalls Try.prog 5 [i64 (6 : Nat), i64 (sec : Nat), .view L.length (flat xaC L)] [] (Ret (bo true)) := by
  refine acalls_of_awpC [16] hT mixed Try.func5 rfl (by kernel_rfl) (by kernel_rfl) (Nat.le_of_ble_eq_true rfl) ?_
  refine callP awakeX_ok rfl rfl ?_
  refine forkD (fun h => ?_) (fun _ => ?_)
  · exact absurd h (by omega)
  refine callN_6 (newE_ok 6 sec (by omega) (by omega) hs1 (by omega)) (new_is (by omega) (by omega)) rfl rfl (fun o x0 x1 x2 x3 x4 x5 y0 y1 y2 y3 y4 y5 e => ?_)
  have i0 : (⟨o, sec, [x0, x1, x2, x3, x4, x5], [y0, y1, y2, y3, y4, y5]⟩ : Wd).is 6 sec := e ▸ new_is (by omega) (by omega)
  have cm := refNewW (n := 6) (sec := sec) (by omega) (by omega) hs1 (by omega)
  unfold refH at cm
  rw [e] at cm
  refine callM_6 cm rfl ?_
  clear e cm
  refine cutI (α := { w : Wd // w.is 6 sec }) (fun z => [(0, i64 (6 : Nat)), (1, i64 (sec : Nat)), (7, .ptr 0 0), (9, .ptr 16 0)]) (fun z => z.val.H ++ refO 15 z.val 6 sec) [] (fun K1 hK1 => ?_) (fun z => ?_)
  · refine loopI (α := PlA 6 sec) (fun z => [(0, i64 (6 : Nat)), (1, i64 (sec : Nat)), (2, .view L.length (flat xaC L)), (7, .ptr 0 0), (9, .ptr 16 0), (11, i64 (z.i : Nat))]) (fun z => z.w.H ++ refO 15 z.w 6 sec) (fun z => 120 - z.i) (PlA.mk 0 ⟨o, sec, [x0, x1, x2, x3, x4, x5], [y0, y1, y2, y3, y4, y5]⟩ (Nat.zero_le _) i0) [0, 1, 2, 3, 4, 5, 6, 7, 8, 9, 10, 11, 12, 13, 14, 15, 16] ⟨⟨rfl, rfl, rfl, rfl, rfl, rfl, True.intro⟩, ⟨.inl rfl, .inl rfl, .inl rfl, oS rfl, oS rfl, oS rfl, oS rfl, oS rfl, oS rfl, oM rfl, oM rfl, oM rfl, oM rfl, oM rfl, oM rfl, oX rfl, .inl rfl, True.intro⟩, rfl, rfl, rfl⟩ ?_
    clear i0
    rintro ⟨i, w, hi, hw⟩ K hK
    dsimp only at hi ⊢
    obtain ⟨o, d0, d1, d2, d3, d4, d5, m0, m1, m2, m3, m4, m5, rfl⟩ := tell_6 hw
    have out := hK1 ⟨⟨o, sec, [d0, d1, d2, d3, d4, d5], [m0, m1, m2, m3, m4, m5]⟩, hw⟩ [] [0, 1, 2, 3, 4, 5, 6, 7, 8, 9, 10, 11, 12, 13, 14, 15, 16]
    dsimp only at out
    refine forkD (fun h => ?_) (fun h => ?_)
    · refine forkD (fun h2 => ?_) (fun h2 => ?_)
      · have g : i < L.length := by have : (i : Int) < (L.length : Int) := h; omega
        have g2 : i < 120 := by have : (i : Int) < 120 := h2; omega
        obtain ⟨⟨k, e, a, s, ps⟩, hx⟩ : ∃ x, L[i]? = some x := ⟨_, List.getElem?_eq_getElem g⟩
        refine Ob.intro (show (0 : Int) ≤ (i : Nat) ∧ ((i : Nat) : Int) < (L.length : Nat) by omega) ?_
        refine optK_intro (flat_takeN (f := xaC) (n := 5) (fun _ => rfl) hx) ?_
        refine forkD (fun _ => ?_) (fun _ => ?_)
        · exact hK (PlA.mk (i + 1) ⟨o, sec, [d0, d1, d2, d3, d4, d5], [m0, m1, m2, m3, m4, m5]⟩ (by omega) hw) [0, 1, 2, 3, 4, 5, 6, 7, 8, 9, 10, 11, 12, 13, 14, 15, 16] _ (show 120 - i = 120 - (i + 1) + 1 by omega) ⟨⟨rfl, rfl, rfl, rfl, rfl, congrArg i64 (wincQ (by omega)), True.intro⟩, ⟨.inl rfl, .inl rfl, .inl rfl, oS rfl, oS rfl, oS rfl, oS rfl, oS rfl, oS rfl, oM rfl, oM rfl, oM rfl, oM rfl, oM rfl, oM rfl, oX rfl, .inl rfl, True.intro⟩, rfl, rfl, rfl⟩
        refine forkD (fun _ => ?_) (fun hp => ?_)
        · exact hK (PlA.mk (i + 1) ⟨o, sec, [d0, d1, d2, d3, d4, d5], [m0, m1, m2, m3, m4, m5]⟩ (by omega) hw) [0, 1, 2, 3, 4, 5, 6, 7, 8, 9, 10, 11, 12, 13, 14, 15, 16] _ (show 120 - i = 120 - (i + 1) + 1 by omega) ⟨⟨rfl, rfl, rfl, rfl, rfl, congrArg i64 (wincQ (by omega)), True.intro⟩, ⟨.inl rfl, .inl rfl, .inl rfl, oS rfl, oS rfl, oS rfl, oS rfl, oS rfl, oS rfl, oM rfl, oM rfl, oM rfl, oM rfl, oM rfl, oM rfl, oX rfl, .inl rfl, True.intro⟩, rfl, rfl, rfl⟩
        have hps : ps.length ≤ 100 := by have : ¬ (ps.length : Int) > 100 := hp; omega
        have cd := does_6 ⟨o, sec, [d0, d1, d2, d3, d4, d5], [m0, m1, m2, m3, m4, m5]⟩ hw (by omega) ⟨k, e, a, s, ps⟩ hps
        have hi' := play_is hw ⟨k, e, a, s, ps⟩
        generalize Wd.play ⟨o, sec, [d0, d1, d2, d3, d4, d5], [m0, m1, m2, m3, m4, m5]⟩ ⟨k, e, a, s, ps⟩ = w' at cd hi'
        obtain ⟨o', x0, x1, x2, x3, x4, x5, y0, y1, y2, y3, y4, y5, rfl⟩ := tell_6 hi'
        have cl := alike_6 ⟨o', sec, [x0, x1, x2, x3, x4, x5], [y0, y1, y2, y3, y4, y5]⟩ hi' (by omega) e a
        have co := on_ok o' (sec : Nat) 6
        by_cases he : 0 ≤ e ∧ e < ((6 : Nat) : Int)
        · obtain ⟨cw, cm, ci⟩ := wet_in hi' (by omega) (by omega) he
          unfold refH at cm
          cases o' <;>
          · refine ⟨dlZh1a, dlZh1b, dlZh1c, dlZh1d, dlZh1e, Ob.intro (by kernel_rfl) ?_⟩
            repeat refine same ?_
            refine callB_6 (E := [.row (xaC ⟨k, e, a, s, ps⟩)]) cd rfl rfl ?_
            repeat refine same ?_
            refine callB_6 (E := [.row (xaC ⟨k, e, a, s, ps⟩)]) cl rfl rfl ?_
            repeat refine same ?_
            refine callW (cs := [bo _, i64 (sec : Nat), .slc 1 0 6 1, .slc 2 0 6 1]) (rest := []) co rfl rfl rfl ?_
            repeat refine same ?_
            refine callU_6 (E := refO 15 ⟨_, sec, [x0, x1, x2, x3, x4, x5], [y0, y1, y2, y3, y4, y5]⟩ 6 sec ++ [.row (xaC ⟨k, e, a, s, ps⟩)]) cw rfl rfl hi' rfl rfl ?_
            repeat refine same ?_
            refine callR_6 (E := [.row (xaC ⟨k, e, a, s, ps⟩)]) cm rfl rfl ?_
            repeat refine same ?_
            refine callP ci rfl rfl ?_
            repeat refine same ?_
            exact hK (PlA.mk (i + 1) ⟨_, sec, [x0, x1, x2, x3, x4, x5], [y0, y1, y2, y3, y4, y5]⟩ (by omega) hi') [0, 1, 2, 3, 4, 5, 6, 7, 8, 9, 10, 11, 12, 13, 14, 15, 16] _ (show 120 - i = 120 - (i + 1) + 1 by omega) ⟨⟨rfl, rfl, rfl, rfl, rfl, congrArg i64 (wincQ (by omega)), True.intro⟩, ⟨.inl rfl, .inl rfl, .inl rfl, oS rfl, oS rfl, oS rfl, oS rfl, oS rfl, oS rfl, oM rfl, oM rfl, oM rfl, oM rfl, oM rfl, oM rfl, oX rfl, .inl rfl, True.intro⟩, rfl, rfl, rfl⟩
        · obtain ⟨cw, cm, ci⟩ := wet_out hi' (by omega) (by omega) he
          unfold refH at cm
          cases o' <;>
          · refine ⟨dlZh1a, dlZh1b, dlZh1c, dlZh1d, dlZh1e, Ob.intro (by kernel_rfl) ?_⟩
            repeat refine same ?_
            refine callB_6 (E := [.row (xaC ⟨k, e, a, s, ps⟩)]) cd rfl rfl ?_
            repeat refine same ?_
            refine callB_6 (E := [.row (xaC ⟨k, e, a, s, ps⟩)]) cl rfl rfl ?_
            repeat refine same ?_
            refine callW (cs := [bo _, i64 (sec : Nat), .slc 1 0 6 1, .slc 2 0 6 1]) (rest := []) co rfl rfl rfl ?_
            repeat refine same ?_
            refine callU_6 (E := refO 15 ⟨_, sec, [x0, x1, x2, x3, x4, x5], [y0, y1, y2, y3, y4, y5]⟩ 6 sec ++ [.row (xaC ⟨k, e, a, s, ps⟩)]) cw rfl rfl hi' rfl rfl ?_
            repeat refine same ?_
            refine callR_6 (E := [.row (xaC ⟨k, e, a, s, ps⟩)]) cm rfl rfl ?_
            repeat refine same ?_
            refine callP ci rfl rfl ?_
            repeat refine same ?_
            exact hK (PlA.mk (i + 1) ⟨_, sec, [x0, x1, x2, x3, x4, x5], [y0, y1, y2, y3, y4, y5]⟩ (by omega) hi') [0, 1, 2, 3, 4, 5, 6, 7, 8, 9, 10, 11, 12, 13, 14, 15, 16] _ (show 120 - i = 120 - (i + 1) + 1 by omega) ⟨⟨rfl, rfl, rfl, rfl, rfl, congrArg i64 (wincQ (by omega)), True.intro⟩, ⟨.inl rfl, .inl rfl, .inl rfl, oS rfl, oS rfl, oS rfl, oS rfl, oS rfl, oS rfl, oM rfl, oM rfl, oM rfl, oM rfl, oM rfl, oM rfl, oX rfl, .inl rfl, True.intro⟩, rfl, rfl, rfl⟩
      · exact out _ ⟨⟨rfl, rfl, rfl, rfl, True.intro⟩, ⟨.inl rfl, .inl rfl, .inl rfl, oS rfl, oS rfl, oS rfl, oS rfl, oS rfl, oS rfl, oM rfl, oM rfl, oM rfl, oM rfl, oM rfl, oM rfl, oX rfl, .inl rfl, True.intro⟩, rfl, rfl, rfl⟩
    · exact out _ ⟨⟨rfl, rfl, rfl, rfl, True.intro⟩, ⟨.inl rfl, .inl rfl, .inl rfl, oS rfl, oS rfl, oS rfl, oS rfl, oS rfl, oS rfl, oM rfl, oM rfl, oM rfl, oM rfl, oM rfl, oM rfl, oX rfl, .inl rfl, True.intro⟩, rfl, rfl, rfl⟩
  obtain ⟨w, hw⟩ := z
  dsimp only
  obtain ⟨o, d0, d1, d2, d3, d4, d5, m0, m1, m2, m3, m4, m5, rfl⟩ := tell_6 hw
  refine loopI (α := { j : Nat // j ≤ 6 }) (fun z => [(0, i64 (6 : Nat)), (1, i64 (sec : Nat)), (7, .ptr 0 0), (9, .ptr 16 0), (13, i64 (z.val : Nat))]) (fun z => (Wd.mk o sec [d0, d1, d2, d3, d4, d5] [m0, m1, m2, m3, m4, m5]).H ++ refO 15 ⟨o, sec, [d0, d1, d2, d3, d4, d5], [m0, m1, m2, m3, m4, m5]⟩ 6 sec) (fun z => 6 - z.val) ⟨0, Nat.zero_le _⟩ [0, 1, 2, 3, 4, 5, 6, 7, 8, 9, 10, 11, 12, 13, 14, 15, 16] ⟨⟨rfl, rfl, rfl, rfl, rfl, True.intro⟩, ⟨.inl rfl, .inl rfl, .inl rfl, oS rfl, oS rfl, oS rfl, oS rfl, oS rfl, oS rfl, oM rfl, oM rfl, oM rfl, oM rfl, oM rfl, oM rfl, oX rfl, .inl rfl, True.intro⟩, rfl, rfl, rfl⟩ ?_
  rintro ⟨j, hj⟩ K hK
  dsimp only at hj ⊢
  refine forkD (fun h => ?_) (fun h => ?_)
  · have g : j < 6 := by have : (j : Int) < ((6 : Nat) : Int) := h; omega
    refine loopI (α := { t : Nat // t ≤ sec }) (fun z => [(0, i64 (6 : Nat)), (1, i64 (sec : Nat)), (7, .ptr 0 0), (9, .ptr 16 0), (13, i64 (j : Nat)), (14, i64 (z.val : Nat))]) (fun z => (Wd.mk o sec [d0, d1, d2, d3, d4, d5] [m0, m1, m2, m3, m4, m5]).H ++ refO 15 ⟨o, sec, [d0, d1, d2, d3, d4, d5], [m0, m1, m2, m3, m4, m5]⟩ 6 sec) (fun z => sec - z.val) ⟨0, Nat.zero_le _⟩ [0, 1, 2, 3, 4, 5, 6, 7, 8, 9, 10, 11, 12, 13, 14, 15, 16] ⟨⟨rfl, rfl, rfl, rfl, rfl, rfl, True.intro⟩, ⟨.inl rfl, .inl rfl, .inl rfl, oS rfl, oS rfl, oS rfl, oS rfl, oS rfl, oS rfl, oM rfl, oM rfl, oM rfl, oM rfl, oM rfl, oM rfl, oX rfl, .inl rfl, True.intro⟩, rfl, rfl, rfl⟩ ?_
    rintro ⟨t, ht⟩ K2 hK2
    dsimp only at ht ⊢
    refine forkD (fun h2 => ?_) (fun h2 => ?_)
    · have g2 : t < sec := by have : (t : Int) < (sec : Int) := h2; omega
      have cl := alike_6 ⟨o, sec, [d0, d1, d2, d3, d4, d5], [m0, m1, m2, m3, m4, m5]⟩ hw (by omega) (j : Nat) (t : Nat)
      refine callB_6 (E := []) cl rfl rfl ?_
      exact hK2 ⟨t + 1, g2⟩ [0, 1, 2, 3, 4, 5, 6, 7, 8, 9, 10, 11, 12, 13, 14, 15, 16] _ (show sec - t = sec - (t + 1) + 1 by omega) ⟨⟨rfl, rfl, rfl, rfl, rfl, congrArg i64 (wincQ (by omega)), True.intro⟩, ⟨.inl rfl, .inl rfl, .inl rfl, oS rfl, oS rfl, oS rfl, oS rfl, oS rfl, oS rfl, oM rfl, oM rfl, oM rfl, oM rfl, oM rfl, oM rfl, oX rfl, .inl rfl, True.intro⟩, rfl, rfl, rfl⟩
    · exact hK ⟨j + 1, g⟩ [0, 1, 2, 3, 4, 5, 6, 7, 8, 9, 10, 11, 12, 13, 14, 15, 16] _ (show 6 - j = 6 - (j + 1) + 1 by omega) ⟨⟨rfl, rfl, rfl, rfl, congrArg i64 (wincQ (by omega)), True.intro⟩, ⟨.inl rfl, .inl rfl, .inl rfl, oS rfl, oS rfl, oS rfl, oS rfl, oS rfl, oS rfl, oM rfl, oM rfl, oM rfl, oM rfl, oM rfl, oM rfl, oX rfl, .inl rfl, True.intro⟩, rfl, rfl, rfl⟩
  · refine callW (cs := [bo o, i64 (sec : Nat), .slc 1 0 6 1, .slc 2 0 6 1]) (rest := []) (exts_ok o (sec : Nat) 6) rfl rfl rfl ?_
    refine callW (cs := [bo o, i64 (sec : Nat), .slc 1 0 6 1, .slc 2 0 6 1]) (rest := []) (secs_ok o (sec : Nat) 6) rfl rfl rfl ?_
    refine fork (fun _ => ?_) (fun h => ?_)
    rotate_left
    · exact absurd (beq_iff_eq.2 rfl) (by rw [h]; decide)
    exact end0 rfl rfl rfl rfl
set_option maxHeartbeats 4000000 in
theorem callM_7 {P : Program} {g : FuncId} {bs args : List AV} {o o' : Bool} {sec n' sec' N : Nat} {d0 d1 d2 d3 d4 d5 d6 : List ByteArray} {m0 m1 m2 m3 m4 m5 m6 : Mp} {S : List Sx} {K : AV → Heap → Prop} {Kp : Value → Heap → Prop} (h : ACalls P g bs [] (RetH (.tup [.ptr 1 0, i64 0]) (rH o' n' sec' N S)))
    (ha : args = renL (rn [] (Wd.mk o sec [d0, d1, d2, d3, d4, d5, d6] [m0, m1, m2, m3, m4, m5, m6]).H.length) bs) (k : K (.tup [.ptr 18 0, i64 0]) ((Wd.mk o sec [d0, d1, d2, d3, d4, d5, d6] [m0, m1, m2, m3, m4, m5, m6]).H ++ rE 17 o' n' sec' N S)) : ACalls P g args (Wd.mk o sec [d0, d1, d2, d3, d4, d5, d6] [m0, m1, m2, m3, m4, m5, m6]).H (panK K Kp) :=
  callH h [] ha True.intro rfl rfl (by unfold merge rH; simp only [renH, renO_sx]; rfl) k
set_option maxHeartbeats 4000000 in
theorem callB_7 {P : Program} {g : FuncId} {bs args : List AV} {v : AV} {o o' : Bool} {sec : Nat} {d0 d1 d2 d3 d4 d5 d6 x0 x1 x2 x3 x4 x5 x6 : List ByteArray} {m0 m1 m2 m3 m4 m5 m6 y0 y1 y2 y3 y4 y5 y6 : Mp} {E : Heap} {K : AV → Heap → Prop} {Kp : Value → Heap → Prop}
    (h : ACalls P g bs ((Wd.mk o sec [d0, d1, d2, d3, d4, d5, d6] [m0, m1, m2, m3, m4, m5, m6]).H ++ rEw 17 ⟨o, sec, [d0, d1, d2, d3, d4, d5, d6], [m0, m1, m2, m3, m4, m5, m6]⟩ 7 sec) (RetH v ((Wd.mk o' sec [x0, x1, x2, x3, x4, x5, x6] [y0, y1, y2, y3, y4, y5, y6]).H ++ rEw 17 ⟨o', sec, [x0, x1, x2, x3, x4, x5, x6], [y0, y1, y2, y3, y4, y5, y6]⟩ 7 sec)))
    (ha : args = renL (rn [0, 1, 2, 3, 4, 5, 6, 7, 8, 9, 10, 11, 12, 13, 14, 15, 16, 17, 18] ((Wd.mk o sec [d0, d1, d2, d3, d4, d5, d6] [m0, m1, m2, m3, m4, m5, m6]).H ++ (refO 17 ⟨o, sec, [d0, d1, d2, d3, d4, d5, d6], [m0, m1, m2, m3, m4, m5, m6]⟩ 7 sec ++ E)).length) bs) (hv : ren (rn [0, 1, 2, 3, 4, 5, 6, 7, 8, 9, 10, 11, 12, 13, 14, 15, 16, 17, 18] ((Wd.mk o sec [d0, d1, d2, d3, d4, d5, d6] [m0, m1, m2, m3, m4, m5, m6]).H ++ (refO 17 ⟨o, sec, [d0, d1, d2, d3, d4, d5, d6], [m0, m1, m2, m3, m4, m5, m6]⟩ 7 sec ++ E)).length) v = v)
    (k : K v ((Wd.mk o' sec [x0, x1, x2, x3, x4, x5, x6] [y0, y1, y2, y3, y4, y5, y6]).H ++ (refO 17 ⟨o', sec, [x0, x1, x2, x3, x4, x5, x6], [y0, y1, y2, y3, y4, y5, y6]⟩ 7 sec ++ E))) :
    ACalls P g args ((Wd.mk o sec [d0, d1, d2, d3, d4, d5, d6] [m0, m1, m2, m3, m4, m5, m6]).H ++ (refO 17 ⟨o, sec, [d0, d1, d2, d3, d4, d5, d6], [m0, m1, m2, m3, m4, m5, m6]⟩ 7 sec ++ E)) (panK K Kp) :=
  callH h [0, 1, 2, 3, 4, 5, 6, 7, 8, 9, 10, 11, 12, 13, 14, 15, 16, 17, 18] ha ⟨.inl rfl, .inl rfl, .inl rfl, oS rfl, oS rfl, oS rfl, oS rfl, oS rfl, oS rfl, oS rfl, oM rfl, oM rfl, oM rfl, oM rfl, oM rfl, oM rfl, oM rfl, oX rfl, .inl rfl, True.intro⟩ rfl hv (by unfold rEw rE Wd.H merge; simp only [List.map_cons, List.map_nil, List.cons_append, List.nil_append, renH, renO_str, renO_mp, renO_sx]; exact Eq.trans (List.append_nil _) rfl) k
set_option maxHeartbeats 4000000 in
theorem plays_7 (sec : Nat) (hs1 : 1 ≤ sec) (hs2 : sec ≤ 20) (L : List Xa) : ACalls Try.prog 5 [i64 (7 : Nat), i64 (sec : Nat), .view L.length (flat xaC L)] [] (Ret (bo true)) := by
  refine acalls_of_awpC [16] hT mixed Try.func5 rfl (by kernel_rfl) (by kernel_rfl) (Nat.le_of_ble_eq_true rfl) ?_
  refine callP awakeX_ok rfl rfl ?_
  refine forkD (fun h => ?_) (fun _ => ?_)
  · exact absurd h (by omega)
  refine callN_7 (newE_ok 7 sec (by omega) (by omega) hs1 (by omega)) (new_is (by omega) (by omega)) rfl rfl (fun o x0 x1 x2 x3 x4 x5 x6 y0 y1 y2 y3 y4 y5 y6 e => ?_)
  have i0 : (⟨o, sec, [x0, x1, x2, x3, x4, x5, x6], [y0, y1, y2, y3, y4, y5, y6]⟩ : Wd).is 7 sec := e ▸ new_is (by omega) (by omega)
  have cm := refNewW (n := 7) (sec := sec) (by omega) (by omega) hs1 (by omega)
  unfold refH at cm
  rw [e] at cm
  refine callM_7 cm rfl ?_
  clear e cm
  refine cutI (α := { w : Wd // w.is 7 sec }) (fun z => [(0, i64 (7 : Nat)), (1, i64 (sec : Nat)), (7, .ptr 0 0), (9, .ptr 18 0)]) (fun z => z.val.H ++ refO 17 z.val 7 sec) [] (fun K1 hK1 => ?_) (fun z => ?_)
  · refine loopI (α := PlA 7 sec) (fun z => [(0, i64 (7 : Nat)), (1, i64 (sec : Nat)), (2, .view L.length (flat xaC L)), (7, .ptr 0 0), (9, .ptr 18 0), (11, i64 (z.i : Nat))]) (fun z => z.w.H ++ refO 17 z.w 7 sec) (fun z => 120 - z.i) (PlA.mk 0 ⟨o, sec, [x0, x1, x2, x3, x4, x5, x6], [y0, y1, y2, y3, y4, y5, y6]⟩ (Nat.zero_le _) i0) [0, 1, 2, 3, 4, 5, 6, 7, 8, 9, 10, 11, 12, 13, 14, 15, 16, 17, 18] ⟨⟨rfl, rfl, rfl, rfl, rfl, rfl, True.intro⟩, ⟨.inl rfl, .inl rfl, .inl rfl, oS rfl, oS rfl, oS rfl, oS rfl, oS rfl, oS rfl, oS rfl, oM rfl, oM rfl, oM rfl, oM rfl, oM rfl, oM rfl, oM rfl, oX rfl, .inl rfl, True.intro⟩, rfl, rfl, rfl⟩ ?_
    clear i0
    rintro ⟨i, w, hi, hw⟩ K hK
    dsimp only at hi ⊢
    obtain ⟨o, d0, d1, d2, d3, d4, d5, d6, m0, m1, m2, m3, m4, m5, m6, rfl⟩ := tell_7 hw
    have out := hK1 ⟨⟨o, sec, [d0, d1, d2, d3, d4, d5, d6], [m0, m1, m2, m3, m4, m5, m6]⟩, hw⟩ [] [0, 1, 2, 3, 4, 5, 6, 7, 8, 9, 10, 11, 12, 13, 14, 15, 16, 17, 18]
    dsimp only at out
    refine forkD (fun h => ?_) (fun h => ?_)
    · refine forkD (fun h2 => ?_) (fun h2 => ?_)
      · have g : i < L.length := by have : (i : Int) < (L.length : Int) := h; omega
        have g2 : i < 120 := by have : (i : Int) < 120 := h2; omega
        obtain ⟨⟨k, e, a, s, ps⟩, hx⟩ : ∃ x, L[i]? = some x := ⟨_, List.getElem?_eq_getElem g⟩
        refine Ob.intro (show (0 : Int) ≤ (i : Nat) ∧ ((i : Nat) : Int) < (L.length : Nat) by omega) ?_
        refine optK_intro (flat_takeN (f := xaC) (n := 5) (fun _ => rfl) hx) ?_
        refine forkD (fun _ => ?_) (fun _ => ?_)
        · exact hK (PlA.mk (i + 1) ⟨o, sec, [d0, d1, d2, d3, d4, d5, d6], [m0, m1, m2, m3, m4, m5, m6]⟩ (by omega) hw) [0, 1, 2, 3, 4, 5, 6, 7, 8, 9, 10, 11, 12, 13, 14, 15, 16, 17, 18] _ (show 120 - i = 120 - (i + 1) + 1 by omega) ⟨⟨rfl, rfl, rfl, rfl, rfl, congrArg i64 (wincQ (by omega)), True.intro⟩, ⟨.inl rfl, .inl rfl, .inl rfl, oS rfl, oS rfl, oS rfl, oS rfl, oS rfl, oS rfl, oS rfl, oM rfl, oM rfl, oM rfl, oM rfl, oM rfl, oM rfl, oM rfl, oX rfl, .inl rfl, True.intro⟩, rfl, rfl, rfl⟩
        refine forkD (fun _ => ?_) (fun hp => ?_)
        · exact hK (PlA.mk (i + 1) ⟨o, sec, [d0, d1, d2, d3, d4, d5, d6], [m0, m1, m2, m3, m4, m5, m6]⟩ (by omega) hw) [0, 1, 2, 3, 4, 5, 6, 7, 8, 9, 10, 11, 12, 13, 14, 15, 16, 17, 18] _ (show 120 - i = 120 - (i + 1) + 1 by omega) ⟨⟨rfl, rfl, rfl, rfl, rfl, congrArg i64 (wincQ (by omega)), True.intro⟩, ⟨.inl rfl, .inl rfl, .inl rfl, oS rfl, oS rfl, oS rfl, oS rfl, oS rfl, oS rfl, oS rfl, oM rfl, oM rfl, oM rfl, oM rfl, oM rfl, oM rfl, oM rfl, oX rfl, .inl rfl, True.intro⟩, rfl, rfl, rfl⟩
        have hps : ps.length ≤ 100 := by have : ¬ (ps.length : Int) > 100 := hp; omega
        have cd := does_7 ⟨o, sec, [d0, d1, d2, d3, d4, d5, d6], [m0, m1, m2, m3, m4, m5, m6]⟩ hw (by omega) ⟨k, e, a, s, ps⟩ hps
        have hi' := play_is hw ⟨k, e, a, s, ps⟩
        generalize Wd.play ⟨o, sec, [d0, d1, d2, d3, d4, d5, d6], [m0, m1, m2, m3, m4, m5, m6]⟩ ⟨k, e, a, s, ps⟩ = w' at cd hi'
        obtain ⟨o', x0, x1, x2, x3, x4, x5, x6, y0, y1, y2, y3, y4, y5, y6, rfl⟩ := tell_7 hi'
        have cl := alike_7 ⟨o', sec, [x0, x1, x2, x3, x4, x5, x6], [y0, y1, y2, y3, y4, y5, y6]⟩ hi' (by omega) e a
        have co := on_ok o' (sec : Nat) 7
        by_cases he : 0 ≤ e ∧ e < ((7 : Nat) : Int)
        · obtain ⟨cw, cm, ci⟩ := wet_in hi' (by omega) (by omega) he
          unfold refH at cm
          cases o' <;>
          · refine ⟨dlZh1a, dlZh1b, dlZh1c, dlZh1d, dlZh1e, Ob.intro (by kernel_rfl) ?_⟩
            repeat refine same ?_
            refine callB_7 (E := [.row (xaC ⟨k, e, a, s, ps⟩)]) cd rfl rfl ?_
            repeat refine same ?_
            refine callB_7 (E := [.row (xaC ⟨k, e, a, s, ps⟩)]) cl rfl rfl ?_
            repeat refine same ?_
            refine callW (cs := [bo _, i64 (sec : Nat), .slc 1 0 7 1, .slc 2 0 7 1]) (rest := []) co rfl rfl rfl ?_
            repeat refine same ?_
            refine callU_7 (E := refO 17 ⟨_, sec, [x0, x1, x2, x3, x4, x5, x6], [y0, y1, y2, y3, y4, y5, y6]⟩ 7 sec ++ [.row (xaC ⟨k, e, a, s, ps⟩)]) cw rfl rfl hi' rfl rfl ?_
            repeat refine same ?_
            refine callR_7 (E := [.row (xaC ⟨k, e, a, s, ps⟩)]) cm rfl rfl ?_
            repeat refine same ?_
            refine callP ci rfl rfl ?_
            repeat refine same ?_
            exact hK (PlA.mk (i + 1) ⟨_, sec, [x0, x1, x2, x3, x4, x5, x6], [y0, y1, y2, y3, y4, y5, y6]⟩ (by omega) hi') [0, 1, 2, 3, 4, 5, 6, 7, 8, 9, 10, 11, 12, 13, 14, 15, 16, 17, 18] _ (show 120 - i = 120 - (i + 1) + 1 by omega) ⟨⟨rfl, rfl, rfl, rfl, rfl, congrArg i64 (wincQ (by omega)), True.intro⟩, ⟨.inl rfl, .inl rfl, .inl rfl, oS rfl, oS rfl, oS rfl, oS rfl, oS rfl, oS rfl, oS rfl, oM rfl, oM rfl, oM rfl, oM rfl, oM rfl, oM rfl, oM rfl, oX rfl, .inl rfl, True.intro⟩, rfl, rfl, rfl⟩
        · obtain ⟨cw, cm, ci⟩ := wet_out hi' (by omega) (by omega) he
          unfold refH at cm
          cases o' <;>
          · refine ⟨dlZh1a, dlZh1b, dlZh1c, dlZh1d, dlZh1e, Ob.intro (by kernel_rfl) ?_⟩
            repeat refine same ?_
            refine callB_7 (E := [.row (xaC ⟨k, e, a, s, ps⟩)]) cd rfl rfl ?_
            repeat refine same ?_
            refine callB_7 (E := [.row (xaC ⟨k, e, a, s, ps⟩)]) cl rfl rfl ?_
            repeat refine same ?_
            refine callW (cs := [bo _, i64 (sec : Nat), .slc 1 0 7 1, .slc 2 0 7 1]) (rest := []) co rfl rfl rfl ?_
            repeat refine same ?_
            refine callU_7 (E := refO 17 ⟨_, sec, [x0, x1, x2, x3, x4, x5, x6], [y0, y1, y2, y3, y4, y5, y6]⟩ 7 sec ++ [.row (xaC ⟨k, e, a, s, ps⟩)]) cw rfl rfl hi' rfl rfl ?_
            repeat refine same ?_
            refine callR_7 (E := [.row (xaC ⟨k, e, a, s, ps⟩)]) cm rfl rfl ?_
            repeat refine same ?_
            refine callP ci rfl rfl ?_
            repeat refine same ?_
            exact hK (PlA.mk (i + 1) ⟨_, sec, [x0, x1, x2, x3, x4, x5, x6], [y0, y1, y2, y3, y4, y5, y6]⟩ (by omega) hi') [0, 1, 2, 3, 4, 5, 6, 7, 8, 9, 10, 11, 12, 13, 14, 15, 16, 17, 18] _ (show 120 - i = 120 - (i + 1) + 1 by omega) ⟨⟨rfl, rfl, rfl, rfl, rfl, congrArg i64 (wincQ (by omega)), True.intro⟩, ⟨.inl rfl, .inl rfl, .inl rfl, oS rfl, oS rfl, oS rfl, oS rfl, oS rfl, oS rfl, oS rfl, oM rfl, oM rfl, oM rfl, oM rfl, oM rfl, oM rfl, oM rfl, oX rfl, .inl rfl, True.intro⟩, rfl, rfl, rfl⟩
      · exact out _ ⟨⟨rfl, rfl, rfl, rfl, True.intro⟩, ⟨.inl rfl, .inl rfl, .inl rfl, oS rfl, oS rfl, oS rfl, oS rfl, oS rfl, oS rfl, oS rfl, oM rfl, oM rfl, oM rfl, oM rfl, oM rfl, oM rfl, oM rfl, oX rfl, .inl rfl, True.intro⟩, rfl, rfl, rfl⟩
    · exact out _ ⟨⟨rfl, rfl, rfl, rfl, True.intro⟩, ⟨.inl rfl, .inl rfl, .inl rfl, oS rfl, oS rfl, oS rfl, oS rfl, oS rfl, oS rfl, oS rfl, oM rfl, oM rfl, oM rfl, oM rfl, oM rfl, oM rfl, oM rfl, oX rfl, .inl rfl, True.intro⟩, rfl, rfl, rfl⟩
  obtain ⟨w, hw⟩ := z
  dsimp only
  obtain ⟨o, d0, d1, d2, d3, d4, d5, d6, m0, m1, m2, m3, m4, m5, m6, rfl⟩ := tell_7 hw
  refine loopI (α := { j : Nat // j ≤ 7 }) (fun z => [(0, i64 (7 : Nat)), (1, i64 (sec : Nat)), (7, .ptr 0 0), (9, .ptr 18 0), (13, i64 (z.val : Nat))]) (fun z => (Wd.mk o sec [d0, d1, d2, d3, d4, d5, d6] [m0, m1, m2, m3, m4, m5, m6]).H ++ refO 17 ⟨o, sec, [d0, d1, d2, d3, d4, d5, d6], [m0, m1, m2, m3, m4, m5, m6]⟩ 7 sec) (fun z => 7 - z.val) ⟨0, Nat.zero_le _⟩ [0, 1, 2, 3, 4, 5, 6, 7, 8, 9, 10, 11, 12, 13, 14, 15, 16, 17, 18] ⟨⟨rfl, rfl, rfl, rfl, rfl, True.intro⟩, ⟨.inl rfl, .inl rfl, .inl rfl, oS rfl, oS rfl, oS rfl, oS rfl, oS rfl, oS rfl, oS rfl, oM rfl, oM rfl, oM rfl, oM rfl, oM rfl, oM rfl, oM rfl, oX rfl, .inl rfl, True.intro⟩, rfl, rfl, rfl⟩ ?_
  rintro ⟨j, hj⟩ K hK
  dsimp only at hj ⊢
  refine forkD (fun h => ?_) (fun h => ?_)
  · have g : j < 7 := by have : (j : Int) < ((7 : Nat) : Int) := h; omega
    refine loopI (α := { t : Nat // t ≤ sec }) (fun z => [(0, i64 (7 : Nat)), (1, i64 (sec : Nat)), (7, .ptr 0 0), (9, .ptr 18 0), (13, i64 (j : Nat)), (14, i64 (z.val : Nat))]) (fun z => (Wd.mk o sec [d0, d1, d2, d3, d4, d5, d6] [m0, m1, m2, m3, m4, m5, m6]).H ++ refO 17 ⟨o, sec, [d0, d1, d2, d3, d4, d5, d6], [m0, m1, m2, m3, m4, m5, m6]⟩ 7 sec) (fun z => sec - z.val) ⟨0, Nat.zero_le _⟩ [0, 1, 2, 3, 4, 5, 6, 7, 8, 9, 10, 11, 12, 13, 14, 15, 16, 17, 18] ⟨⟨rfl, rfl, rfl, rfl, rfl, rfl, True.intro⟩, ⟨.inl rfl, .inl rfl, .inl rfl, oS rfl, oS rfl, oS rfl, oS rfl, oS rfl, oS rfl, oS rfl, oM rfl, oM rfl, oM rfl, oM rfl, oM rfl, oM rfl, oM rfl, oX rfl, .inl rfl, True.intro⟩, rfl, rfl, rfl⟩ ?_
    rintro ⟨t, ht⟩ K2 hK2
    dsimp only at ht ⊢
    refine forkD (fun h2 => ?_) (fun h2 => ?_)
    · have g2 : t < sec := by have : (t : Int) < (sec : Int) := h2; omega
      have cl := alike_7 ⟨o, sec, [d0, d1, d2, d3, d4, d5, d6], [m0, m1, m2, m3, m4, m5, m6]⟩ hw (by omega) (j : Nat) (t : Nat)
      refine callB_7 (E := []) cl rfl rfl ?_
      exact hK2 ⟨t + 1, g2⟩ [0, 1, 2, 3, 4, 5, 6, 7, 8, 9, 10, 11, 12, 13, 14, 15, 16, 17, 18] _ (show sec - t = sec - (t + 1) + 1 by omega) ⟨⟨rfl, rfl, rfl, rfl, rfl, congrArg i64 (wincQ (by omega)), True.intro⟩, ⟨.inl rfl, .inl rfl, .inl rfl, oS rfl, oS rfl, oS rfl, oS rfl, oS rfl, oS rfl, oS rfl, oM rfl, oM rfl, oM rfl, oM rfl, oM rfl, oM rfl, oM rfl, oX rfl, .inl rfl, True.intro⟩, rfl, rfl, rfl⟩
    · exact hK ⟨j + 1, g⟩ [0, 1, 2, 3, 4, 5, 6, 7, 8, 9, 10, 11, 12, 13, 14, 15, 16, 17, 18] _ (show 7 - j = 7 - (j + 1) + 1 by omega) ⟨⟨rfl, rfl, rfl, rfl, congrArg i64 (wincQ (by omega)), True.intro⟩, ⟨.inl rfl, .inl rfl, .inl rfl, oS rfl, oS rfl, oS rfl, oS rfl, oS rfl, oS rfl, oS rfl, oM rfl, oM rfl, oM rfl, oM rfl, oM rfl, oM rfl, oM rfl, oX rfl, .inl rfl, True.intro⟩, rfl, rfl, rfl⟩
  · refine callW (cs := [bo o, i64 (sec : Nat), .slc 1 0 7 1, .slc 2 0 7 1]) (rest := []) (exts_ok o (sec : Nat) 7) rfl rfl rfl ?_
    refine callW (cs := [bo o, i64 (sec : Nat), .slc 1 0 7 1, .slc 2 0 7 1]) (rest := []) (secs_ok o (sec : Nat) 7) rfl rfl rfl ?_
    refine fork (fun _ => ?_) (fun h => ?_)
    rotate_left
    · exact absurd (beq_iff_eq.2 rfl) (by rw [h]; decide)
    exact end0 rfl rfl rfl rfl
set_option maxHeartbeats 4000000 in
theorem callM_8 {P : Program} {g : FuncId} {bs args : List AV} {o o' : Bool} {sec n' sec' N : Nat} {d0 d1 d2 d3 d4 d5 d6 d7 : List ByteArray} {m0 m1 m2 m3 m4 m5 m6 m7 : Mp} {S : List Sx} {K : AV → Heap → Prop} {Kp : Value → Heap → Prop} (h : ACalls P g bs [] (RetH (.tup [.ptr 1 0, i64 0]) (rH o' n' sec' N S)))
    (ha : args = renL (rn [] (Wd.mk o sec [d0, d1, d2, d3, d4, d5, d6, d7] [m0, m1, m2, m3, m4, m5, m6, m7]).H.length) bs) (k : K (.tup [.ptr 20 0, i64 0]) ((Wd.mk o sec [d0, d1, d2, d3, d4, d5, d6, d7] [m0, m1, m2, m3, m4, m5, m6, m7]).H ++ rE 19 o' n' sec' N S)) : ACalls P g args (Wd.mk o sec [d0, d1, d2, d3, d4, d5, d6, d7] [m0, m1, m2, m3, m4, m5, m6, m7]).H (panK K Kp) :=
  callH h [] ha True.intro rfl rfl (by unfold merge rH; simp only [renH, renO_sx]; rfl) k
set_option maxHeartbeats 4000000 in
theorem callB_8 {P : Program} {g : FuncId} {bs args : List AV} {v : AV} {o o' : Bool} {sec : Nat} {d0 d1 d2 d3 d4 d5 d6 d7 x0 x1 x2 x3 x4 x5 x6 x7 : List ByteArray} {m0 m1 m2 m3 m4 m5 m6 m7 y0 y1 y2 y3 y4 y5 y6 y7 : Mp} {E : Heap} {K : AV → Heap → Prop} {Kp : Value → Heap → Prop}
    (h : ACalls P g bs ((Wd.mk o sec [d0, d1, d2, d3, d4, d5, d6, d7] [m0, m1, m2, m3, m4, m5, m6, m7]).H ++ rEw 19 ⟨o, sec, [d0, d1, d2, d3, d4, d5, d6, d7], [m0, m1, m2, m3, m4, m5, m6, m7]⟩ 8 sec) (RetH v ((Wd.mk o' sec [x0, x1, x2, x3, x4, x5, x6, x7] [y0, y1, y2, y3, y4, y5, y6, y7]).H ++ rEw 19 ⟨o', sec, [x0, x1, x2, x3, x4, x5, x6, x7], [y0, y1, y2, y3, y4, y5, y6, y7]⟩ 8 sec)))
    (ha : args = renL (rn [0, 1, 2, 3, 4, 5, 6, 7, 8, 9, 10, 11, 12, 13, 14, 15, 16, 17, 18, 19, 20] ((Wd.mk o sec [d0, d1, d2, d3, d4, d5, d6, d7] [m0, m1, m2, m3, m4, m5, m6, m7]).H ++ (refO 19 ⟨o, sec, [d0, d1, d2, d3, d4, d5, d6, d7], [m0, m1, m2, m3, m4, m5, m6, m7]⟩ 8 sec ++ E)).length) bs) (hv : ren (rn [0, 1, 2, 3, 4, 5, 6, 7, 8, 9, 10, 11, 12, 13, 14, 15, 16, 17, 18, 19, 20] ((Wd.mk o sec [d0, d1, d2, d3, d4, d5, d6, d7] [m0, m1, m2, m3, m4, m5, m6, m7]).H ++ (refO 19 ⟨o, sec, [d0, d1, d2, d3, d4, d5, d6, d7], [m0, m1, m2, m3, m4, m5, m6, m7]⟩ 8 sec ++ E)).length) v = v)
    (k : K v ((Wd.mk o' sec [x0, x1, x2, x3, x4, x5, x6, x7] [y0, y1, y2, y3, y4, y5, y6, y7]).H ++ (refO 19 ⟨o', sec, [x0, x1, x2, x3, x4, x5, x6, x7], [y0, y1, y2, y3, y4, y5, y6, y7]⟩ 8 sec ++ E))) :
    ACalls P g args ((Wd.mk o sec [d0, d1, d2, d3, d4, d5, d6, d7] [m0, m1, m2, m3, m4, m5, m6, m7]).H ++ (refO 19 ⟨o, sec, [d0, d1, d2, d3, d4, d5, d6, d7], [m0, m1, m2, m3, m4, m5, m6, m7]⟩ 8 sec ++ E)) (panK K Kp) :=
  callH h [0, 1, 2, 3, 4, 5, 6, 7, 8, 9, 10, 11, 12, 13, 14, 15, 16, 17, 18, 19, 20] ha ⟨.inl rfl, .inl rfl, .inl rfl, oS rfl, oS rfl, oS rfl, oS rfl, oS rfl, oS rfl, oS rfl, oS rfl, oM rfl, oM rfl, oM rfl, oM rfl, oM rfl, oM rfl, oM rfl, oM rfl, oX rfl, .inl rfl, True.intro⟩ rfl hv (by unfold rEw rE Wd.H merge; simp only [List.map_cons, List.map_nil, List.cons_append, List.nil_append, renH, renO_str, renO_mp, renO_sx]; exact Eq.trans (List.append_nil _) rfl) k
set_option maxHeartbeats 4000000 in
theorem plays_8 (sec : Nat) (hs1 : 1 ≤ sec) (hs2 : sec ≤ 20) (L : List Xa) : ACalls Try.prog 5 [i64 (8 : Nat), i64 (sec : Nat), .view L.length (flat xaC L)] [] (Ret (bo true)) := by
  refine acalls_of_awpC [16] hT mixed Try.func5 rfl (by kernel_rfl) (by kernel_rfl) (Nat.le_of_ble_eq_true rfl) ?_
  refine callP awakeX_ok rfl rfl ?_
  refine forkD (fun h => ?_) (fun _ => ?_)
  · exact absurd h (by omega)
  refine callN_8 (newE_ok 8 sec (by omega) (by omega) hs1 (by omega)) (new_is (by omega) (by omega)) rfl rfl (fun o x0 x1 x2 x3 x4 x5 x6 x7 y0 y1 y2 y3 y4 y5 y6 y7 e => ?_)
  have i0 : (⟨o, sec, [x0, x1, x2, x3, x4, x5, x6, x7], [y0, y1, y2, y3, y4, y5, y6, y7]⟩ : Wd).is 8 sec := e ▸ new_is (by omega) (by omega)
  have cm := refNewW (n := 8) (sec := sec) (by omega) (by omega) hs1 (by omega)
  unfold refH at cm
  rw [e] at cm
  refine callM_8 cm rfl ?_
  clear e cm
  refine cutI (α := { w : Wd // w.is 8 sec }) (fun z => [(0, i64 (8 : Nat)), (1, i64 (sec : Nat)), (7, .ptr 0 0), (9, .ptr 20 0)]) (fun z => z.val.H ++ refO 19 z.val 8 sec) [] (fun K1 hK1 => ?_) (fun z => ?_)
  · refine loopI (α := PlA 8 sec) (fun z => [(0, i64 (8 : Nat)), (1, i64 (sec : Nat)), (2, .view L.length (flat xaC L)), (7, .ptr 0 0), (9, .ptr 20 0), (11, i64 (z.i : Nat))]) (fun z => z.w.H ++ refO 19 z.w 8 sec) (fun z => 120 - z.i) (PlA.mk 0 ⟨o, sec, [x0, x1, x2, x3, x4, x5, x6, x7], [y0, y1, y2, y3, y4, y5, y6, y7]⟩ (Nat.zero_le _) i0) [0, 1, 2, 3, 4, 5, 6, 7, 8, 9, 10, 11, 12, 13, 14, 15, 16, 17, 18, 19, 20] ⟨⟨rfl, rfl, rfl, rfl, rfl, rfl, True.intro⟩, ⟨.inl rfl, .inl rfl, .inl rfl, oS rfl, oS rfl, oS rfl, oS rfl, oS rfl, oS rfl, oS rfl, oS rfl, oM rfl, oM rfl, oM rfl, oM rfl, oM rfl, oM rfl, oM rfl, oM rfl, oX rfl, .inl rfl, True.intro⟩, rfl, rfl, rfl⟩ ?_
    clear i0
    rintro ⟨i, w, hi, hw⟩ K hK
    dsimp only at hi ⊢
    obtain ⟨o, d0, d1, d2, d3, d4, d5, d6, d7, m0, m1, m2, m3, m4, m5, m6, m7, rfl⟩ := tell_8 hw
    have out := hK1 ⟨⟨o, sec, [d0, d1, d2, d3, d4, d5, d6, d7], [m0, m1, m2, m3, m4, m5, m6, m7]⟩, hw⟩ [] [0, 1, 2, 3, 4, 5, 6, 7, 8, 9, 10, 11, 12, 13, 14, 15, 16, 17, 18, 19, 20]
    dsimp only at out
    refine forkD (fun h => ?_) (fun h => ?_)
    · refine forkD (fun h2 => ?_) (fun h2 => ?_)
      · have g : i < L.length := by have : (i : Int) < (L.length : Int) := h; omega
        have g2 : i < 120 := by have : (i : Int) < 120 := h2; omega
        obtain ⟨⟨k, e, a, s, ps⟩, hx⟩ : ∃ x, L[i]? = some x := ⟨_, List.getElem?_eq_getElem g⟩
        refine Ob.intro (show (0 : Int) ≤ (i : Nat) ∧ ((i : Nat) : Int) < (L.length : Nat) by omega) ?_
        refine optK_intro (flat_takeN (f := xaC) (n := 5) (fun _ => rfl) hx) ?_
        refine forkD (fun _ => ?_) (fun _ => ?_)
        · exact hK (PlA.mk (i + 1) ⟨o, sec, [d0, d1, d2, d3, d4, d5, d6, d7], [m0, m1, m2, m3, m4, m5, m6, m7]⟩ (by omega) hw) [0, 1, 2, 3, 4, 5, 6, 7, 8, 9, 10, 11, 12, 13, 14, 15, 16, 17, 18, 19, 20] _ (show 120 - i = 120 - (i + 1) + 1 by omega) ⟨⟨rfl, rfl, rfl, rfl, rfl, congrArg i64 (wincQ (by omega)), True.intro⟩, ⟨.inl rfl, .inl rfl, .inl rfl, oS rfl, oS rfl, oS rfl, oS rfl, oS rfl, oS rfl, oS rfl, oS rfl, oM rfl, oM rfl, oM rfl, oM rfl, oM rfl, oM rfl, oM rfl, oM rfl, oX rfl, .inl rfl, True.intro⟩, rfl, rfl, rfl⟩
        refine forkD (fun _ => ?_) (fun hp => ?_)
        · exact hK (PlA.mk (i + 1) ⟨o, sec, [d0, d1, d2, d3, d4, d5, d6, d7], [m0, m1, m2, m3, m4, m5, m6, m7]⟩ (by omega) hw) [0, 1, 2, 3, 4, 5, 6, 7, 8, 9, 10, 11, 12, 13, 14, 15, 16, 17, 18, 19, 20] _ (show 120 - i = 120 - (i + 1) + 1 by omega) ⟨⟨rfl, rfl, rfl, rfl, rfl, congrArg i64 (wincQ (by omega)), True.intro⟩, ⟨.inl rfl, .inl rfl, .inl rfl, oS rfl, oS rfl, oS rfl, oS rfl, oS rfl, oS rfl, oS rfl, oS rfl, oM rfl, oM rfl, oM rfl, oM rfl, oM rfl, oM rfl, oM rfl, oM rfl, oX rfl, .inl rfl, True.intro⟩, rfl, rfl, rfl⟩
        have hps : ps.length ≤ 100 := by have : ¬ (ps.length : Int) > 100 := hp; omega
        have cd := does_8 ⟨o, sec, [d0, d1, d2, d3, d4, d5, d6, d7], [m0, m1, m2, m3, m4, m5, m6, m7]⟩ hw (by omega) ⟨k, e, a, s, ps⟩ hps
        have hi' := play_is hw ⟨k, e, a, s, ps⟩
        generalize Wd.play ⟨o, sec, [d0, d1, d2, d3, d4, d5, d6, d7], [m0, m1, m2, m3, m4, m5, m6, m7]⟩ ⟨k, e, a, s, ps⟩ = w' at cd hi'
        obtain ⟨o', x0, x1, x2, x3, x4, x5, x6, x7, y0, y1, y2, y3, y4, y5, y6, y7, rfl⟩ := tell_8 hi'
        have cl := alike_8 ⟨o', sec, [x0, x1, x2, x3, x4, x5, x6, x7], [y0, y1, y2, y3, y4, y5, y6, y7]⟩ hi' (by omega) e a
        have co := on_ok o' (sec : Nat) 8
        by_cases he : 0 ≤ e ∧ e < ((8 : Nat) : Int)
        · obtain ⟨cw, cm, ci⟩ := wet_in hi' (by omega) (by omega) he
          unfold refH at cm
          cases o' <;>
          · refine ⟨dlZh1a, dlZh1b, dlZh1c, dlZh1d, dlZh1e, Ob.intro (by kernel_rfl) ?_⟩
            repeat refine same ?_
            refine callB_8 (E := [.row (xaC ⟨k, e, a, s, ps⟩)]) cd rfl rfl ?_
            repeat refine same ?_
            refine callB_8 (E := [.row (xaC ⟨k, e, a, s, ps⟩)]) cl rfl rfl ?_
            repeat refine same ?_
            refine callW (cs := [bo _, i64 (sec : Nat), .slc 1 0 8 1, .slc 2 0 8 1]) (rest := []) co rfl rfl rfl ?_
            repeat refine same ?_
            refine callU_8 (E := refO 19 ⟨_, sec, [x0, x1, x2, x3, x4, x5, x6, x7], [y0, y1, y2, y3, y4, y5, y6, y7]⟩ 8 sec ++ [.row (xaC ⟨k, e, a, s, ps⟩)]) cw rfl rfl hi' rfl rfl ?_
            repeat refine same ?_
            refine callR_8 (E := [.row (xaC ⟨k, e, a, s, ps⟩)]) cm rfl rfl ?_
            repeat refine same ?_
            refine callP ci rfl rfl ?_
            repeat refine same ?_
            exact hK (PlA.mk (i + 1) ⟨_, sec, [x0, x1, x2, x3, x4, x5, x6, x7], [y0, y1, y2, y3, y4, y5, y6, y7]⟩ (by omega) hi') [0, 1, 2, 3, 4, 5, 6, 7, 8, 9, 10, 11, 12, 13, 14, 15, 16, 17, 18, 19, 20] _ (show 120 - i = 120 - (i + 1) + 1 by omega) ⟨⟨rfl, rfl, rfl, rfl, rfl, congrArg i64 (wincQ (by omega)), True.intro⟩, ⟨.inl rfl, .inl rfl, .inl rfl, oS rfl, oS rfl, oS rfl, oS rfl, oS rfl, oS rfl, oS rfl, oS rfl, oM rfl, oM rfl, oM rfl, oM rfl, oM rfl, oM rfl, oM rfl, oM rfl, oX rfl, .inl rfl, True.intro⟩, rfl, rfl, rfl⟩
        · obtain ⟨cw, cm, ci⟩ := wet_out hi' (by omega) (by omega) he
          unfold refH at cm
          cases o' <;>
          · refine ⟨dlZh1a, dlZh1b, dlZh1c, dlZh1d, dlZh1e, Ob.intro (by kernel_rfl) ?_⟩
            repeat refine same ?_
            refine callB_8 (E := [.row (xaC ⟨k, e, a, s, ps⟩)]) cd rfl rfl ?_
            repeat refine same ?_
            refine callB_8 (E := [.row (xaC ⟨k, e, a, s, ps⟩)]) cl rfl rfl ?_
            repeat refine same ?_
            refine callW (cs := [bo _, i64 (sec : Nat), .slc 1 0 8 1, .slc 2 0 8 1]) (rest := []) co rfl rfl rfl ?_
            repeat refine same ?_
            refine callU_8 (E := refO 19 ⟨_, sec, [x0, x1, x2, x3, x4, x5, x6, x7], [y0, y1, y2, y3, y4, y5, y6, y7]⟩ 8 sec ++ [.row (xaC ⟨k, e, a, s, ps⟩)]) cw rfl rfl hi' rfl rfl ?_
            repeat refine same ?_
            refine callR_8 (E := [.row (xaC ⟨k, e, a, s, ps⟩)]) cm rfl rfl ?_
            repeat refine same ?_
            refine callP ci rfl rfl ?_
            repeat refine same ?_
            exact hK (PlA.mk (i + 1) ⟨_, sec, [x0, x1, x2, x3, x4, x5, x6, x7], [y0, y1, y2, y3, y4, y5, y6, y7]⟩ (by omega) hi') [0, 1, 2, 3, 4, 5, 6, 7, 8, 9, 10, 11, 12, 13, 14, 15, 16, 17, 18, 19, 20] _ (show 120 - i = 120 - (i + 1) + 1 by omega) ⟨⟨rfl, rfl, rfl, rfl, rfl, congrArg i64 (wincQ (by omega)), True.intro⟩, ⟨.inl rfl, .inl rfl, .inl rfl, oS rfl, oS rfl, oS rfl, oS rfl, oS rfl, oS rfl, oS rfl, oS rfl, oM rfl, oM rfl, oM rfl, oM rfl, oM rfl, oM rfl, oM rfl, oM rfl, oX rfl, .inl rfl, True.intro⟩, rfl, rfl, rfl⟩
      · exact out _ ⟨⟨rfl, rfl, rfl, rfl, True.intro⟩, ⟨.inl rfl, .inl rfl, .inl rfl, oS rfl, oS rfl, oS rfl, oS rfl, oS rfl, oS rfl, oS rfl, oS rfl, oM rfl, oM rfl, oM rfl, oM rfl, oM rfl, oM rfl, oM rfl, oM rfl, oX rfl, .inl rfl, True.intro⟩, rfl, rfl, rfl⟩
    · exact out _ ⟨⟨rfl, rfl, rfl, rfl, True.intro⟩, ⟨.inl rfl, .inl rfl, .inl rfl, oS rfl, oS rfl, oS rfl, oS rfl, oS rfl, oS rfl, oS rfl, oS rfl, oM rfl, oM rfl, oM rfl, oM rfl, oM rfl, oM rfl, oM rfl, oM rfl, oX rfl, .inl rfl, True.intro⟩, rfl, rfl, rfl⟩
  obtain ⟨w, hw⟩ := z
  dsimp only
  obtain ⟨o, d0, d1, d2, d3, d4, d5, d6, d7, m0, m1, m2, m3, m4, m5, m6, m7, rfl⟩ := tell_8 hw
  refine loopI (α := { j : Nat // j ≤ 8 }) (fun z => [(0, i64 (8 : Nat)), (1, i64 (sec : Nat)), (7, .ptr 0 0), (9, .ptr 20 0), (13, i64 (z.val : Nat))]) (fun z => (Wd.mk o sec [d0, d1, d2, d3, d4, d5, d6, d7] [m0, m1, m2, m3, m4, m5, m6, m7]).H ++ refO 19 ⟨o, sec, [d0, d1, d2, d3, d4, d5, d6, d7], [m0, m1, m2, m3, m4, m5, m6, m7]⟩ 8 sec) (fun z => 8 - z.val) ⟨0, Nat.zero_le _⟩ [0, 1, 2, 3, 4, 5, 6, 7, 8, 9, 10, 11, 12, 13, 14, 15, 16, 17, 18, 19, 20] ⟨⟨rfl, rfl, rfl, rfl, rfl, True.intro⟩, ⟨.inl rfl, .inl rfl, .inl rfl, oS rfl, oS rfl, oS rfl, oS rfl, oS rfl, oS rfl, oS rfl, oS rfl, oM rfl, oM rfl, oM rfl, oM rfl, oM rfl, oM rfl, oM rfl, oM rfl, oX rfl, .inl rfl, True.intro⟩, rfl, rfl, rfl⟩ ?_
  rintro ⟨j, hj⟩ K hK
  dsimp only at hj ⊢
  refine forkD (fun h => ?_) (fun h => ?_)
  · have g : j < 8 := by have : (j : Int) < ((8 : Nat) : Int) := h; omega
    refine loopI (α := { t : Nat // t ≤ sec }) (fun z => [(0, i64 (8 : Nat)), (1, i64 (sec : Nat)), (7, .ptr 0 0), (9, .ptr 20 0), (13, i64 (j : Nat)), (14, i64 (z.val : Nat))]) (fun z => (Wd.mk o sec [d0, d1, d2, d3, d4, d5, d6, d7] [m0, m1, m2, m3, m4, m5, m6, m7]).H ++ refO 19 ⟨o, sec, [d0, d1, d2, d3, d4, d5, d6, d7], [m0, m1, m2, m3, m4, m5, m6, m7]⟩ 8 sec) (fun z => sec - z.val) ⟨0, Nat.zero_le _⟩ [0, 1, 2, 3, 4, 5, 6, 7, 8, 9, 10, 11, 12, 13, 14, 15, 16, 17, 18, 19, 20] ⟨⟨rfl, rfl, rfl, rfl, rfl, rfl, True.intro⟩, ⟨.inl rfl, .inl rfl, .inl rfl, oS rfl, oS rfl, oS rfl, oS rfl, oS rfl, oS rfl, oS rfl, oS rfl, oM rfl, oM rfl, oM rfl, oM rfl, oM rfl, oM rfl, oM rfl, oM rfl, oX rfl, .inl rfl, True.intro⟩, rfl, rfl, rfl⟩ ?_
    rintro ⟨t, ht⟩ K2 hK2
    dsimp only at ht ⊢
    refine forkD (fun h2 => ?_) (fun h2 => ?_)
    · have g2 : t < sec := by have : (t : Int) < (sec : Int) := h2; omega
      have cl := alike_8 ⟨o, sec, [d0, d1, d2, d3, d4, d5, d6, d7], [m0, m1, m2, m3, m4, m5, m6, m7]⟩ hw (by omega) (j : Nat) (t : Nat)
      refine callB_8 (E := []) cl rfl rfl ?_
      exact hK2 ⟨t + 1, g2⟩ [0, 1, 2, 3, 4, 5, 6, 7, 8, 9, 10, 11, 12, 13, 14, 15, 16, 17, 18, 19, 20] _ (show sec - t = sec - (t + 1) + 1 by omega) ⟨⟨rfl, rfl, rfl, rfl, rfl, congrArg i64 (wincQ (by omega)), True.intro⟩, ⟨.inl rfl, .inl rfl, .inl rfl, oS rfl, oS rfl, oS rfl, oS rfl, oS rfl, oS rfl, oS rfl, oS rfl, oM rfl, oM rfl, oM rfl, oM rfl, oM rfl, oM rfl, oM rfl, oM rfl, oX rfl, .inl rfl, True.intro⟩, rfl, rfl, rfl⟩
    · exact hK ⟨j + 1, g⟩ [0, 1, 2, 3, 4, 5, 6, 7, 8, 9, 10, 11, 12, 13, 14, 15, 16, 17, 18, 19, 20] _ (show 8 - j = 8 - (j + 1) + 1 by omega) ⟨⟨rfl, rfl, rfl, rfl, congrArg i64 (wincQ (by omega)), True.intro⟩, ⟨.inl rfl, .inl rfl, .inl rfl, oS rfl, oS rfl, oS rfl, oS rfl, oS rfl, oS rfl, oS rfl, oS rfl, oM rfl, oM rfl, oM rfl, oM rfl, oM rfl, oM rfl, oM rfl, oM rfl, oX rfl, .inl rfl, True.intro⟩, rfl, rfl, rfl⟩
  · refine callW (cs := [bo o, i64 (sec : Nat), .slc 1 0 8 1, .slc 2 0 8 1]) (rest := []) (exts_ok o (sec : Nat) 8) rfl rfl rfl ?_
    refine callW (cs := [bo o, i64 (sec : Nat), .slc 1 0 8 1, .slc 2 0 8 1]) (rest := []) (secs_ok o (sec : Nat) 8) rfl rfl rfl ?_
    refine fork (fun _ => ?_) (fun h => ?_)
    rotate_left
    · exact absurd (beq_iff_eq.2 rfl) (by rw [h]; decide)
    exact end0 rfl rfl rfl rfl
end Go.Proofs.Ytpkbdlocmjgmbaa.A
