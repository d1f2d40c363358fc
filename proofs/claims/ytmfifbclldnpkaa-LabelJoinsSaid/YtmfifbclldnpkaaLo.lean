/- label: the law LabelJoins. No condition. -/
import Derived.Test.YtmfifbclldnpkaaLn
namespace Go.Proofs.Ytmfifbclldnpkaa.A
open Go
set_option linter.unusedVariables false
set_option maxRecDepth 100000
set_option pp.maxSteps 1500

theorem joins_no (a b : List Nat) (p q u : Bool) (x : Int) (hno : ¬ (p = true ∧ q = true)) (j m ls : List Nat) (e : Int) (hj : j = []) (he : e = 1) (hm : m = []) (hls : ls = []) (cf : ACalls Try.prog 9 [us a, us b] [] (Ret (bo false))) (cj : ACalls Try.prog 22 [us a, us b] [] (Ret (.tup [us j, i64 e]))) (cm : ACalls Try.prog 23 [us a, us b] [] (Ret (us m))) (cl : ACalls Try.prog 25 [us a, us b] [] (Ret (us ls))) (ci : ACalls Try.prog 24 [us a, us b] [] (Ret (bo u))) (cri : ACalls Try.prog 26 [us a, us b] [] (Ret (bo u))) (cc : ACalls Try.prog 21 [us a, us b] [] (Ret (i64 x))) (crc : ACalls Try.prog 27 [us a, us b] [] (Ret (i64 x))) (ra : ACalls Try.prog 13 [us a] [] (Ret (bo p))) (rb : ACalls Try.prog 13 [us b] [] (Ret (bo q))) : ACalls Try.prog 7 [us a, us b] [] (Ret (bo true)) := by
  subst hj hm hls he
  cases u <;> cases p with
  | false =>
    refine acalls_of_awp hT mixed Try.func7 rfl (by kernel_rfl) (by kernel_rfl) (Nat.le_of_ble_eq_true rfl) ?_
    refine callP awakeL_ok rfl rfl ?_
    refine callP cf rfl rfl ?_
    refine callP cj rfl rfl ?_
    refine callP cm rfl rfl ?_
    refine callP cl rfl rfl ?_
    refine callP ci rfl rfl ?_
    refine callP cri rfl rfl ?_
    refine callP cc rfl rfl ?_
    refine callP crc rfl rfl ?_
    refine fork (fun g => absurd rfl (bne_iff_ne.1 g)) (fun g => ?_)
    refine callP ra rfl rfl ?_
    refine end0 rfl rfl rfl rfl
  | true =>
    cases q with
    | false =>
      refine acalls_of_awp hT mixed Try.func7 rfl (by kernel_rfl) (by kernel_rfl) (Nat.le_of_ble_eq_true rfl) ?_
      refine callP awakeL_ok rfl rfl ?_
      refine callP cf rfl rfl ?_
      refine callP cj rfl rfl ?_
      refine callP cm rfl rfl ?_
      refine callP cl rfl rfl ?_
      refine callP ci rfl rfl ?_
      refine callP cri rfl rfl ?_
      refine callP cc rfl rfl ?_
      refine callP crc rfl rfl ?_
      refine fork (fun g => absurd rfl (bne_iff_ne.1 g)) (fun g => ?_)
      refine callP ra rfl rfl ?_
      refine callP rb rfl rfl ?_
      refine end0 rfl rfl rfl rfl
    | true => exact absurd ⟨rfl, rfl⟩ hno
structure JoSt (a b : List Nat) where
  k : Nat
  X : List Nat
  Y : List Nat
  hk : k ≤ a.length
  hX : X = keepL b true (a.take k)
  hY : Y = keepL b false (a.take k)
theorem joins_walk (a b j m ls w : List Nat) (u s : Bool) (e x : Int) (la : a.length ≤ 6) (lb : b.length ≤ 6) (hm : m = keepL b true a) (hls : ls = keepL b false a) (hw : (6 < w.length ∧ j = [] ∧ e = 5) ∨ (w.length ≤ 6 ∧ j = w ∧ e = 0)) (cf : ACalls Try.prog 9 [us a, us b] [] (Ret (bo false))) (cj : ACalls Try.prog 22 [us a, us b] [] (Ret (.tup [us j, i64 e]))) (cm : ACalls Try.prog 23 [us a, us b] [] (Ret (us m))) (cl : ACalls Try.prog 25 [us a, us b] [] (Ret (us ls))) (ci : ACalls Try.prog 24 [us a, us b] [] (Ret (bo u))) (cri : ACalls Try.prog 26 [us a, us b] [] (Ret (bo u))) (cc : ACalls Try.prog 21 [us a, us b] [] (Ret (i64 x))) (crc : ACalls Try.prog 27 [us a, us b] [] (Ret (i64 x))) (ra : ACalls Try.prog 13 [us a] [] (Ret (bo true))) (rb : ACalls Try.prog 13 [us b] [] (Ret (bo true)))
    (cw : ACalls Try.prog 11 [us (a ++ b)] [] (Ret (us w))) : ACalls Try.prog 7 [us a, us b] [] (Ret (bo true)) := by
  have hfz : frz [.dead, .dead, .row ((a ++ b).map u64n)] 0 8 (.slc 2 0 (0 + a.length + b.length) 1) = some (us (a ++ b)) := frz_us3 (k := 6) rfl (by rw [List.length_append]; omega) rfl
  have hfm : mapO (frz [.dead, .dead, .row (a.map u64n ++ b.map u64n)] 0 8) [.slc 2 0 (0 + a.length + b.length) 1] = some [us (a ++ b)] := by rw [← List.map_append]; simp only [mapO, hfz]
  cases u <;>
  · refine acalls_of_awp hT mixed Try.func7 rfl (by kernel_rfl) (by kernel_rfl) (Nat.le_of_ble_eq_true rfl) ?_
    refine callP awakeL_ok rfl rfl ?_
    refine callP cf rfl rfl ?_
    refine callP cj rfl rfl ?_
    refine callP cm rfl rfl ?_
    refine callP cl rfl rfl ?_
    refine callP ci rfl rfl ?_
    refine callP cri rfl rfl ?_
    refine callP cc rfl rfl ?_
    refine callP crc rfl rfl ?_
    refine fork (fun g => absurd rfl (bne_iff_ne.1 g)) (fun g => ?_)
    refine callP ra rfl rfl ?_
    refine callP rb rfl rfl ?_
    refine optK_intro (srcA_us _ a) ?_
    refine Ob.intro (allC_us a) ?_
    refine Ob.intro (show (0 + a.length) * 8 ≤ 140737488355328 ∧ 0 + a.length ≤ 9223372036854775807 by omega) ?_
    refine optK_intro (srcA_us _ b) ?_
    refine Ob.intro (allC_us b) ?_
    refine optK_intro (a := a.map u64n) (rdN_all rfl (show (0 + a.length) * 1 = (a.map u64n).length by rw [List.length_map]; omega)) ?_
    refine Ob.intro (show (0 + a.length + b.length) * 8 ≤ 140737488355328 ∧ 0 + a.length + b.length ≤ 9223372036854775807 by omega) ?_
    refine callCut (H := [.dead, .dead, .row (a.map u64n ++ b.map u64n)]) (bs := [us (a ++ b)]) 0 hfm ?_
    refine callS cw [] True.intro rfl ?_
    rintro E G ⟨rfl, rfl⟩ _
    refine ⟨_, _, rfl, rfl, ?_⟩
    refine loopI (α := JoSt a b) (fun z => [(0, us a), (1, us b), (5, us j), (6, i64 e), (7, us m), (8, us ls), (9, us w), (10, .slc 0 0 z.X.length 1), (11, .slc 1 0 z.Y.length 1), (12, i64 (z.k : Nat))]) (fun z => [.row (z.X.map u64n), .row (z.Y.map u64n)]) (fun z => a.length - z.k) ⟨0, [], [], Nat.zero_le _, rfl, rfl⟩ [3, 4]
      ⟨⟨rfl, rfl, rfl, rfl, rfl, rfl, rfl, rfl, rfl, rfl, True.intro⟩, ⟨.inl rfl, .inl rfl, True.intro⟩, rfl, rfl, rfl⟩ ?_
    rintro ⟨k, X, Y, hk, hX, hY⟩ K hK
    have hinc : wrp .i64 ((k : Int) + 1) = ((k + 1 : Nat) : Int) := by rw [wrpE, wi64]; omega
    have lX : X.length ≤ 6 := by rw [hX]; exact Nat.le_trans (List.length_filter_le ..) (by rw [List.length_take]; omega)
    have lY : Y.length ≤ 6 := by rw [hY]; exact Nat.le_trans (List.length_filter_le ..) (by rw [List.length_take]; omega)
    refine forkD (fun h => ?_) (fun h => ?_)
    · have h' : k < a.length := by have : (k : Int) < (a.length : Int) := h; omega
      obtain ⟨y, hy⟩ : ∃ y, a[k]? = some y := ⟨_, List.getElem?_eq_getElem h'⟩
      have hb := (show (0 : Int) ≤ (k : Nat) ∧ ((k : Nat) : Int) < (a.length : Nat) by omega)
      have htk : a.take (k + 1) = a.take k ++ [y] := take_snocA hy
      refine Ob.intro hb ?_
      refine optK_intro (nth_map hy) ?_
      refine callP (has2_ok b y (by omega)) rfl rfl ?_
      refine forkD (fun q => ?_) (fun q => ?_)
      · refine Ob.intro hb ?_
        refine optK_intro (nth_map hy) ?_
        refine Ob.intro rfl ?_
        refine optK_intro (rdN_all (cs := X.map u64n) rfl (by rw [List.length_map, Nat.mul_one])) ?_
        refine Ob.intro (show (X.length + 1) * 8 ≤ 140737488355328 ∧ X.length + 1 ≤ 9223372036854775807 by omega) ?_
        refine hK ⟨k + 1, X ++ [y], Y, h', by rw [htk, keep_snoc, ← hX]; unfold delB; rw [decide_eq_true q]; rfl, by rw [htk, keep_snoc, ← hY]; unfold delB; rw [decide_eq_true q]; simp⟩ [3, 1] _ (show a.length - k = a.length - (k + 1) + 1 by omega)
          ⟨⟨rfl, rfl, rfl, rfl, rfl, rfl, rfl, slcE rfl (by rw [List.length_append]; rfl), rfl, congrArg i64 hinc, True.intro⟩, ⟨.inl ?_, .inl (by rw [renO_us]; rfl), True.intro⟩, rfl, rfl, rfl⟩
        show some (AObj.row (X.map u64n ++ [u64n y])) = some (renO _ (.row ((X ++ [y]).map u64n)))
        rw [renO_us, List.map_append]
        rfl
      · refine Ob.intro hb ?_
        refine optK_intro (nth_map hy) ?_
        refine Ob.intro rfl ?_
        refine optK_intro (rdN_all (cs := Y.map u64n) rfl (by rw [List.length_map, Nat.mul_one])) ?_
        refine Ob.intro (show (Y.length + 1) * 8 ≤ 140737488355328 ∧ Y.length + 1 ≤ 9223372036854775807 by omega) ?_
        refine hK ⟨k + 1, X, Y ++ [y], h', by rw [htk, keep_snoc, ← hX]; unfold delB; rw [decide_eq_false q]; simp, by rw [htk, keep_snoc, ← hY]; unfold delB; rw [decide_eq_false q]; rfl⟩ [0, 3] _ (show a.length - k = a.length - (k + 1) + 1 by omega)
          ⟨⟨rfl, rfl, rfl, rfl, rfl, rfl, rfl, rfl, slcE rfl (by rw [List.length_append]; rfl), congrArg i64 hinc, True.intro⟩, ⟨.inl (by rw [renO_us]; rfl), .inl ?_, True.intro⟩, rfl, rfl, rfl⟩
        show some (AObj.row (Y.map u64n ++ [u64n y])) = some (renO _ (.row ((Y ++ [y]).map u64n)))
        rw [renO_us, List.map_append]
        rfl
    · have h' : k = a.length := by have : ¬ (k : Int) < (a.length : Int) := h; omega
      rw [h', List.take_length] at hX hY
      have hXm : X = m := by rw [hX, hm]
      have hYl : Y = ls := by rw [hY, hls]
      have f1 : frz [.row (X.map u64n), .row (Y.map u64n)] 0 8 (.slc 0 0 X.length 1) = some (us m) := by rw [← hXm]; exact frz_us3 (k := 6) rfl rfl rfl
      have f2 : frz [.row (X.map u64n), .row (Y.map u64n)] 0 8 (.slc 1 0 Y.length 1) = some (us ls) := by rw [← hYl]; exact frz_us3 (k := 6) rfl rfl rfl
      have g1 : mapO (frz [.row (X.map u64n), .row (Y.map u64n)] 0 8) [us m, .slc 0 0 X.length 1] = some [us m, us m] := by simp only [mapO, f1]; rfl
      have g2 : mapO (frz [.row (X.map u64n), .row (Y.map u64n)] 0 8) [us ls, .slc 1 0 Y.length 1] = some [us ls, us ls] := by simp only [mapO, f2]; rfl
      have s1 := same_ok m m (by rw [← hXm]; omega) (by rw [← hXm]; omega)
      have s2 := same_ok ls ls (by rw [← hYl]; omega) (by rw [← hYl]; omega)
      rw [decide_eq_true rfl] at s1 s2
      refine callF s1 g1 rfl ?_
      refine callF s2 g2 rfl ?_
      rcases hw with ⟨w6, rfl, rfl⟩ | ⟨w6, rfl, rfl⟩
      · refine forkD (fun q => ?_) (fun q => absurd (show (6 : Int) < (w.length : Int) by omega) q)
        refine end0 rfl rfl rfl rfl
      · refine forkD (fun q => absurd (show (6 : Int) < (j.length : Int) from q) (by omega)) (fun q => ?_)
        have s3 := same_ok j j (by omega) (by omega)
        rw [decide_eq_true rfl] at s3
        refine callP s3 rfl rfl ?_
        refine end0 rfl rfl rfl rfl
theorem labelJoins_law (l0 : List AV) (w0 : Wf (.slice (.int .u64)) l0) (l1 : List AV) (w1 : Wf (.slice (.int .u64)) l1) : ACalls Try.prog 7 [argA (.slice (.int .u64)) l0, argA (.slice (.int .u64)) l1] [] (Ret (.sc (.bool true))) := by
  obtain ⟨a, rfl, _, ha⟩ := wf_nats w0
  obtain ⟨b, rfl, _, hb⟩ := wf_nats w1
  show ACalls Try.prog 7 [us a, us b] [] (Ret (bo true))
  have cf := farL_ok a b
  by_cases h1 : 60 < a.length ∨ 60 < b.length
  · rw [decide_eq_true h1] at cf
    refine acalls_of_awp hT mixed Try.func7 rfl (by kernel_rfl) (by kernel_rfl) (Nat.le_of_ble_eq_true rfl) ?_
    refine callP awakeL_ok rfl rfl ?_
    refine callP cf rfl rfl ?_
    refine end0 rfl rfl rfl rfl
  · rw [decide_eq_false h1] at cf
    have ha' : a.length < 9223372036854775807 := by omega
    have hb' : b.length < 9223372036854775807 := by omega
    have ra := rright_ok a ha
    have rb := rright_ok b hb
    have cj := join_ok a b ha' hb'
    have cm := meet_ok a b ha' hb'
    have cl := lessL_ok a b ha' hb'
    have ci := in_ok a b ha' hb'
    have cri := rin_ok a b ha' hb'
    have cc := compare_ok a b ha' hb'
    have crc := compL_ok a b ha' hb'
    by_cases h : rightB a = true ∧ rightB b = true
    · rw [h.1] at ra
      rw [h.2] at rb
      have la := rightB_len h.1
      have lb := rightB_len h.2
      have hj : joinP a b = ofP (a ++ b) := by unfold joinP; rw [if_pos h]
      have hk : ∀ c, keptP a b c = keepL b c a := fun c => by unfold keptP; rw [if_pos h]
      have h0 : 0 ∉ a ++ b := fun hh => by
        rcases List.mem_append.1 hh with hh | hh
        · exact ((rightB_iff a).1 h.1).2.2 hh
        · exact ((rightB_iff b).1 h.2).2.2 hh
      refine joins_walk a b _ _ _ (ofL (a ++ b)) _ true _ _ la lb (hk true) (hk false) ?_ cf cj cm cl ci cri cc crc ra rb (rof_ok (a ++ b) (by rw [List.length_append]; omega))
      rw [hj]
      rcases ofP_ok h0 with ⟨h6, e⟩ | ⟨hr, e⟩
      · exact .inl ⟨h6, by rw [e], by rw [e]⟩
      · exact .inr ⟨rightB_len hr, by rw [e], by rw [e]⟩
    · have hj : joinP a b = ([], 1) := by unfold joinP; rw [if_neg h]
      have hk : ∀ c, keptP a b c = [] := fun c => by unfold keptP; rw [if_neg h]
      exact joins_no a b _ _ _ _ h _ _ _ _ (by rw [hj]) (by rw [hj]) (hk true) (hk false) cf cj cm cl ci cri cc crc ra rb
end Go.Proofs.Ytmfifbclldnpkaa.A
