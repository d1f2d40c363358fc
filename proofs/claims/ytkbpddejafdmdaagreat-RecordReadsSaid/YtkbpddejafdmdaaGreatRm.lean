/- record: Uncommit. No condition. -/
import Derived.Test.YtkbpddejafdmdaaGreatRl
namespace Go.Proofs.YtkbpddejafdmdaaGreat.A
open Go
set_option linter.unusedVariables false
set_option linter.unusedSimpArgs false
set_option maxRecDepth 100000
set_option pp.maxSteps 400

theorem frz_flatG {α : Type} {f : α → List AV} {n : Nat} (hf : ∀ x, (f x).length = n) (hq : ∀ (H : Heap) (m k : Nat) (x : α), mapO (frz0 H m (k + 1)) (f x) = some (f x)) {H : Heap} {i m k len : Nat} {L : List α} (h : nth H i = some (.row (flat f L))) (hn : len = L.length) (hm : Nat.blt i m = false) : frz H m (k + 2) (.slc i 0 len n) = some (.view L.length (flat f L)) := by
  subst hn
  have h1 : rdN H i 0 (L.length * n) = some (flat f L) := rdN_all h (by rw [flat_len hf])
  have h2 := mapO_flat (g := frz0 H m (k + 1)) (hq H m k) L
  simp only [frz, frz0, hm, cond_false, h1, h2]
theorem wt_frz0 (H : Heap) (m k : Nat) (w : Wt) : mapO (frz0 H m (k + 1)) (wtC w) = some (wtC w) := rfl
theorem renO_wt (r : Nat → Nat) (L : List Wt) : renO r (.row (flat wtC L)) = .row (flat wtC L) := renO_flat (fun _ _ => rfl) r L
def uncP (s : ByteArray) : Option (Nat × List Wt) :=
  match hdP 1 s with
  | none => none
  | some (q, m) => match manyP wrP (rest s m).size (rest s m) with
    | none => none
    | some L => if 1 ≤ q ∧ mayW L = true then some (q, L) else none
def UcR (o : Option (Nat × List Wt)) : AEnd → Heap → Prop := fun E G => G = [] ∧ match o with
  | some (q, L) => E = .ret (.tup [i64 (q : Nat), wtV L, i64 0])
  | none => ∃ q : Int, E = .ret (.tup [i64 q, nilS, i64 4]) ∨ ∃ L, E = .ret (.tup [i64 q, wtV L, i64 4])
structure UcSt (s : ByteArray) (M : Option (List Wt)) where
  L : List Wt
  p : Nat
  n : Nat
  hn : (rest s p).size ≤ n
  hL : L.length + n ≤ 1000000
  eq : M = (manyP wrP n (rest s p)).map (L ++ ·)
theorem belowH_wt (L : List Wt) : belowH 3 [.row [.sc (.int .i64 0)], .dead, .row (flat wtC L)] = true := by
  have h : belowL 3 (flat wtC L) = true := belowL_flat (fun _ => rfl) L
  simp only [belowH, belowO, h]
  rfl
theorem belowH_wt4 (L : List Wt) : belowH 3 [.row [.sc (.int .i64 4)], .dead, .row (flat wtC L)] = true := by
  have h : belowL 3 (flat wtC L) = true := belowL_flat (fun _ => rfl) L
  simp only [belowH, belowO, h]
  rfl
theorem uncommit_ok (s : ByteArray) (hs : s.size ≤ 1000000) : ACalls Tryz.prog 19 [str s] [] (UcR (uncP s)) := by
  have hc := head_ok 1 s (by decide) hs
  unfold uncP
  cases hp : hdP 1 s with
  | none =>
    rw [hp] at hc
    refine acalls_of_awpU [] hT mixed Tryz.func19 rfl (by kernel_rfl) (by kernel_rfl) (Nat.le_of_ble_eq_true rfl) ?_
    refine callS hc [1] ⟨.inl rfl, True.intro⟩ rfl ?_
    rintro E G ⟨rfl, rfl⟩ _
    refine ⟨_, _, rfl, rfl, ?_⟩
    refine acallsD_of_rec hT mixed Tryz.func29 rfl (by kernel_rfl) (by kernel_rfl) rfl rfl rfl (plain_wrg) (Nat.le_of_ble_eq_true rfl) ?_
    exact ⟨rfl, [.row [i64 4], .dead], _, ⟨⟨_, rfl, rfl⟩, ⟨.inl rfl, .inl rfl, True.intro⟩, Nat.le_of_ble_eq_true rfl, rfl⟩, True.intro, [], .tup [i64 0, nilS, i64 4], ⟨⟨_, rfl, rfl⟩, True.intro, Nat.zero_le _, rfl⟩, rfl, 0, .inl rfl⟩
  | some qm =>
    obtain ⟨q, m⟩ := qm
    rw [hp] at hc
    obtain ⟨hm, hq⟩ := hdP_le hp
    dsimp only
    have hM : ∃ M, M = manyP wrP (rest s m).size (rest s m) := ⟨_, rfl⟩
    obtain ⟨M, hM⟩ := hM
    rw [← hM]
    refine acalls_of_awpU [] hT mixed Tryz.func19 rfl (by kernel_rfl) (by kernel_rfl) (Nat.le_of_ble_eq_true rfl) ?_
    refine callS hc [1] ⟨.inl rfl, True.intro⟩ rfl ?_
    rintro E G ⟨rfl, rfl⟩ _
    refine ⟨_, _, rfl, rfl, ?_⟩
    refine loopG (α := UcSt s M) (fun x => [(2, i64 (q : Nat)), (3, .slc 2 0 x.L.length 5), (4, .ptr 0 0), (5, .ptr 1 0)]) (fun x => [.row [i64 0], .row [str (rest s x.p)], .row (flat wtC x.L)]) [⟨29, [], [.ptr 0 0, i64 4]⟩] (fun x => x.n)
      ⟨[], m, (rest s m).size, Nat.le_refl _, by rw [rest_size]; simp only [List.length_nil]; omega, by rw [hM]; cases manyP wrP (rest s m).size (rest s m) <;> rfl⟩ [.at_ 3 5] [0, 1, 2] ⟨⟨rfl, rfl, rfl, rfl, True.intro⟩, ⟨.inl rfl, .inl rfl, .inl rfl, True.intro⟩, rfl, rfl, rfl⟩ ?_
    rintro ⟨L, p, n, hn, hL, eq⟩ K hK
    dsimp only at hn hL eq ⊢
    have hr := strEq_nilS (rest s p)
    by_cases hz : (rest s p).size = 0
    · rw [decide_eq_true hz] at hr
      rw [manyP_end hz] at eq
      have eq' : M = some L := by rw [eq]; simp
      rw [eq']
      dsimp only
      refine fork (fun g => absurd hr (by simpa using g)) (fun _ => ?_)
      have hmm := may_ok L (by omega)
      have hf : ∀ (H : Heap), nth H 2 = some (.row (flat wtC L)) → mapO (frz H 0 8) [.slc 2 0 L.length 5] = some [wtV L] := fun H h => by
        simp only [mapO, frz_flatG (m := 0) (k := 6) wtC_len wt_frz0 h rfl rfl]
        rfl
      by_cases h1 : 1 ≤ q
      · refine forkD (fun _ => ?_) (fun g => absurd (show (1 : Int) ≤ (q : Int) by omega) g)
        cases hmay : mayW L with
        | true =>
          rw [hmay] at hmm
          rw [if_pos ⟨h1, rfl⟩]
          refine callF hmm (hf _ rfl) rfl ?_
          refine callP must_yes rfl rfl ?_
          refine acallsD_of_rec hT mixed Tryz.func29 rfl (by kernel_rfl) (by kernel_rfl) rfl rfl rfl (fun u b h => by cases h) (Nat.le_of_ble_eq_true rfl) ?_
          refine ⟨rfl, [.row [i64 0], .dead, .row (flat wtC L)], _, ⟨⟨_, rfl, rfl⟩, ⟨.inl rfl, .inr rfl, .inl rfl, True.intro⟩, Nat.le_of_ble_eq_true rfl, belowH_wt L⟩, True.intro, [], .tup [i64 (q : Nat), wtV L, i64 0], ⟨⟨_, rfl, ?_⟩, True.intro, Nat.zero_le _, rfl⟩, rfl, rfl⟩
          have hfz : frz [.row [i64 0], .dead, .row (flat wtC L)] 0 7 (.slc 2 0 L.length 5) = some (wtV L) := frz_flatG (m := 0) (k := 5) wtC_len wt_frz0 rfl rfl rfl
          exact frz_tup (k := 7) (show mapO (frz [.row [i64 0], .dead, .row (flat wtC L)] 0 7) [i64 (q : Nat), .slc 2 0 L.length 5, i64 0] = some [i64 (q : Nat), wtV L, i64 0] from by simp only [mapO, hfz]; rfl)
        | false =>
          rw [hmay] at hmm
          rw [if_neg (fun hh => by cases hh.2)]
          refine callF hmm (hf _ rfl) rfl ?_
          refine callBad must_no rfl ?_
          refine acallsD_of_rec hT mixed Tryz.func29 rfl (by kernel_rfl) (by kernel_rfl) rfl rfl rfl (plain_wrg) (Nat.le_of_ble_eq_true rfl) ?_
          refine ⟨rfl, [.row [i64 4], .dead, .row (flat wtC L)], _, ⟨⟨_, rfl, rfl⟩, ⟨.inl rfl, .inr rfl, .inl rfl, True.intro⟩, Nat.le_of_ble_eq_true rfl, belowH_wt4 L⟩, True.intro, [], .tup [i64 (q : Nat), wtV L, i64 4], ⟨⟨_, rfl, ?_⟩, True.intro, Nat.zero_le _, rfl⟩, rfl, _, .inr ⟨L, rfl⟩⟩
          have hfz : frz [.row [i64 4], .dead, .row (flat wtC L)] 0 7 (.slc 2 0 L.length 5) = some (wtV L) := frz_flatG (m := 0) (k := 5) wtC_len wt_frz0 rfl rfl rfl
          exact frz_tup (k := 7) (show mapO (frz [.row [i64 4], .dead, .row (flat wtC L)] 0 7) [i64 (q : Nat), .slc 2 0 L.length 5, i64 4] = some [i64 (q : Nat), wtV L, i64 4] from by simp only [mapO, hfz]; rfl)
      · refine forkD (fun g => absurd (show 1 ≤ q by have : (1 : Int) ≤ (q : Int) := g; omega) h1) (fun _ => ?_)
        rw [if_neg (fun hh => h1 hh.1)]
        refine callBad must_no rfl ?_
        refine acallsD_of_rec hT mixed Tryz.func29 rfl (by kernel_rfl) (by kernel_rfl) rfl rfl rfl (plain_wrg) (Nat.le_of_ble_eq_true rfl) ?_
        refine ⟨rfl, [.row [i64 4], .dead, .row (flat wtC L)], _, ⟨⟨_, rfl, rfl⟩, ⟨.inl rfl, .inr rfl, .inl rfl, True.intro⟩, Nat.le_of_ble_eq_true rfl, belowH_wt4 L⟩, True.intro, [], .tup [i64 (q : Nat), wtV L, i64 4], ⟨⟨_, rfl, ?_⟩, True.intro, Nat.zero_le _, rfl⟩, rfl, _, .inr ⟨L, rfl⟩⟩
        have hfz : frz [.row [i64 4], .dead, .row (flat wtC L)] 0 7 (.slc 2 0 L.length 5) = some (wtV L) := frz_flatG (m := 0) (k := 5) wtC_len wt_frz0 rfl rfl rfl
        exact frz_tup (k := 7) (show mapO (frz [.row [i64 4], .dead, .row (flat wtC L)] 0 7) [i64 (q : Nat), .slc 2 0 L.length 5, i64 4] = some [i64 (q : Nat), wtV L, i64 4] from by simp only [mapO, hfz]; rfl)
    · rw [decide_eq_false hz] at hr
      refine fork (fun _ => ?_) (fun g => absurd hr (by simpa using g))
      have hw := write_ok (rest s p) (by rw [rest_size]; omega)
      cases hwp : wrP (rest s p) with
      | none =>
        rw [hwp] at hw
        rw [manyP_none hz hwp] at eq
        have eq' : M = none := by rw [eq]; rfl
        rw [eq']
        dsimp only
        refine callS hw [1] ⟨.inl rfl, True.intro⟩ rfl ?_
        rintro E G ⟨rfl, rfl⟩ _
        refine ⟨_, _, rfl, rfl, ?_⟩
        refine acallsD_of_rec hT mixed Tryz.func29 rfl (by kernel_rfl) (by kernel_rfl) rfl rfl rfl (plain_wrg) (Nat.le_of_ble_eq_true rfl) ?_
        refine ⟨rfl, [.row [i64 4], .dead, .row (flat wtC L)], _, ⟨⟨_, rfl, rfl⟩, ⟨.inl rfl, .inr rfl, .inl rfl, True.intro⟩, Nat.le_of_ble_eq_true rfl, belowH_wt4 L⟩, True.intro, [], .tup [i64 (q : Nat), wtV L, i64 4], ⟨⟨_, rfl, ?_⟩, True.intro, Nat.zero_le _, rfl⟩, rfl, _, .inr ⟨L, rfl⟩⟩
        have hfz : frz [.row [i64 4], .dead, .row (flat wtC L)] 0 7 (.slc 2 0 L.length 5) = some (wtV L) := frz_flatG (m := 0) (k := 5) wtC_len wt_frz0 rfl rfl rfl
        exact frz_tup (k := 7) (show mapO (frz [.row [i64 4], .dead, .row (flat wtC L)] 0 7) [i64 (q : Nat), .slc 2 0 L.length 5, i64 4] = some [i64 (q : Nat), wtV L, i64 4] from by simp only [mapO, hfz]; rfl)
      | some wk =>
        obtain ⟨w, k⟩ := wk
        rw [hwp] at hw
        obtain ⟨hk0, hk1⟩ := wrP_le hwp
        rw [rest_size] at hk1 hn hz
        obtain ⟨n, rfl⟩ : ∃ n', n = n' + 1 := ⟨n - 1, by omega⟩
        rw [manyP_some (by rw [rest_size]; exact hz) hwp, map_snoc, rest_rest] at eq
        refine callS hw [1] ⟨.inl rfl, True.intro⟩ rfl ?_
        rintro E G ⟨rfl, rfl⟩ _
        have hob : (L.length + 1) * 56 ≤ 140737488355328 ∧ L.length + 1 ≤ 9223372036854775807 := by omega
        obtain ⟨wk, wg, wn, wt, wb⟩ := w
        refine ⟨_, [.row [i64 0], .row [str (rest s (p + k))], .row (flat wtC L)], rfl, by rw [rest_rest]; show [_, _, _] = _; simp only [renH, renO_wt]; rfl, ?_⟩
        refine Ob.intro rfl ?_
        refine optK_intro (rdN_all (cs := flat wtC L) rfl (by rw [flat_len wtC_len])) ?_
        refine Ob.intro hob ?_
        refine hK ⟨L ++ [⟨wk, wg, wn, wt, wb⟩], p + k, n, by rw [rest_size]; omega, by rw [List.length_append]; simp only [List.length_cons, List.length_nil]; omega, eq⟩ [] [0, 1, 4] _ rfl ⟨⟨rfl, ?_, rfl, rfl, True.intro⟩, ⟨.inl rfl, .inl rfl, .inl ?_, True.intro⟩, rfl, rfl, rfl⟩
        · show AV.slc 4 0 (L.length + 1) 5 = .slc 4 0 (L ++ [_]).length 5
          rw [List.length_append]
          rfl
        · show some (AObj.row (flat wtC L ++ wtC ⟨wk, wg, wn, wt, wb⟩)) = some (renO _ (.row (flat wtC (L ++ [_]))))
          rw [renO_wt, flat_append]
          rfl
end Go.Proofs.YtkbpddejafdmdaaGreat.A
