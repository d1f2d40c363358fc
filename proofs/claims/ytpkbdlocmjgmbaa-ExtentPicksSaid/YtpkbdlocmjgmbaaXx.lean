/- extent: the law ExtentPicks. No condition. -/
import Derived.Test.YtpkbdlocmjgmbaaXw
namespace Go.Proofs.Ytpkbdlocmjgmbaa.A
open Go
set_option linter.unusedVariables false
set_option linter.unusedSimpArgs false
set_option maxRecDepth 100000
set_option pp.maxSteps 600
theorem crash_wet {w : Wd} (h0 : w.off = false) (ps : List (Int × Int)) (e : Int) : (w.crash ps).2.start.2.wet e = [] := by
  unfold Wd.crash
  rw [if_neg (by rw [h0]; decide)]
  unfold Wd.wet
  show (match (w.M.map Mp.clr)[e.toNat]? with | some m => if 0 ≤ e then ksE m.L else [] | none => []) = []
  rw [List.getElem?_map]
  cases w.M[e.toNat]? with
  | none => rfl
  | some m =>
    show (if 0 ≤ e then ksE [] else []) = []
    split
    · unfold ksE; simp
    · rfl
/-- What is to stand at the sector k of all. -/
def want1 (w : Wd) (ps : List (Int × Int)) (k : Nat) : ByteArray := if (((k / 6 : Nat) : Int), ((k % 6 : Nat) : Int)) ∈ ps then (w.m (k / 6 : Nat) (k % 6 : Nat)).getD (w.d (k / 6 : Nat) (k % 6 : Nat)) else w.d (k / 6 : Nat) (k % 6 : Nat)
def wantL (w : Wd) (ps : List (Int × Int)) (j : Nat) : List ByteArray := (List.range j).map (want1 w ps)
theorem wantL_len (w : Wd) (ps : List (Int × Int)) (j : Nat) : (wantL w ps j).length = j := by unfold wantL; rw [List.length_map, List.length_range]
theorem wantL_succ (w : Wd) (ps : List (Int × Int)) (j : Nat) : (wantL w ps (j + 1)).map str = (wantL w ps j).map str ++ [str (want1 w ps j)] := by
  unfold wantL
  rw [List.range_succ, List.map_append, List.map_append]
  rfl
theorem wantL_get (w : Wd) (ps : List (Int × Int)) {j k : Nat} (h : k < j) : (wantL w ps j)[k]? = some (want1 w ps k) := by
  unfold wantL
  rw [List.getElem?_map, List.getElem?_range h]
  rfl
def wantO (w : Wd) (ps : List (Int × Int)) (j : Nat) : AObj := .row ((wantL w ps j).map str)
theorem renO_want (r : Nat → Nat) (w : Wd) (ps : List (Int × Int)) (j : Nat) : renO r (wantO w ps j) = wantO w ps j := renO_str r _
theorem in24 {k : Nat} (h : k < 24) : inW 4 6 (k / 6 : Nat) (k % 6 : Nat) := ⟨⟨by omega, by omega⟩, by omega, by omega⟩
theorem quo6 {k : Nat} (h : k < 24) : wrp .i64 ((k : Int).tdiv 6) = ((k / 6 : Nat) : Int) := by
  rw [show (k : Int).tdiv 6 = ((k / 6 : Nat) : Int) from rfl, wrpE, wi64]
  omega
theorem rem6 {k : Nat} : (k : Int).tmod 6 = ((k % 6 : Nat) : Int) := rfl
theorem six : (6 : Int) ≠ 0 := by decide
theorem want1_nil {ps : List (Int × Int)} (w : Wd) (k : Nat) : want1 w (List.take 0 ps) k = w.d (k / 6 : Nat) (k % 6 : Nat) := if_neg (by simp)
theorem want1_hit {w : Wd} {ps : List (Int × Int)} {i k : Nat} {p : Int × Int} (h : ps[i]? = some p) (hp : p = (((k / 6 : Nat) : Int), ((k % 6 : Nat) : Int))) : want1 w (ps.take (i + 1)) k = (w.m (k / 6 : Nat) (k % 6 : Nat)).getD (w.d (k / 6 : Nat) (k % 6 : Nat)) := by
  unfold want1
  rw [List.take_add_one, h, ← hp, if_pos (by simp)]
theorem want1_miss {w : Wd} {ps : List (Int × Int)} {i k : Nat} {p : Int × Int} (h : ps[i]? = some p) (hp : ¬ p = (((k / 6 : Nat) : Int), ((k % 6 : Nat) : Int))) : want1 w (ps.take (i + 1)) k = want1 w (ps.take i) k := by
  unfold want1
  rw [List.take_add_one, h]
  by_cases hq : (((k / 6 : Nat) : Int), ((k % 6 : Nat) : Int)) ∈ ps.take i
  · rw [if_pos hq, if_pos (List.mem_append_left _ hq)]
  · rw [if_neg hq, if_neg (fun h => (List.mem_append.1 h).elim hq fun h => hp (by rw [List.mem_singleton.1 (show _ ∈ [p] from h)]))]
theorem pick_eq {a b c d : Int} : (a == c && (b == d && true)) = true ↔ (a, b) = (c, d) := by
  rw [Bool.and_true, Bool.and_eq_true, beq_iff_eq, beq_iff_eq, Prod.mk.injEq]
theorem extentPicks_ok (L : List Xa) (ps : List (Int × Int)) (hp : ps.length ≤ 100) : ACalls Try.prog 4 [.view L.length (flat xaC L), pkV ps] [] (Ret (bo true)) := by
  refine acalls_of_awpC [12] hT mixed Try.func4 rfl (by kernel_rfl) (by kernel_rfl) (Nat.le_of_ble_eq_true rfl) ?_
  refine callP awakeX_ok rfl rfl ?_
  refine forkD (fun h => ?_) (fun _ => ?_)
  · exact absurd (show (ps.length : Int) > 100 from h) (by omega)
  refine callN_4 (newE_ok 4 6 (by omega) (by omega) (by omega) (by omega)) (new_is (by omega) (by omega)) rfl rfl (fun o x0 x1 x2 x3 y0 y1 y2 y3 e => ?_)
  have i0 : (⟨o, 6, [x0, x1, x2, x3], [y0, y1, y2, y3]⟩ : Wd).is 4 6 := e ▸ new_is (by omega) (by omega)
  clear e
  refine cutI (α := { w : Wd // w.is 4 6 }) (fun z => [(1, pkV ps), (5, .ptr 0 0)]) (fun z => z.val.H) [] (fun K1 hK1 => ?_) (fun z => ?_)
  · refine loopI (α := LaA) (fun z => [(0, .view L.length (flat xaC L)), (1, pkV ps), (5, .ptr 0 0), (7, i64 (z.i : Nat))]) (fun z => z.w.H) (fun z => 120 - z.i) (LaA.mk 0 ⟨o, 6, [x0, x1, x2, x3], [y0, y1, y2, y3]⟩ (by omega) i0) [0, 1, 2, 3, 4, 5, 6, 7, 8, 9, 10] ⟨⟨rfl, rfl, rfl, rfl, True.intro⟩, ⟨.inl rfl, .inl rfl, .inl rfl, .inl (by rw [renO_str]; rfl), .inl (by rw [renO_str]; rfl), .inl (by rw [renO_str]; rfl), .inl (by rw [renO_str]; rfl), .inl (by rw [renO_mp]; rfl), .inl (by rw [renO_mp]; rfl), .inl (by rw [renO_mp]; rfl), .inl (by rw [renO_mp]; rfl), True.intro⟩, rfl, rfl, rfl⟩ ?_
    clear i0
    rintro ⟨i, w, hi, hw⟩ K hK
    dsimp only at hi ⊢
    obtain ⟨o, d0, d1, d2, d3, m0, m1, m2, m3, ew⟩ := tell_4 hw
    rw [ew]
    have out := hK1 ⟨w, hw⟩ [] [0, 1, 2, 3, 4, 5, 6, 7, 8, 9, 10]
    dsimp only at out
    rw [ew] at out
    refine forkD (fun h => ?_) (fun h => ?_)
    · refine forkD (fun h2 => ?_) (fun h2 => ?_)
      · have g : i < L.length := by have : (i : Int) < (L.length : Int) := h; omega
        have g2 : i < 120 := by have : (i : Int) < 120 := h2; omega
        obtain ⟨x, hx⟩ : ∃ x, L[i]? = some x := ⟨_, List.getElem?_eq_getElem g⟩
        refine Ob.intro (show (0 : Int) ≤ (i : Nat) ∧ ((i : Nat) : Int) < (L.length : Nat) by omega) ?_
        refine optK_intro (flat_takeN (f := xaC) (n := 5) (fun _ => rfl) hx) ?_
        refine callT_4 (E := []) (play_4 w hw x) ew (play_is hw x) rfl rfl (fun o' x0 x1 x2 x3 y0 y1 y2 y3 e => ?_)
        exact hK (LaA.mk (i + 1) ⟨o', 6, [x0, x1, x2, x3], [y0, y1, y2, y3]⟩ (by omega) (e ▸ play_is hw x)) [0, 1, 2, 3, 4, 5, 6, 7, 8, 9, 10] _ (show 120 - i = 120 - (i + 1) + 1 by omega) ⟨⟨rfl, rfl, rfl, congrArg i64 (wincQ (by omega)), True.intro⟩, ⟨.inl rfl, .inl rfl, .inl rfl, .inl (by rw [renO_str]; rfl), .inl (by rw [renO_str]; rfl), .inl (by rw [renO_str]; rfl), .inl (by rw [renO_str]; rfl), .inl (by rw [renO_mp]; rfl), .inl (by rw [renO_mp]; rfl), .inl (by rw [renO_mp]; rfl), .inl (by rw [renO_mp]; rfl), True.intro⟩, rfl, rfl, rfl⟩
      · exact out _ ⟨⟨rfl, rfl, True.intro⟩, ⟨.inl rfl, .inl rfl, .inl rfl, .inl (by rw [renO_str]; rfl), .inl (by rw [renO_str]; rfl), .inl (by rw [renO_str]; rfl), .inl (by rw [renO_str]; rfl), .inl (by rw [renO_mp]; rfl), .inl (by rw [renO_mp]; rfl), .inl (by rw [renO_mp]; rfl), .inl (by rw [renO_mp]; rfl), True.intro⟩, rfl, rfl, rfl⟩
    · exact out _ ⟨⟨rfl, rfl, True.intro⟩, ⟨.inl rfl, .inl rfl, .inl rfl, .inl (by rw [renO_str]; rfl), .inl (by rw [renO_str]; rfl), .inl (by rw [renO_str]; rfl), .inl (by rw [renO_str]; rfl), .inl (by rw [renO_mp]; rfl), .inl (by rw [renO_mp]; rfl), .inl (by rw [renO_mp]; rfl), .inl (by rw [renO_mp]; rfl), True.intro⟩, rfl, rfl, rfl⟩
  obtain ⟨w0, i0⟩ := z
  dsimp only
  obtain ⟨o, d0, d1, d2, d3, m0, m1, m2, m3, e0⟩ := tell_4 i0
  rw [e0]
  obtain ⟨w1, hw1⟩ : ∃ w, w = w0.start.2 := ⟨_, rfl⟩
  have i1 : w1.is 4 6 := hw1 ▸ start_is i0
  have o1 : w1.off = false := by rw [hw1]; rfl
  have c1 := startW w0 i0.ok (by rw [i0.n]; omega)
  rw [← hw1] at c1
  clear hw1
  refine callT_4 (E := []) c1 e0 i1 rfl rfl (fun o' x0 x1 x2 x3 y0 y1 y2 y3 e1 => ?_)
  clear c1 e0
  refine loopI (α := { j : Nat // j ≤ 24 }) (fun z => [(1, pkV ps), (5, .ptr 0 0), (8, .slc 11 0 z.val 1), (9, i64 (z.val : Nat))]) (fun z => (Wd.mk o' 6 [x0, x1, x2, x3] [y0, y1, y2, y3]).H ++ [wantO w1 ps z.val]) (fun z => 24 - z.val) ⟨0, Nat.zero_le 24⟩ [0, 1, 2, 3, 4, 5, 6, 7, 8, 9, 10, 11] ⟨⟨rfl, rfl, rfl, rfl, True.intro⟩, ⟨.inl rfl, .inl rfl, .inl rfl, .inl (by rw [renO_str]; rfl), .inl (by rw [renO_str]; rfl), .inl (by rw [renO_str]; rfl), .inl (by rw [renO_str]; rfl), .inl (by rw [renO_mp]; rfl), .inl (by rw [renO_mp]; rfl), .inl (by rw [renO_mp]; rfl), .inl (by rw [renO_mp]; rfl), .inl rfl, True.intro⟩, rfl, rfl, rfl⟩ ?_
  rintro ⟨j, hj⟩ K hK
  dsimp only at hj ⊢
  refine forkD (fun h => ?_) (fun h => ?_)
  · have g : j < 24 := by have : (j : Int) < 24 := h; omega
    have c2 := dryW w1 i1.ok (j / 6 : Nat) (j % 6 : Nat)
    rw [dry_0 (i1.may0.2 (in24 g))] at c2
    replace c2 : ACalls Try.prog 14 [.ptr 0 0, i64 (wrp .i64 ((j : Int).tdiv 6)), i64 (hd ((j : Int).tmod 6))] w1.H (RetH (.tup [str (w1.d (j / 6 : Nat) (j % 6 : Nat)), i64 0]) w1.H) := by rw [quo6 g, hd_eq]; exact c2
    have c3 := readW w1 i1.ok (j / 6 : Nat) (j % 6 : Nat)
    rw [read_0 (i1.err0.2 ⟨o1, in24 g⟩)] at c3
    replace c3 : ACalls Try.prog 12 [.ptr 0 0, i64 (wrp .i64 ((j : Int).tdiv 6)), i64 (hd ((j : Int).tmod 6))] w1.H (RetH (.tup [str ((w1.m (j / 6 : Nat) (j % 6 : Nat)).getD (w1.d (j / 6 : Nat) (j % 6 : Nat))), i64 0]) w1.H) := by rw [quo6 g, hd_eq]; exact c3
    refine Ob.intro six ?_
    refine Ob.intro six ?_
    refine callU_4 (E := [wantO w1 ps j]) c2 e1 e1 i1 rfl rfl ?_
    refine loopI (α := { i : Nat // i ≤ ps.length }) (fun z => [(1, pkV ps), (5, .ptr 0 0), (8, .slc 11 0 j 1), (9, i64 (j : Nat)), (10, str (want1 w1 (ps.take z.val) j)), (12, i64 (z.val : Nat))]) (fun z => (Wd.mk o' 6 [x0, x1, x2, x3] [y0, y1, y2, y3]).H ++ [wantO w1 ps j]) (fun z => ps.length - z.val) ⟨0, Nat.zero_le _⟩ [0, 1, 2, 3, 4, 5, 6, 7, 8, 9, 10, 11] ⟨⟨rfl, rfl, rfl, rfl, congrArg str (want1_nil w1 j).symm, rfl, True.intro⟩, ⟨.inl rfl, .inl rfl, .inl rfl, .inl (by rw [renO_str]; rfl), .inl (by rw [renO_str]; rfl), .inl (by rw [renO_str]; rfl), .inl (by rw [renO_str]; rfl), .inl (by rw [renO_mp]; rfl), .inl (by rw [renO_mp]; rfl), .inl (by rw [renO_mp]; rfl), .inl (by rw [renO_mp]; rfl), .inl (by rw [renO_want]; rfl), True.intro⟩, rfl, rfl, rfl⟩ ?_
    rintro ⟨i, hi⟩ K2 hK2
    dsimp only at hi ⊢
    refine forkD (fun h2 => ?_) (fun h2 => ?_)
    · have g2 : i < ps.length := by have : (i : Int) < (ps.length : Int) := h2; omega
      obtain ⟨p, hpp⟩ : ∃ p, ps[i]? = some p := ⟨_, List.getElem?_eq_getElem g2⟩
      refine Ob.intro (show (0 : Int) ≤ (i : Nat) ∧ ((i : Nat) : Int) < (ps.length : Nat) by omega) ?_
      refine optK_intro (flat_takeN (f := pkC) (n := 2) (fun _ => rfl) hpp) ?_
      refine Ob.intro six ?_
      refine Ob.intro six ?_
      obtain ⟨pa, pb⟩ := p
      refine fork (fun hq => ?_) (fun hq => ?_)
      · rw [quo6 g, hd_eq, rem6] at hq
        have hw := want1_hit (w := w1) hpp (pick_eq.1 hq)
        refine Ob.intro six ?_
        refine Ob.intro six ?_
        refine callU_4 (E := [wantO w1 ps j]) c3 e1 e1 i1 rfl rfl ?_
        exact hK2 ⟨i + 1, g2⟩ [0, 1, 2, 3, 4, 5, 6, 7, 8, 9, 10, 11] _ (show ps.length - i = ps.length - (i + 1) + 1 by omega) ⟨⟨rfl, rfl, rfl, rfl, congrArg str hw.symm, congrArg i64 (wincQ (by omega)), True.intro⟩, ⟨.inl rfl, .inl rfl, .inl rfl, .inl (by rw [renO_str]; rfl), .inl (by rw [renO_str]; rfl), .inl (by rw [renO_str]; rfl), .inl (by rw [renO_str]; rfl), .inl (by rw [renO_mp]; rfl), .inl (by rw [renO_mp]; rfl), .inl (by rw [renO_mp]; rfl), .inl (by rw [renO_mp]; rfl), .inl (by rw [renO_want]; rfl), True.intro⟩, rfl, rfl, rfl⟩
      · rw [quo6 g, hd_eq, rem6] at hq
        have hw := want1_miss (w := w1) hpp (fun h => by rw [pick_eq.2 h] at hq; cases hq)
        exact hK2 ⟨i + 1, g2⟩ [0, 1, 2, 3, 4, 5, 6, 7, 8, 9, 10, 11] _ (show ps.length - i = ps.length - (i + 1) + 1 by omega) ⟨⟨rfl, rfl, rfl, rfl, congrArg str hw.symm, congrArg i64 (wincQ (by omega)), True.intro⟩, ⟨.inl rfl, .inl rfl, .inl rfl, .inl (by rw [renO_str]; rfl), .inl (by rw [renO_str]; rfl), .inl (by rw [renO_str]; rfl), .inl (by rw [renO_str]; rfl), .inl (by rw [renO_mp]; rfl), .inl (by rw [renO_mp]; rfl), .inl (by rw [renO_mp]; rfl), .inl (by rw [renO_mp]; rfl), .inl (by rw [renO_want]; rfl), True.intro⟩, rfl, rfl, rfl⟩
    · have e6 : i = ps.length := by have : ¬ (i : Int) < (ps.length : Int) := h2; omega
      subst e6
      rw [List.take_length]
      refine Ob.intro rfl ?_
      refine optK_intro (a := (wantL w1 ps j).map str) ?_ ?_
      · exact rdN_all rfl (by rw [List.length_map, wantL_len]; omega)
      refine Ob.intro (show (j + 1) * 16 ≤ 140737488355328 ∧ j + 1 ≤ 9223372036854775807 by omega) ?_
      exact hK ⟨j + 1, g⟩ [0, 1, 2, 3, 4, 5, 6, 7, 8, 9, 10, 13] _ (show 24 - j = 24 - (j + 1) + 1 by omega) ⟨⟨rfl, rfl, rfl, congrArg i64 (wincQ (by omega)), True.intro⟩, ⟨.inl rfl, .inl rfl, .inl rfl, .inl (by rw [renO_str]; rfl), .inl (by rw [renO_str]; rfl), .inl (by rw [renO_str]; rfl), .inl (by rw [renO_str]; rfl), .inl (by rw [renO_mp]; rfl), .inl (by rw [renO_mp]; rfl), .inl (by rw [renO_mp]; rfl), .inl (by rw [renO_mp]; rfl), .inl (by rw [renO_want]; exact congrArg (fun l => some (AObj.row l)) (wantL_succ w1 ps j).symm), True.intro⟩, rfl, rfl, rfl⟩
  · have e6 : j = 24 := by have : ¬ (j : Int) < 24 := h; omega
    subst e6
    clear hK
    obtain ⟨w2, hw2⟩ : ∃ w, w = (w1.crash ps).2 := ⟨_, rfl⟩
    have i2 : w2.is 4 6 := hw2 ▸ crash_is i1 ps
    have c4 := crashW w1 i1.ok (by rw [i1.n]; omega) ps (by omega)
    rw [crash_0 ps o1, ← hw2] at c4
    obtain ⟨w3, hw3⟩ : ∃ w, w = w2.start.2 := ⟨_, rfl⟩
    have i3 : w3.is 4 6 := hw3 ▸ start_is i2
    have o3 : w3.off = false := by rw [hw3]; rfl
    have c5 := startW w2 i2.ok (by rw [i2.n]; omega)
    rw [show w2.start.1 = 0 from if_pos (by rw [hw2, crash_off]), ← hw3] at c5
    refine callT_4 (E := [wantO w1 ps 24]) c4 e1 i2 rfl rfl (fun o' x0 x1 x2 x3 y0 y1 y2 y3 e2 => ?_)
    refine callT_4 (E := [wantO w1 ps 24]) c5 e2 i3 rfl rfl (fun o' x0 x1 x2 x3 y0 y1 y2 y3 e3 => ?_)
    clear c4 c5
    refine loopI (α := { j : Nat // j ≤ 24 }) (fun z => [(5, .ptr 0 0), (8, .slc 11 0 24 1), (13, i64 (z.val : Nat))]) (fun z => (Wd.mk o' 6 [x0, x1, x2, x3] [y0, y1, y2, y3]).H ++ [wantO w1 ps 24]) (fun z => 24 - z.val) ⟨0, Nat.zero_le 24⟩ [0, 1, 2, 3, 4, 5, 6, 7, 8, 9, 10, 11] ⟨⟨rfl, rfl, rfl, True.intro⟩, ⟨.inl rfl, .inl rfl, .inl rfl, .inl (by rw [renO_str]; rfl), .inl (by rw [renO_str]; rfl), .inl (by rw [renO_str]; rfl), .inl (by rw [renO_str]; rfl), .inl (by rw [renO_mp]; rfl), .inl (by rw [renO_mp]; rfl), .inl (by rw [renO_mp]; rfl), .inl (by rw [renO_mp]; rfl), .inl (by rw [renO_want]; rfl), True.intro⟩, rfl, rfl, rfl⟩ ?_
    rintro ⟨j, hj⟩ K3 hK
    dsimp only at hj ⊢
    refine forkD (fun h => ?_) (fun h => ?_)
    · have g : j < 24 := by have : (j : Int) < 24 := h; omega
      have c6 := readW w3 i3.ok (j / 6 : Nat) (j % 6 : Nat)
      have hm : w3.m (j / 6 : Nat) (j % 6 : Nat) = none := by rw [hw3, start_m, hw2, crash_m ps o1]
      have hd0 : w3.d (j / 6 : Nat) (j % 6 : Nat) = want1 w1 ps j := by rw [hw3, start_d, hw2, crash_d i1 o1 ps (in24 g)]; rfl
      rw [read_0 (i3.err0.2 ⟨o3, in24 g⟩), hm, hd0] at c6
      replace c6 : ACalls Try.prog 12 [.ptr 0 0, i64 (wrp .i64 ((j : Int).tdiv 6)), i64 (hd ((j : Int).tmod 6))] w3.H (RetH (.tup [str (want1 w1 ps j), i64 0]) w3.H) := by rw [quo6 g, hd_eq]; exact c6
      have c7 := wetW w3 i3.ok (j / 6 : Nat) ⟨(in24 g).1.1, by rw [i3.n]; exact (in24 g).1.2⟩
      rw [hw3, hw2, crash_wet o1 ps, ← hw2, ← hw3] at c7
      replace c7 : ACalls Try.prog 15 [.ptr 0 0, i64 (wrp .i64 ((j : Int).tdiv 6))] w3.H (RetH (.view 0 []) w3.H) := by rw [quo6 g]; exact c7
      refine Ob.intro six ?_
      refine Ob.intro six ?_
      refine callU_4 (E := [wantO w1 ps 24]) c6 e3 e3 i3 rfl rfl ?_
      refine Ob.intro (show (0 : Int) ≤ (j : Nat) ∧ ((j : Nat) : Int) < (24 : Nat) by omega) ?_
      refine optK_intro (rd_str (R := wantL w1 ps 24) (k := j) rfl (by omega) (wantL_get w1 ps g)) ?_
      refine fork (fun h => ?_) (fun _ => ?_)
      · rw [strEq_iff.2 rfl] at h
        cases h
      refine Ob.intro six ?_
      refine callU_4 (E := [wantO w1 ps 24]) c7 e3 e3 i3 rfl rfl ?_
      exact hK ⟨j + 1, g⟩ [0, 1, 2, 3, 4, 5, 6, 7, 8, 9, 10, 11] _ (show 24 - j = 24 - (j + 1) + 1 by omega) ⟨⟨rfl, rfl, congrArg i64 (wincQ (by omega)), True.intro⟩, ⟨.inl rfl, .inl rfl, .inl rfl, .inl (by rw [renO_str]; rfl), .inl (by rw [renO_str]; rfl), .inl (by rw [renO_str]; rfl), .inl (by rw [renO_str]; rfl), .inl (by rw [renO_mp]; rfl), .inl (by rw [renO_mp]; rfl), .inl (by rw [renO_mp]; rfl), .inl (by rw [renO_mp]; rfl), .inl (by rw [renO_want]; rfl), True.intro⟩, rfl, rfl, rfl⟩
    · exact end0 rfl rfl rfl rfl
theorem extentPicks_big (L : List Xa) (ps : List (Int × Int)) (hp : ¬ ps.length ≤ 100) : ACalls Try.prog 4 [.view L.length (flat xaC L), pkV ps] [] (Ret (bo true)) := by
  refine acalls_of_awp hT mixed Try.func4 rfl (by kernel_rfl) (by kernel_rfl) (Nat.le_of_ble_eq_true rfl) ?_
  refine callP awakeX_ok rfl rfl ?_
  refine forkD (fun _ => ?_) (fun h => ?_)
  · exact end0 rfl rfl rfl rfl
  · exact absurd (show (ps.length : Int) > 100 by omega) h
theorem extentPicks_law (l0 : List AV) (w0 : Wf (.slice (.strct (.cons (.int .i64) (.cons (.int .i64) (.cons (.int .i64) (.cons .str (.cons (.slice (.strct (.cons (.int .i64) (.cons (.int .i64) .none)))) .none))))))) l0) (l1 : List AV) (w1 : Wf (.slice (.strct (.cons (.int .i64) (.cons (.int .i64) .none)))) l1) : ACalls Try.prog 4 [argA (.slice (.strct (.cons (.int .i64) (.cons (.int .i64) (.cons (.int .i64) (.cons .str (.cons (.slice (.strct (.cons (.int .i64) (.cons (.int .i64) .none)))) .none))))))) l0, argA (.slice (.strct (.cons (.int .i64) (.cons (.int .i64) .none)))) l1] [] (Ret (.sc (.bool true))) := by
  obtain ⟨L, rfl, _, _⟩ := wf_acts w0
  obtain ⟨ps, rfl, _⟩ := wf_picks w1
  by_cases hp : ps.length ≤ 100
  · exact extentPicks_ok L ps hp
  · exact extentPicks_big L ps hp
end Go.Proofs.Ytpkbdlocmjgmbaa.A
