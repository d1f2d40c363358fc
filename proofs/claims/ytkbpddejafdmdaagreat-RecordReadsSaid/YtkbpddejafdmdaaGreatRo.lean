/- record: entries; based. No condition. -/
import Derived.Test.YtkbpddejafdmdaaGreatRk
namespace Go.Proofs.YtkbpddejafdmdaaGreat.A
open Go
set_option linter.unusedVariables false
set_option linter.unusedSimpArgs false
set_option maxRecDepth 100000
set_option pp.maxSteps 400

/-- An entry: its key, its number, its value. -/
structure En where
  k : ByteArray
  q : Int
  n : Bool
  t : ByteArray
  b : Nat
def enC (w : En) : List AV := [str w.k, i64 w.q, bo w.n, str w.t, u64n w.b]
theorem enC_len (w : En) : (enC w).length = 5 := rfl
def enV (L : List En) : AV := .view L.length (flat enC L)
def okE (q : Int) (w : En) : Bool := keyB w.k && (decide (1 ≤ w.q ∧ w.q ≤ q) && rightV w.n w.t w.b)
def okAtE (q : Int) (L : List En) (j : Nat) : Bool := match L[j]? with
  | none => true
  | some w => okE q w && (match j with
    | 0 => true
    | i + 1 => match L[i]? with
      | some p => strLt p.k w.k
      | none => true)
def basedB (q : Int) (L : List En) : Bool := decide ((0 ≤ q ∧ q ≤ 1073741824) ∧ ∀ j, j < L.length → okAtE q L j = true)
theorem based_bad {q : Int} {L : List En} {j : Nat} (hj : j < L.length) (h : okAtE q L j = false) : basedB q L = false := decide_eq_false fun hh => by have := hh.2 j hj; rw [h] at this; cases this
theorem based_good {q : Int} {L : List En} (h : ∀ j, j < L.length → okAtE q L j = true) : basedB q L = decide (0 ≤ q ∧ q ≤ 1073741824) := by
  unfold basedB
  congr 1
  simp only [eq_iff_iff]
  exact ⟨fun hh => hh.1, fun hh => ⟨hh, h⟩⟩
theorem okAtE_0 {q : Int} {L : List En} {w : En} (h : L[0]? = some w) : okAtE q L 0 = okE q w := by unfold okAtE; rw [h]; simp
theorem okAtE_s {q : Int} {L : List En} {i : Nat} {p w : En} (hp : L[i]? = some p) (h : L[i + 1]? = some w) : okAtE q L (i + 1) = (okE q w && strLt p.k w.k) := by unfold okAtE; rw [h]; simp only [hp]
theorem okAtE_no {q : Int} {L : List En} {j : Nat} {w : En} (h : L[j]? = some w) (hw : okE q w = false) : okAtE q L j = false := by unfold okAtE; rw [h]; simp only [hw, Bool.false_and]
def GoodToE (q : Int) (L : List En) (j : Nat) : Prop := j ≤ L.length ∧ ∀ i, i < j → okAtE q L i = true
theorem good_nextE {q : Int} {L : List En} {j : Nat} {w : En} (h : GoodToE q L j) (hw : L[j]? = some w) (hk : okAtE q L j = true) : GoodToE q L (j + 1) := by
  refine ⟨(List.getElem?_eq_some_iff.1 hw).1, fun i hi => ?_⟩
  by_cases hij : i = j
  · rw [hij]; exact hk
  · exact h.2 i (by omega)
set_option maxHeartbeats 4000000 in
theorem based_ok (q : Int) (L : List En) (hl : L.length < 9223372036854775807) : ACalls Tryz.prog 36 [i64 q, enV L] [] (Ret (bo (basedB q L))) := by
  refine acalls_of_awp hT mixed Tryz.func36 rfl (by kernel_rfl) (by kernel_rfl) (Nat.le_of_ble_eq_true rfl) ?_
  refine loopI (α := { j : Nat // GoodToE q L j }) (fun x => [(0, i64 q), (1, enV L), (7, enV L), (8, i64 L.length), (9, i64 (x.val : Nat))]) (fun _ => []) (fun x => L.length - x.val) ⟨0, Nat.zero_le _, fun i hi => absurd hi (by omega)⟩ [] ⟨⟨rfl, rfl, rfl, rfl, rfl, True.intro⟩, True.intro, rfl, rfl, rfl⟩ ?_
  rintro ⟨j, hst⟩ K hK
  have hj := hst.1
  have hinc : wrp .i64 ((j : Int) + 1) = ((j + 1 : Nat) : Int) := by rw [wrpE, wi64]; omega
  refine forkD (fun h => ?_) (fun h => ?_)
  · have h' : j < L.length := by have : (j : Int) < (L.length : Int) := h; omega
    obtain ⟨w, hw⟩ : ∃ w, L[j]? = some w := ⟨_, List.getElem?_eq_getElem h'⟩
    have hik : (0 : Int) ≤ (j : Nat) ∧ ((j : Nat) : Int) < (L.length : Nat) := by omega
    have c0 : (1 : Nat) = 1 := rfl
    have c1 : (1 : Nat) = 1 := rfl
    have c2 : (1 : Nat) = 1 := rfl
    refine Ob.intro hik ?_
    refine optK_intro (flat_takeN enC_len hw) ?_
    obtain ⟨k, s, n, t, b⟩ := w
    have hkz := strEq_nil k
    have e1 : ∀ {x : Bool}, rightV n t b = x → ACalls Tryz.prog 53 [.agg [bo n, str t, u64n b]] [] (Ret (bo x)) := fun h => vright_q h
    refine ⟨[0, 0, 0, 0, 0, 0, 0, 0, 0, 0, 0, 0, 0, 0, 0, 0, 0, 0, 0, 0, 0, 0, 0, 1, 1, 1, 1, 1, 1, 1, 1, 1, 1, 1, 1, 1, 1, 1, 1, 1, 1], [[], [0], [0, 1], [0, 1, 2], [0, 1, 2, 3], [0, 1, 2, 3, 4], [0, 1, 2, 3, 4, 5], [0, 1, 2, 3, 4, 5, 6], [0, 1, 2, 3, 4, 5, 6, 7], [0, 1, 2, 3, 4, 5, 6, 7, 8], [0, 1, 2, 3, 4, 5, 6, 7, 8, 9], [0, 1, 2, 3, 4, 5, 6, 7, 8, 9, 10], [0, 1, 2, 3, 4, 5, 6, 7, 8, 9, 10, 11], [0, 1, 2, 3, 4, 5, 6, 7, 8, 9, 10, 11, 12], [0, 1, 2, 3, 4, 5, 6, 7, 8, 9, 10, 11, 12, 13], [0, 1, 2, 3, 4, 5, 6, 7, 8, 9, 10, 11, 12, 13, 14], [0, 1, 2, 3, 4, 5, 6, 7, 8, 9, 10, 11, 12, 13, 14, 15], [0, 1, 2, 3, 4, 5, 6, 7, 8, 9, 10, 11, 12, 13, 14], [0, 1, 2, 3, 4, 5, 6, 7, 8, 9, 10, 11, 12, 13, 14, 15, 16, 17], [0, 1, 2, 3, 4, 5, 6, 7, 8, 9, 10, 11, 12, 13, 14, 15, 16, 17, 18], [0, 1, 2, 3, 4, 5, 6, 7, 8, 9, 10, 11, 12, 13, 14, 15, 16, 17, 18, 19], [0, 1, 2, 3, 4, 5, 6, 7, 8, 9, 10, 11, 12, 13, 14, 15, 16, 17, 18, 19, 20], [0, 1, 2, 3, 4, 5, 6, 7, 8, 9, 10, 11, 12, 13, 14, 15, 16, 17, 18, 19, 20, 21], [0, 1, 2, 3, 4, 5, 6, 7, 8, 9, 10, 11, 12, 13, 14, 15, 16, 17, 18, 19, 20, 21, 22], [0, 1, 2, 3, 4, 5, 6, 7, 8, 9, 10, 11, 12, 13, 14, 15, 16, 17, 18, 19, 20, 21, 22, 23], [0, 1, 2, 3, 4, 5, 6, 7, 8, 9, 10, 11, 12, 13, 14, 15, 16, 17, 18, 19, 20, 21, 22, 23, 24], [0, 1, 2, 3, 4, 5, 6, 7, 8, 9, 10, 11, 12, 13, 14, 15, 16, 17, 18, 19, 20, 21, 22, 23, 24, 25], [0, 1, 2, 3, 4, 5, 6, 7, 8, 9, 10, 11, 12, 13, 14, 15, 16, 17, 18, 19, 20, 21, 22, 23, 24, 25, 26], [0, 1, 2, 3, 4, 5, 6, 7, 8, 9, 10, 11, 12, 13, 14, 15, 16, 17, 18, 19, 20, 21, 22, 23, 24, 25, 26, 27], [0, 1, 2, 3, 4, 5, 6, 7, 8, 9, 10, 11, 12, 13, 14, 15, 16, 17, 18, 19, 20, 21, 22, 23, 24, 25, 26, 27, 28], [0, 1, 2, 3, 4, 5, 6, 7, 8, 9, 10, 11, 12, 13, 14, 15, 16, 17, 18, 19, 20, 21, 22, 23, 24, 25, 26, 27, 28, 29], [0, 1, 2, 3, 4, 5, 6, 7, 8, 9, 10, 11, 12, 13, 14, 15, 16, 17, 18, 19, 20, 21, 22, 23, 24, 25, 26, 27, 28, 29], [0, 1, 2, 3, 4, 5, 6, 7, 8, 9, 10, 11, 12, 13, 14, 15, 16, 17, 18, 19, 20, 21, 22, 23, 24, 25, 26, 27, 28, 29, 31], [0, 1, 2, 3, 4, 5, 6, 7, 8, 9, 10, 11, 12, 13, 14, 15, 16, 17, 18, 19, 20, 21, 22, 23, 24, 25, 26, 27, 28, 29, 30, 31, 32], [0, 1, 2, 3, 4, 5, 6, 7, 8, 9, 10, 11, 12, 13, 14, 15, 16, 17, 18, 19, 20, 21, 22, 23, 24, 25, 26, 27, 28, 29, 30, 31, 32, 33], [0, 1, 2, 3, 4, 5, 6, 7, 8, 9, 10, 11, 12, 13, 14, 15, 16, 17, 18, 19, 20, 21, 22, 23, 24, 25, 26, 27, 28, 29, 30, 31, 32, 33, 34], [0, 1, 2, 3, 4, 5, 6, 7, 8, 9, 10, 11, 12, 13, 14, 15, 16, 17, 18, 19, 20, 21, 22, 23, 24, 25, 26, 27, 28, 29], [0, 1, 2, 3, 4, 5, 6, 7, 8, 9, 10, 11, 12, 13, 14, 15, 16, 17, 18, 19, 20, 21, 22, 23, 24, 25, 26, 27, 28, 29, 36], [0, 1, 2, 3, 4, 5, 6, 7, 8, 9, 10, 11, 12, 13, 14, 15, 16, 17, 18, 19, 20, 21, 22, 23, 24, 25, 26, 27, 28, 29, 30, 31, 32, 33, 34, 35, 36, 37], [0, 1, 2, 3, 4, 5, 6, 7, 8, 9, 10, 11, 12, 13, 14, 15, 16, 17, 18, 19, 20, 21, 22, 23, 24, 25, 26, 27, 28, 29, 30, 31, 32, 33, 34, 35, 36, 37, 38], [0, 1, 2, 3, 4, 5, 6, 7, 8, 9, 10, 11, 12, 13, 14, 15, 16, 17, 18, 19, 20, 21, 22, 23, 24, 25, 26, 27, 28, 29, 30, 31, 32, 33, 34, 35, 36, 37, 38, 39]], [0, 0, 0, 0, 0, 0, 0, 0, 0, 0, 0, 0, 0, 0, 0, 0, 0, 0, 0, 0, 0, 0, 0, 0, 0, 0, 0, 0, 0, 0, 0, 0, 0, 0, 0, 0, 0, 0, 0, 0, 0], [23], [[6], [14], [15], [16], [6, 17], [18, 17], [19, 17], [20, 17], [17, 21], [22], [6, 23], [24, 23], [25, 23], [23, 26], [27], [6, 28], [29, 28], [0, 28], [30, 31, 28], [28, 32], [33], [6, 34], [35, 34], [36, 34], [37, 34], [34, 38], [39], [5, 40], [41, 40], [42, 40], [1, 43], [5, 43], [45, 43], [44, 46, 43], [47, 43], [48, 43], [6, 43], [50, 43], [49, 51, 43], [43, 52, 40], [40, 53]], Ob.intro (by kernel_rfl) ?_⟩
    repeat first | refine same ?_ | refine Ob.intro hik ?_ | refine optK_intro c0 ?_ | refine optK_intro c1 ?_ | refine optK_intro c2 ?_
    refine fork (fun g => ?_) (fun g => ?_)
    · have hk : keyB k = false := by
        rw [hkz] at g
        exact decide_eq_false (by have := of_decide_eq_true g; omega)
      rw [based_bad h' (okAtE_no hw (by unfold okE; simp only [hk, Bool.false_and]))]
      repeat first | refine same ?_ | refine Ob.intro hik ?_ | refine optK_intro c0 ?_ | refine optK_intro c1 ?_ | refine optK_intro c2 ?_
      refine end0 rfl rfl rfl rfl
    repeat first | refine same ?_ | refine Ob.intro hik ?_ | refine optK_intro c0 ?_ | refine optK_intro c1 ?_ | refine optK_intro c2 ?_
    refine forkD (fun g2 => ?_) (fun g2 => ?_)
    · have hk : keyB k = false := decide_eq_false (by have : (k.size : Int) > 32 := g2; omega)
      rw [based_bad h' (okAtE_no hw (by unfold okE; simp only [hk, Bool.false_and]))]
      repeat first | refine same ?_ | refine Ob.intro hik ?_ | refine optK_intro c0 ?_ | refine optK_intro c1 ?_ | refine optK_intro c2 ?_
      refine end0 rfl rfl rfl rfl
    have hk : keyB k = true := by
      rw [hkz] at g
      exact decide_eq_true (by have := of_decide_eq_false g; have : ¬ (k.size : Int) > 32 := g2; omega)
    repeat first | refine same ?_ | refine Ob.intro hik ?_ | refine optK_intro c0 ?_ | refine optK_intro c1 ?_ | refine optK_intro c2 ?_
    refine forkD (fun g3 => ?_) (fun g3 => ?_)
    · have hs : decide (1 ≤ s ∧ s ≤ q) = false := decide_eq_false (by have : s < 1 := g3; omega)
      rw [based_bad h' (okAtE_no hw (by unfold okE; simp only [hk, hs, Bool.false_and, Bool.true_and]))]
      repeat first | refine same ?_ | refine Ob.intro hik ?_ | refine optK_intro c0 ?_ | refine optK_intro c1 ?_ | refine optK_intro c2 ?_
      refine end0 rfl rfl rfl rfl
    repeat first | refine same ?_ | refine Ob.intro hik ?_ | refine optK_intro c0 ?_ | refine optK_intro c1 ?_ | refine optK_intro c2 ?_
    refine forkD (fun g4 => ?_) (fun g4 => ?_)
    · have hs : decide (1 ≤ s ∧ s ≤ q) = false := decide_eq_false (by have : s > q := g4; omega)
      rw [based_bad h' (okAtE_no hw (by unfold okE; simp only [hk, hs, Bool.false_and, Bool.true_and]))]
      repeat first | refine same ?_ | refine Ob.intro hik ?_ | refine optK_intro c0 ?_ | refine optK_intro c1 ?_ | refine optK_intro c2 ?_
      refine end0 rfl rfl rfl rfl
    have hs : decide (1 ≤ s ∧ s ≤ q) = true := decide_eq_true (by have : ¬ s < 1 := g3; have : ¬ s > q := g4; omega)
    repeat first | refine same ?_ | refine Ob.intro hik ?_ | refine optK_intro c0 ?_ | refine optK_intro c1 ?_ | refine optK_intro c2 ?_
    cases hr : rightV n t b with
    | false =>
      refine callP (e1 hr) rfl rfl ?_
      rw [based_bad h' (okAtE_no hw (by unfold okE; simp only [hk, hs, hr, Bool.true_and]))]
      repeat first | refine same ?_ | refine Ob.intro hik ?_ | refine optK_intro c0 ?_ | refine optK_intro c1 ?_ | refine optK_intro c2 ?_
      refine end0 rfl rfl rfl rfl
    | true =>
      refine callP (e1 hr) rfl rfl ?_
      have ho : okE q ⟨k, s, n, t, b⟩ = true := by unfold okE; simp only [hk, hs, hr, Bool.true_and]
      repeat first | refine same ?_ | refine Ob.intro hik ?_ | refine optK_intro c0 ?_ | refine optK_intro c1 ?_ | refine optK_intro c2 ?_
      refine forkD (fun gj => ?_) (fun gj => ?_)
      · obtain ⟨i, rfl⟩ : ∃ i, j = i + 1 := ⟨j - 1, by have : (j : Int) > 0 := gj; omega⟩
        have hdec : wrp .i64 (((i + 1 : Nat) : Int) - 1) = ((i : Nat) : Int) := by rw [wrpE, wi64]; omega
        obtain ⟨p, hp⟩ : ∃ p, L[i]? = some p := ⟨_, List.getElem?_eq_getElem (by omega)⟩
        have hpa := okAtE_s (q := q) hp hw
        rw [ho, Bool.true_and] at hpa
        have hbi : (0 : Int) ≤ wrp .i64 (((i + 1 : Nat) : Int) - 1) ∧ wrp .i64 (((i + 1 : Nat) : Int) - 1) < ((L.length : Nat) : Int) := by rw [hdec]; omega
        have hc : ∀ w : Int, w = ((i : Nat) : Int) → nth (List.drop (w.toNat * 5) (flat enC L)) 0 = some (str p.k) := by rintro _ rfl; exact cellF0 enC_len hp rfl
        repeat first | refine same ?_ | refine Ob.intro hbi ?_ | refine Ob.intro hik ?_ | refine optK_intro (hc _ hdec) ?_ | refine optK_intro c0 ?_ | refine optK_intro c1 ?_ | refine optK_intro c2 ?_
        refine fork (fun gl => ?_) (fun gl => ?_)
        · rw [based_bad h' (by rw [hpa]; simpa using gl)]
          repeat first | refine same ?_ | refine Ob.intro hbi ?_ | refine Ob.intro hik ?_ | refine optK_intro (hc _ hdec) ?_ | refine optK_intro c0 ?_ | refine optK_intro c1 ?_ | refine optK_intro c2 ?_
          refine end0 rfl rfl rfl rfl
        · repeat first | refine same ?_ | refine Ob.intro hbi ?_ | refine Ob.intro hik ?_ | refine optK_intro (hc _ hdec) ?_ | refine optK_intro c0 ?_ | refine optK_intro c1 ?_ | refine optK_intro c2 ?_
          refine hK ⟨_, good_nextE hst hw (by rw [hpa]; simpa using gl)⟩ [] _ (show L.length - (i + 1) = L.length - ((i + 1) + 1) + 1 by omega) ⟨⟨rfl, rfl, rfl, rfl, congrArg i64 hinc, True.intro⟩, True.intro, rfl, rfl, rfl⟩
      · have hj0 : j = 0 := by have : ¬ (j : Int) > 0 := gj; omega
        subst hj0
        repeat first | refine same ?_ | refine Ob.intro hik ?_ | refine optK_intro c0 ?_ | refine optK_intro c1 ?_ | refine optK_intro c2 ?_
        refine hK ⟨_, good_nextE hst hw (by rw [okAtE_0 hw]; exact ho)⟩ [] _ (show L.length - 0 = L.length - (0 + 1) + 1 by omega) ⟨⟨rfl, rfl, rfl, rfl, congrArg i64 hinc, True.intro⟩, True.intro, rfl, rfl, rfl⟩
  · have h' : j = L.length := by have : ¬ (j : Int) < (L.length : Int) := h; omega
    rw [based_good fun i hi => hst.2 i (by omega)]
    refine forkD (fun g => ?_) (fun g => ?_)
    · refine forkD (fun u => ?_) (fun u => ?_)
      · refine end0 rfl rfl rfl (congrArg bo (decide_eq_true ⟨g, u⟩).symm)
      · refine end0 rfl rfl rfl (congrArg bo (decide_eq_false fun hh => u hh.2).symm)
    · refine end0 rfl rfl rfl (congrArg bo (decide_eq_false fun hh => g hh.1).symm)
set_option maxHeartbeats 4000000 in
theorem rbased_ok (q : Int) (L : List En) (hl : L.length < 9223372036854775807) (hb : ∀ w ∈ L, w.b < 18446744073709551616) : ACalls Tryz.prog 26 [i64 q, enV L] [] (Ret (bo (basedB q L))) := by
  refine acalls_of_awp hT mixed Tryz.func26 rfl (by kernel_rfl) (by kernel_rfl) (Nat.le_of_ble_eq_true rfl) ?_
  refine loopI (α := { j : Nat // GoodToE q L j }) (fun x => [(0, i64 q), (1, enV L), (5, i64 (x.val : Nat))]) (fun _ => []) (fun x => L.length - x.val) ⟨0, Nat.zero_le _, fun i hi => absurd hi (by omega)⟩ [] ⟨⟨rfl, rfl, rfl, True.intro⟩, True.intro, rfl, rfl, rfl⟩ ?_
  rintro ⟨j, hst⟩ K hK
  have hj := hst.1
  have hinc : wrp .i64 ((j : Int) + 1) = ((j + 1 : Nat) : Int) := by rw [wrpE, wi64]; omega
  refine forkD (fun h => ?_) (fun h => ?_)
  · have h' : j < L.length := by have : (j : Int) < (L.length : Int) := h; omega
    obtain ⟨w, hw⟩ : ∃ w, L[j]? = some w := ⟨_, List.getElem?_eq_getElem h'⟩
    have hik : (0 : Int) ≤ (j : Nat) ∧ ((j : Nat) : Int) < (L.length : Nat) := by omega
    have hwb := hb w (List.mem_of_getElem? hw)
    obtain ⟨k, s, n, t, b⟩ := w
    have c0 := cellF0 enC_len hw (a := str k) rfl
    have c1 := cellF enC_len hw 1 (a := i64 s) rfl
    have c2 := cellsF enC_len hw 2 3 (cs := [bo n, str t, u64n b]) rfl (by decide)
    cases hk : keyB k with
    | false =>
      refine ⟨[0, 0, 0, 0, 0, 1, 1, 1, 1, 1, 1, 1, 1, 1, 1, 1, 1, 1, 1, 1, 1, 1, 1, 1, 1, 1, 1, 1, 1, 1, 2, 2, 2, 2, 2, 2, 2, 2, 2, 2, 2, 2, 2, 2, 2, 2, 2, 2, 2, 2, 2], [[], [], [0, 1], [0, 1, 2], [0, 1, 2, 3], [0, 1, 2, 3, 4], [0, 1, 2, 3, 4, 5], [0, 1, 2, 3, 4, 5, 6], [0, 1, 2, 3, 4, 5, 6, 7], [0, 1, 2, 3, 4, 5, 6, 7], [0, 1, 2, 3, 4, 5, 6, 7, 8, 9], [0, 1, 2, 3, 4, 5, 6, 7, 8, 9, 10], [0, 1, 2, 3, 4, 5, 6, 7, 8, 9, 10, 11], [0, 1, 2, 3, 4, 5, 6, 7, 8, 9, 10, 11, 12], [0, 1, 2, 3, 4, 5, 6, 7, 8, 9, 10, 11, 12, 13], [0, 1, 2, 3, 4, 5, 6, 7, 8, 9, 10, 11, 12, 13, 14], [0, 1, 2, 3, 4, 5, 6, 7, 8, 9, 10, 11, 12, 13, 14, 15], [0, 1, 2, 3, 4, 5, 6, 7, 8, 9, 10, 11, 12, 13, 14, 15], [0, 1, 2, 3, 4, 5, 6, 7, 8, 9, 10, 11, 12, 13, 14, 15, 16, 17], [0, 1, 2, 3, 4, 5, 6, 7, 8, 9, 10, 11, 12, 13, 14, 15, 16, 17, 18], [0, 1, 2, 3, 4, 5, 6, 7, 8, 9, 10, 11, 12, 13, 14, 15, 16, 17, 18, 19], [0, 1, 2, 3, 4, 5, 6, 7, 8, 9, 10, 11, 12, 13, 14, 15], [0, 1, 2, 3, 4, 5, 6, 7, 8, 9, 10, 11, 12, 13, 14, 15, 16, 17, 18, 19, 20, 21], [0, 1, 2, 3, 4, 5, 6, 7, 8, 9, 10, 11, 12, 13, 14, 15, 16, 17, 18, 19, 20, 21, 22], [0, 1, 2, 3, 4, 5, 6, 7, 8, 9, 10, 11, 12, 13, 14, 15, 16, 17, 18, 19, 20, 21, 22, 23], [0, 1, 2, 3, 4, 5, 6, 7, 8, 9, 10, 11, 12, 13, 14, 15, 16, 17, 18, 19, 20, 21, 22, 23, 24], [0, 1, 2, 3, 4, 5, 6, 7, 8, 9, 10, 11, 12, 13, 14, 15, 16, 17, 18, 19, 20, 21, 22, 23, 24], [0, 1, 2, 3, 4, 5, 6, 7, 8, 9, 10, 11, 12, 13, 14, 15, 16, 17, 18, 19, 20, 21, 22, 23, 24, 25, 26], [0, 1, 2, 3, 4, 5, 6, 7, 8, 9, 10, 11, 12, 13, 14, 15, 16, 17, 18, 19, 20, 21, 22, 23, 24, 25, 26, 27], [0, 1, 2, 3, 4, 5, 6, 7, 8, 9, 10, 11, 12, 13, 14, 15, 16, 17, 18, 19, 20, 21, 22, 23, 24, 25, 26, 27, 28], [0, 1, 2, 3, 4, 5, 6, 7, 8, 9, 10, 11, 12, 13, 14, 15, 16, 17, 18, 19, 20, 21, 22, 23, 24, 25, 26, 27, 28, 29], [0, 1, 2, 3, 4, 5, 6, 7, 8, 9, 10, 11, 12, 13, 14, 15, 16, 17, 18, 19, 20, 21, 22, 23, 24, 25, 26, 27, 28, 29, 30], [0, 1, 2, 3, 4, 5, 6, 7, 8, 9, 10, 11, 12, 13, 14, 15, 16, 17, 18, 19, 20, 21, 22, 23, 24, 25, 26, 27, 28, 29, 30, 31], [0, 1, 2, 3, 4, 5, 6, 7, 8, 9, 10, 11, 12, 13, 14, 15, 16, 17, 18, 19, 20, 21, 22, 23, 24, 25, 26, 27, 28, 29, 30, 31, 32], [0, 1, 2, 3, 4, 5, 6, 7, 8, 9, 10, 11, 12, 13, 14, 15, 16, 17, 18, 19, 20, 21, 22, 23, 24, 25, 26, 27, 28, 29, 30, 31, 32, 33], [0, 1, 2, 3, 4, 5, 6, 7, 8, 9, 10, 11, 12, 13, 14, 15, 16, 17, 18, 19, 20, 21, 22, 23, 24, 25, 26, 27, 28, 29, 30, 31, 32, 33, 34], [0, 1, 2, 3, 4, 5, 6, 7, 8, 9, 10, 11, 12, 13, 14, 15, 16, 17, 18, 19, 20, 21, 22, 23, 24, 25, 26, 27, 28, 29, 30, 31, 32, 33, 34, 35], [0, 1, 2, 3, 4, 5, 6, 7, 8, 9, 10, 11, 12, 13, 14, 15, 16, 17, 18, 19, 20, 21, 22, 23, 24, 25, 26, 27, 28, 29, 30, 31, 32, 33, 34, 35, 36], [0, 1, 2, 3, 4, 5, 6, 7, 8, 9, 10, 11, 12, 13, 14, 15, 16, 17, 18, 19, 20, 21, 22, 23, 24, 25, 26, 27, 28, 29, 30, 31, 32, 33, 34, 35, 36], [0, 1, 2, 3, 4, 5, 6, 7, 8, 9, 10, 11, 12, 13, 14, 15, 16, 17, 18, 19, 20, 21, 22, 23, 24, 25, 26, 27, 28, 29, 30, 31, 32, 33, 34, 35, 36, 38], [0, 1, 2, 3, 4, 5, 6, 7, 8, 9, 10, 11, 12, 13, 14, 15, 16, 17, 18, 19, 20, 21, 22, 23, 24, 25, 26, 27, 28, 29, 30, 31, 32, 33, 34, 35, 36, 37, 38, 39], [0, 1, 2, 3, 4, 5, 6, 7, 8, 9, 10, 11, 12, 13, 14, 15, 16, 17, 18, 19, 20, 21, 22, 23, 24, 25, 26, 27, 28, 29, 30, 31, 32, 33, 34, 35, 36, 37, 38, 39, 40], [0, 1, 2, 3, 4, 5, 6, 7, 8, 9, 10, 11, 12, 13, 14, 15, 16, 17, 18, 19, 20, 21, 22, 23, 24, 25, 26, 27, 28, 29, 30, 31, 32, 33, 34, 35, 36, 37, 38, 39, 40, 41], [0, 1, 2, 3, 4, 5, 6, 7, 8, 9, 10, 11, 12, 13, 14, 15, 16, 17, 18, 19, 20, 21, 22, 23, 24, 25, 26, 27, 28, 29, 30, 31, 32, 33, 34, 35, 36], [0, 1, 2, 3, 4, 5, 6, 7, 8, 9, 10, 11, 12, 13, 14, 15, 16, 17, 18, 19, 20, 21, 22, 23, 24, 25, 26, 27, 28, 29, 30, 31, 32, 33, 34, 35, 36], [0, 1, 2, 3, 4, 5, 6, 7, 8, 9, 10, 11, 12, 13, 14, 15, 16, 17, 18, 19, 20, 21, 22, 23, 24, 25, 26, 27, 28, 29, 30, 31, 32, 33, 34, 35, 36, 43, 44], [0, 1, 2, 3, 4, 5, 6, 7, 8, 9, 10, 11, 12, 13, 14, 15, 16, 17, 18, 19, 20, 21, 22, 23, 24, 25, 26, 27, 28, 29, 30, 31, 32, 33, 34, 35, 36, 43, 44, 45], [0, 1, 2, 3, 4, 5, 6, 7, 8, 9, 10, 11, 12, 13, 14, 15, 16, 17, 18, 19, 20, 21, 22, 23, 24, 25, 26, 27, 28, 29, 30, 31, 32, 33, 34, 35, 36, 43, 44, 45, 46], [0, 1, 2, 3, 4, 5, 6, 7, 8, 9, 10, 11, 12, 13, 14, 15, 16, 17, 18, 19, 20, 21, 22, 23, 24, 25, 26, 27, 28, 29, 30, 31, 32, 33, 34, 35, 36, 37, 38, 39, 40, 41, 42, 43, 44, 45, 46, 47], [0, 1, 2, 3, 4, 5, 6, 7, 8, 9, 10, 11, 12, 13, 14, 15, 16, 17, 18, 19, 20, 21, 22, 23, 24, 25, 26, 27, 28, 29, 30, 31, 32, 33, 34, 35, 36, 37, 38, 39, 40, 41, 42, 43, 44, 45, 46, 47, 48], [0, 1, 2, 3, 4, 5, 6, 7, 8, 9, 10, 11, 12, 13, 14, 15, 16, 17, 18, 19, 20, 21, 22, 23, 24, 25, 26, 27, 28, 29, 30, 31, 32, 33, 34, 35, 36, 37, 38, 39, 40, 41, 42, 43, 44, 45, 46, 47, 48, 49]], [0, 0, 0, 0, 0, 0, 0, 0, 0, 0, 0, 0, 0, 0, 0, 0, 0, 0, 0, 0, 0, 0, 0, 0, 0, 0, 0, 0, 0, 0, 0, 0, 0, 0, 0, 0, 0, 0, 0, 0, 0, 0, 0, 0, 0, 0, 0, 0, 0, 0, 0], [5, 30], [[1], [5], [12, 13], [14], [15], [16], [17], [18], [1, 19], [5, 19], [20, 21, 19], [22, 19], [23, 19], [24, 19], [19, 25], [26], [1, 27], [5, 27], [28, 29, 27], [30, 27], [31, 27], [0, 27], [32, 33, 27], [27, 34], [35], [1, 36], [5, 36], [37, 38, 36], [39, 36], [40, 36], [41, 36], [42, 36], [36, 43], [44], [5, 45], [46, 45], [47, 45], [1, 48], [5, 48], [50, 48], [49, 51, 48], [52, 48], [53, 48], [1, 48], [5, 48], [55, 56, 48], [57, 48], [58, 48], [54, 59, 48], [48, 60, 45], [45, 61]], Ob.intro (by kernel_rfl) ?_⟩
      repeat first | refine same ?_ | refine Ob.intro hik ?_ | refine optK_intro c0 ?_ | refine optK_intro c1 ?_ | refine optK_intro c2 ?_
      refine callP (rkey_q hk) rfl rfl ?_
      rw [based_bad h' (okAtE_no hw (by unfold okE; simp only [hk, Bool.false_and]))]
      repeat first | refine same ?_ | refine Ob.intro hik ?_ | refine optK_intro c0 ?_ | refine optK_intro c1 ?_ | refine optK_intro c2 ?_
      refine end0 rfl rfl rfl rfl
    | true =>
      refine ⟨[0, 0, 0, 0, 0, 1, 1, 1, 1, 1, 1, 1, 1, 1, 1, 1, 1, 1, 1, 1, 1, 1, 1, 1, 1, 1, 1, 1, 1, 1, 2, 2, 2, 2, 2, 2, 2, 2, 2, 2, 2, 2, 2, 2, 2, 2, 2, 2, 2, 2, 2], [[], [], [0, 1], [0, 1, 2], [0, 1, 2, 3], [0, 1, 2, 3, 4], [0, 1, 2, 3, 4, 5], [0, 1, 2, 3, 4, 5, 6], [0, 1, 2, 3, 4, 5, 6, 7], [0, 1, 2, 3, 4, 5, 6, 7], [0, 1, 2, 3, 4, 5, 6, 7, 8, 9], [0, 1, 2, 3, 4, 5, 6, 7, 8, 9, 10], [0, 1, 2, 3, 4, 5, 6, 7, 8, 9, 10, 11], [0, 1, 2, 3, 4, 5, 6, 7, 8, 9, 10, 11, 12], [0, 1, 2, 3, 4, 5, 6, 7, 8, 9, 10, 11, 12, 13], [0, 1, 2, 3, 4, 5, 6, 7, 8, 9, 10, 11, 12, 13, 14], [0, 1, 2, 3, 4, 5, 6, 7, 8, 9, 10, 11, 12, 13, 14, 15], [0, 1, 2, 3, 4, 5, 6, 7, 8, 9, 10, 11, 12, 13, 14, 15], [0, 1, 2, 3, 4, 5, 6, 7, 8, 9, 10, 11, 12, 13, 14, 15, 16, 17], [0, 1, 2, 3, 4, 5, 6, 7, 8, 9, 10, 11, 12, 13, 14, 15, 16, 17, 18], [0, 1, 2, 3, 4, 5, 6, 7, 8, 9, 10, 11, 12, 13, 14, 15, 16, 17, 18, 19], [0, 1, 2, 3, 4, 5, 6, 7, 8, 9, 10, 11, 12, 13, 14, 15], [0, 1, 2, 3, 4, 5, 6, 7, 8, 9, 10, 11, 12, 13, 14, 15, 16, 17, 18, 19, 20, 21], [0, 1, 2, 3, 4, 5, 6, 7, 8, 9, 10, 11, 12, 13, 14, 15, 16, 17, 18, 19, 20, 21, 22], [0, 1, 2, 3, 4, 5, 6, 7, 8, 9, 10, 11, 12, 13, 14, 15, 16, 17, 18, 19, 20, 21, 22, 23], [0, 1, 2, 3, 4, 5, 6, 7, 8, 9, 10, 11, 12, 13, 14, 15, 16, 17, 18, 19, 20, 21, 22, 23, 24], [0, 1, 2, 3, 4, 5, 6, 7, 8, 9, 10, 11, 12, 13, 14, 15, 16, 17, 18, 19, 20, 21, 22, 23, 24], [0, 1, 2, 3, 4, 5, 6, 7, 8, 9, 10, 11, 12, 13, 14, 15, 16, 17, 18, 19, 20, 21, 22, 23, 24, 25, 26], [0, 1, 2, 3, 4, 5, 6, 7, 8, 9, 10, 11, 12, 13, 14, 15, 16, 17, 18, 19, 20, 21, 22, 23, 24, 25, 26, 27], [0, 1, 2, 3, 4, 5, 6, 7, 8, 9, 10, 11, 12, 13, 14, 15, 16, 17, 18, 19, 20, 21, 22, 23, 24, 25, 26, 27, 28], [0, 1, 2, 3, 4, 5, 6, 7, 8, 9, 10, 11, 12, 13, 14, 15, 16, 17, 18, 19, 20, 21, 22, 23, 24, 25, 26, 27, 28, 29], [0, 1, 2, 3, 4, 5, 6, 7, 8, 9, 10, 11, 12, 13, 14, 15, 16, 17, 18, 19, 20, 21, 22, 23, 24, 25, 26, 27, 28, 29, 30], [0, 1, 2, 3, 4, 5, 6, 7, 8, 9, 10, 11, 12, 13, 14, 15, 16, 17, 18, 19, 20, 21, 22, 23, 24, 25, 26, 27, 28, 29, 30, 31], [0, 1, 2, 3, 4, 5, 6, 7, 8, 9, 10, 11, 12, 13, 14, 15, 16, 17, 18, 19, 20, 21, 22, 23, 24, 25, 26, 27, 28, 29, 30, 31, 32], [0, 1, 2, 3, 4, 5, 6, 7, 8, 9, 10, 11, 12, 13, 14, 15, 16, 17, 18, 19, 20, 21, 22, 23, 24, 25, 26, 27, 28, 29, 30, 31, 32, 33], [0, 1, 2, 3, 4, 5, 6, 7, 8, 9, 10, 11, 12, 13, 14, 15, 16, 17, 18, 19, 20, 21, 22, 23, 24, 25, 26, 27, 28, 29, 30, 31, 32, 33, 34], [0, 1, 2, 3, 4, 5, 6, 7, 8, 9, 10, 11, 12, 13, 14, 15, 16, 17, 18, 19, 20, 21, 22, 23, 24, 25, 26, 27, 28, 29, 30, 31, 32, 33, 34, 35], [0, 1, 2, 3, 4, 5, 6, 7, 8, 9, 10, 11, 12, 13, 14, 15, 16, 17, 18, 19, 20, 21, 22, 23, 24, 25, 26, 27, 28, 29, 30, 31, 32, 33, 34, 35, 36], [0, 1, 2, 3, 4, 5, 6, 7, 8, 9, 10, 11, 12, 13, 14, 15, 16, 17, 18, 19, 20, 21, 22, 23, 24, 25, 26, 27, 28, 29, 30, 31, 32, 33, 34, 35, 36], [0, 1, 2, 3, 4, 5, 6, 7, 8, 9, 10, 11, 12, 13, 14, 15, 16, 17, 18, 19, 20, 21, 22, 23, 24, 25, 26, 27, 28, 29, 30, 31, 32, 33, 34, 35, 36, 38], [0, 1, 2, 3, 4, 5, 6, 7, 8, 9, 10, 11, 12, 13, 14, 15, 16, 17, 18, 19, 20, 21, 22, 23, 24, 25, 26, 27, 28, 29, 30, 31, 32, 33, 34, 35, 36, 37, 38, 39], [0, 1, 2, 3, 4, 5, 6, 7, 8, 9, 10, 11, 12, 13, 14, 15, 16, 17, 18, 19, 20, 21, 22, 23, 24, 25, 26, 27, 28, 29, 30, 31, 32, 33, 34, 35, 36, 37, 38, 39, 40], [0, 1, 2, 3, 4, 5, 6, 7, 8, 9, 10, 11, 12, 13, 14, 15, 16, 17, 18, 19, 20, 21, 22, 23, 24, 25, 26, 27, 28, 29, 30, 31, 32, 33, 34, 35, 36, 37, 38, 39, 40, 41], [0, 1, 2, 3, 4, 5, 6, 7, 8, 9, 10, 11, 12, 13, 14, 15, 16, 17, 18, 19, 20, 21, 22, 23, 24, 25, 26, 27, 28, 29, 30, 31, 32, 33, 34, 35, 36], [0, 1, 2, 3, 4, 5, 6, 7, 8, 9, 10, 11, 12, 13, 14, 15, 16, 17, 18, 19, 20, 21, 22, 23, 24, 25, 26, 27, 28, 29, 30, 31, 32, 33, 34, 35, 36], [0, 1, 2, 3, 4, 5, 6, 7, 8, 9, 10, 11, 12, 13, 14, 15, 16, 17, 18, 19, 20, 21, 22, 23, 24, 25, 26, 27, 28, 29, 30, 31, 32, 33, 34, 35, 36, 43, 44], [0, 1, 2, 3, 4, 5, 6, 7, 8, 9, 10, 11, 12, 13, 14, 15, 16, 17, 18, 19, 20, 21, 22, 23, 24, 25, 26, 27, 28, 29, 30, 31, 32, 33, 34, 35, 36, 43, 44, 45], [0, 1, 2, 3, 4, 5, 6, 7, 8, 9, 10, 11, 12, 13, 14, 15, 16, 17, 18, 19, 20, 21, 22, 23, 24, 25, 26, 27, 28, 29, 30, 31, 32, 33, 34, 35, 36, 43, 44, 45, 46], [0, 1, 2, 3, 4, 5, 6, 7, 8, 9, 10, 11, 12, 13, 14, 15, 16, 17, 18, 19, 20, 21, 22, 23, 24, 25, 26, 27, 28, 29, 30, 31, 32, 33, 34, 35, 36, 37, 38, 39, 40, 41, 42, 43, 44, 45, 46, 47], [0, 1, 2, 3, 4, 5, 6, 7, 8, 9, 10, 11, 12, 13, 14, 15, 16, 17, 18, 19, 20, 21, 22, 23, 24, 25, 26, 27, 28, 29, 30, 31, 32, 33, 34, 35, 36, 37, 38, 39, 40, 41, 42, 43, 44, 45, 46, 47, 48], [0, 1, 2, 3, 4, 5, 6, 7, 8, 9, 10, 11, 12, 13, 14, 15, 16, 17, 18, 19, 20, 21, 22, 23, 24, 25, 26, 27, 28, 29, 30, 31, 32, 33, 34, 35, 36, 37, 38, 39, 40, 41, 42, 43, 44, 45, 46, 47, 48, 49]], [0, 0, 0, 0, 0, 0, 0, 0, 0, 0, 0, 0, 0, 0, 0, 0, 0, 0, 0, 0, 0, 0, 0, 0, 0, 0, 0, 0, 0, 0, 0, 0, 0, 0, 0, 0, 0, 0, 0, 0, 0, 0, 0, 0, 0, 0, 0, 0, 0, 0, 0], [5, 30], [[1], [5], [12, 13], [14], [15], [16], [17], [18], [1, 19], [5, 19], [20, 21, 19], [22, 19], [23, 19], [24, 19], [19, 25], [26], [1, 27], [5, 27], [28, 29, 27], [30, 27], [31, 27], [0, 27], [32, 33, 27], [27, 34], [35], [1, 36], [5, 36], [37, 38, 36], [39, 36], [40, 36], [41, 36], [42, 36], [36, 43], [44], [5, 45], [46, 45], [47, 45], [1, 48], [5, 48], [50, 48], [49, 51, 48], [52, 48], [53, 48], [1, 48], [5, 48], [55, 56, 48], [57, 48], [58, 48], [54, 59, 48], [48, 60, 45], [45, 61]], Ob.intro (by kernel_rfl) ?_⟩
      repeat first | refine same ?_ | refine Ob.intro hik ?_ | refine optK_intro c0 ?_ | refine optK_intro c1 ?_ | refine optK_intro c2 ?_
      refine callP (rkey_q hk) rfl rfl ?_
      repeat first | refine same ?_ | refine Ob.intro hik ?_ | refine optK_intro c0 ?_ | refine optK_intro c1 ?_ | refine optK_intro c2 ?_
      refine forkD (fun g3 => ?_) (fun g3 => ?_)
      · have hs : decide (1 ≤ s ∧ s ≤ q) = false := decide_eq_false (by have : s < 1 := g3; omega)
        rw [based_bad h' (okAtE_no hw (by unfold okE; simp only [hk, hs, Bool.false_and, Bool.true_and]))]
        repeat first | refine same ?_ | refine Ob.intro hik ?_ | refine optK_intro c0 ?_ | refine optK_intro c1 ?_ | refine optK_intro c2 ?_
        refine end0 rfl rfl rfl rfl
      repeat first | refine same ?_ | refine Ob.intro hik ?_ | refine optK_intro c0 ?_ | refine optK_intro c1 ?_ | refine optK_intro c2 ?_
      refine forkD (fun g4 => ?_) (fun g4 => ?_)
      · have hs : decide (1 ≤ s ∧ s ≤ q) = false := decide_eq_false (by have : s > q := g4; omega)
        rw [based_bad h' (okAtE_no hw (by unfold okE; simp only [hk, hs, Bool.false_and, Bool.true_and]))]
        repeat first | refine same ?_ | refine Ob.intro hik ?_ | refine optK_intro c0 ?_ | refine optK_intro c1 ?_ | refine optK_intro c2 ?_
        refine end0 rfl rfl rfl rfl
      have hs : decide (1 ≤ s ∧ s ≤ q) = true := decide_eq_true (by have : ¬ s < 1 := g3; have : ¬ s > q := g4; omega)
      repeat first | refine same ?_ | refine Ob.intro hik ?_ | refine optK_intro c0 ?_ | refine optK_intro c1 ?_ | refine optK_intro c2 ?_
      cases hr : rightV n t b with
      | false =>
        refine callP (rvright_q hwb hr) rfl rfl ?_
        rw [based_bad h' (okAtE_no hw (by unfold okE; simp only [hk, hs, hr, Bool.true_and]))]
        repeat first | refine same ?_ | refine Ob.intro hik ?_ | refine optK_intro c0 ?_ | refine optK_intro c1 ?_ | refine optK_intro c2 ?_
        refine end0 rfl rfl rfl rfl
      | true =>
        refine callP (rvright_q hwb hr) rfl rfl ?_
        have ho : okE q ⟨k, s, n, t, b⟩ = true := by unfold okE; simp only [hk, hs, hr, Bool.true_and]
        repeat first | refine same ?_ | refine Ob.intro hik ?_ | refine optK_intro c0 ?_ | refine optK_intro c1 ?_ | refine optK_intro c2 ?_
        refine forkD (fun gj => ?_) (fun gj => ?_)
        · obtain ⟨i, rfl⟩ : ∃ i, j = i + 1 := ⟨j - 1, by have : (j : Int) > 0 := gj; omega⟩
          have hdec : wrp .i64 (((i + 1 : Nat) : Int) - 1) = ((i : Nat) : Int) := by rw [wrpE, wi64]; omega
          obtain ⟨p, hp⟩ : ∃ p, L[i]? = some p := ⟨_, List.getElem?_eq_getElem (by omega)⟩
          have hpa := okAtE_s (q := q) hp hw
          rw [ho, Bool.true_and] at hpa
          have hbi : (0 : Int) ≤ wrp .i64 (((i + 1 : Nat) : Int) - 1) ∧ wrp .i64 (((i + 1 : Nat) : Int) - 1) < ((L.length : Nat) : Int) := by rw [hdec]; omega
          have hc : ∀ w : Int, w = ((i : Nat) : Int) → nth (List.drop (w.toNat * 5) (flat enC L)) 0 = some (str p.k) := by rintro _ rfl; exact cellF0 enC_len hp rfl
          repeat first | refine same ?_ | refine Ob.intro hbi ?_ | refine Ob.intro hik ?_ | refine optK_intro (hc _ hdec) ?_ | refine optK_intro c0 ?_ | refine optK_intro c1 ?_ | refine optK_intro c2 ?_
          refine fork (fun gl => ?_) (fun gl => ?_)
          · rw [based_bad h' (by rw [hpa]; simpa using gl)]
            repeat first | refine same ?_ | refine Ob.intro hbi ?_ | refine Ob.intro hik ?_ | refine optK_intro (hc _ hdec) ?_ | refine optK_intro c0 ?_ | refine optK_intro c1 ?_ | refine optK_intro c2 ?_
            refine end0 rfl rfl rfl rfl
          · repeat first | refine same ?_ | refine Ob.intro hbi ?_ | refine Ob.intro hik ?_ | refine optK_intro (hc _ hdec) ?_ | refine optK_intro c0 ?_ | refine optK_intro c1 ?_ | refine optK_intro c2 ?_
            refine hK ⟨_, good_nextE hst hw (by rw [hpa]; simpa using gl)⟩ [] _ (show L.length - (i + 1) = L.length - ((i + 1) + 1) + 1 by omega) ⟨⟨rfl, rfl, congrArg i64 hinc, True.intro⟩, True.intro, rfl, rfl, rfl⟩
        · have hj0 : j = 0 := by have : ¬ (j : Int) > 0 := gj; omega
          subst hj0
          repeat first | refine same ?_ | refine Ob.intro hik ?_ | refine optK_intro c0 ?_ | refine optK_intro c1 ?_ | refine optK_intro c2 ?_
          refine hK ⟨_, good_nextE hst hw (by rw [okAtE_0 hw]; exact ho)⟩ [] _ (show L.length - 0 = L.length - (0 + 1) + 1 by omega) ⟨⟨rfl, rfl, congrArg i64 hinc, True.intro⟩, True.intro, rfl, rfl, rfl⟩
  · have h' : j = L.length := by have : ¬ (j : Int) < (L.length : Int) := h; omega
    rw [based_good fun i hi => hst.2 i (by omega)]
    refine forkD (fun g => ?_) (fun g => ?_)
    · refine forkD (fun u => ?_) (fun u => ?_)
      · refine end0 rfl rfl rfl (congrArg bo (decide_eq_true ⟨g, u⟩).symm)
      · refine end0 rfl rfl rfl (congrArg bo (decide_eq_false fun hh => u hh.2).symm)
    · refine end0 rfl rfl rfl (congrArg bo (decide_eq_false fun hh => g hh.1).symm)
theorem esame_ok (L : List En) (hl : L.length < 9223372036854775807) : ACalls Tryz.prog 14 [enV L, enV L] [] (Ret (bo true)) := by
  refine acalls_of_awp hT mixed Tryz.func14 rfl (by kernel_rfl) (by kernel_rfl) (Nat.le_of_ble_eq_true rfl) ?_
  refine fork (fun g => absurd rfl (bne_iff_ne.1 g)) (fun _ => ?_)
  refine loopI (α := { j : Nat // j ≤ L.length }) (fun x => [(0, enV L), (1, enV L), (5, i64 (x.val : Nat))]) (fun _ => []) (fun x => L.length - x.val) ⟨0, Nat.zero_le _⟩ [] ⟨⟨rfl, rfl, rfl, True.intro⟩, True.intro, rfl, rfl, rfl⟩ ?_
  rintro ⟨j, hj⟩ K hK
  have hinc : wrp .i64 ((j : Int) + 1) = ((j + 1 : Nat) : Int) := by rw [wrpE, wi64]; omega
  refine forkD (fun h => ?_) (fun h => ?_)
  · have h' : j < L.length := by have : (j : Int) < (L.length : Int) := h; omega
    obtain ⟨w, hw⟩ : ∃ w, L[j]? = some w := ⟨_, List.getElem?_eq_getElem h'⟩
    have hik : (0 : Int) ≤ (j : Nat) ∧ ((j : Nat) : Int) < (L.length : Nat) := by omega
    have ct := flat_takeN enC_len hw
    obtain ⟨k, g, n, t, b⟩ := w
    refine ⟨[0, 0, 0, 0, 0, 0, 0, 0, 0], [[], [], [0, 1], [0, 1, 2], [], [], [4, 5], [4, 5, 6], [0, 1, 2, 3, 4, 5, 6, 7]], [0, 0, 0, 0, 0, 0, 0, 0, 0], [], [[0], [5], [17, 18], [19], [1], [5], [21, 22], [23], [20, 24]], Ob.intro (by kernel_rfl) ?_⟩
    repeat first | refine same ?_ | refine Ob.intro hik ?_ | refine optK_intro ct ?_
    refine fork (fun e => absurd e (by simp [strEq_iff.2])) (fun _ => ?_)
    repeat first | refine same ?_ | refine Ob.intro hik ?_ | refine optK_intro ct ?_
    refine hK ⟨j + 1, h'⟩ [] _ (show L.length - j = L.length - (j + 1) + 1 by omega) ⟨⟨rfl, rfl, congrArg i64 hinc, True.intro⟩, True.intro, rfl, rfl, rfl⟩
  · refine end0 rfl rfl rfl rfl
end Go.Proofs.YtkbpddejafdmdaaGreat.A
