/- record: writes; May. No condition. -/
import Derived.Test.YtkbpddejafdmdaaGreatRf
import Derived.Test.YtkbpddejafdmdaaGreatVc
namespace Go.Proofs.YtkbpddejafdmdaaGreat.A
open Go
set_option linter.unusedVariables false
set_option linter.unusedSimpArgs false
set_option maxRecDepth 100000
set_option pp.maxSteps 400

section
variable {α : Type} {f : α → List AV} {n : Nat}
theorem cellF (hf : ∀ x, (f x).length = n) {L : List α} {j : Nat} {x : α} (h : L[j]? = some x) (c : Nat) {a : AV} (hc : (f x)[c]? = some a) : nth (List.drop c (List.drop ((j : Int).toNat * n) (flat f L))) 0 = some a := by
  have hlt := (List.getElem?_eq_some_iff.1 hc).1
  rw [nth_eq, Int.toNat_natCast, flat_drop hf L j x h, List.getElem?_drop]
  show (f x ++ _)[c]? = _
  rw [List.getElem?_append_left hlt]
  exact hc
theorem cellF0 (hf : ∀ x, (f x).length = n) {L : List α} {j : Nat} {x : α} (h : L[j]? = some x) {a : AV} (hc : (f x)[0]? = some a) : nth (List.drop ((j : Int).toNat * n) (flat f L)) 0 = some a := cellF hf h 0 hc
theorem cellsF (hf : ∀ x, (f x).length = n) {L : List α} {j : Nat} {x : α} (h : L[j]? = some x) (c m : Nat) {cs : List AV} (hc : ((f x).drop c).take m = cs) (hm : c + m ≤ n) : takeN (List.drop c (List.drop ((j : Int).toNat * n) (flat f L))) m = some cs := by
  have hl := hf x
  rw [Int.toNat_natCast, flat_drop hf L j x h, List.drop_append_of_le_length (by omega), takeN_eq (by rw [List.length_append, List.length_drop]; omega), List.take_append_of_le_length (by rw [List.length_drop]; omega), hc]
end
/-- A write: its key, whether it is gone, its value. -/
structure Wt where
  k : ByteArray
  g : Bool
  n : Bool
  t : ByteArray
  b : Nat
def wtC (w : Wt) : List AV := [str w.k, bo w.g, bo w.n, str w.t, u64n w.b]
theorem wtC_len (w : Wt) : (wtC w).length = 5 := rfl
def wtV (L : List Wt) : AV := .view L.length (flat wtC L)
def keyB (k : ByteArray) : Bool := decide (1 ≤ k.size ∧ k.size ≤ 32)
/-- No value. -/
def zeroV (n : Bool) (t : ByteArray) (b : Nat) : Bool := (n == false) && (strEq t ⟨#[]⟩ && (((b : Int) == 0) && true))
def okW (w : Wt) : Bool := keyB w.k && rightV w.n w.t w.b && !(w.g && !zeroV w.n w.t w.b)
def okAt (L : List Wt) (j : Nat) : Bool := match L[j]? with
  | none => true
  | some w => okW w && (match j with
    | 0 => true
    | i + 1 => match L[i]? with
      | some p => strLt p.k w.k
      | none => true)
def mayW (L : List Wt) : Bool := decide (1 ≤ L.length ∧ L.length ≤ 16 ∧ ∀ j, j < L.length → okAt L j = true)
theorem within_ok (n a b : Int) : ACalls Tryz.prog 54 [i64 n, i64 a, i64 b] [] (Ret (bo (decide (a ≤ n ∧ n ≤ b)))) := by
  refine acalls_of_awp hT mixed Tryz.func54 rfl (by kernel_rfl) (by kernel_rfl) (Nat.le_of_ble_eq_true rfl) ?_
  refine forkD (fun g => ?_) (fun g => ?_)
  · refine forkD (fun u => ?_) (fun u => ?_)
    · refine end0 rfl rfl rfl (congrArg bo (decide_eq_true ?_).symm)
      exact ⟨g, u⟩
    · refine end0 rfl rfl rfl (congrArg bo (decide_eq_false ?_).symm)
      exact fun h => u h.2
  · refine end0 rfl rfl rfl (congrArg bo (decide_eq_false ?_).symm)
    exact fun h => g h.1
theorem rkey_ok (k : ByteArray) : ACalls Tryz.prog 50 [str k] [] (Ret (bo (keyB k))) := by
  refine acalls_of_awp hT mixed Tryz.func50 rfl (by kernel_rfl) (by kernel_rfl) (Nat.le_of_ble_eq_true rfl) ?_
  refine forkD (fun g => ?_) (fun g => ?_)
  · have g' : (k.size : Int) ≥ 1 := g
    refine forkD (fun u => ?_) (fun u => ?_)
    · have u' : (k.size : Int) ≤ 32 := u
      refine end0 rfl rfl rfl (congrArg bo (decide_eq_true ?_).symm)
      omega
    · have u' : ¬ (k.size : Int) ≤ 32 := u
      refine end0 rfl rfl rfl (congrArg bo (decide_eq_false ?_).symm)
      omega
  · have g' : ¬ (k.size : Int) ≥ 1 := g
    refine end0 rfl rfl rfl (congrArg bo (decide_eq_false ?_).symm)
    omega
theorem roomkey_ok (k : ByteArray) : ACalls Tryz.prog 52 [str k] [] (Ret (bo (keyB k))) := by
  have h := within_ok (k.size : Nat) 1 32
  rw [show decide ((1 : Int) ≤ ((k.size : Nat) : Int) ∧ ((k.size : Nat) : Int) ≤ 32) = keyB k by unfold keyB; congr 1; simp only [eq_iff_iff]; omega] at h
  generalize keyB k = q at h ⊢
  cases q <;>
  · refine acalls_of_awp hT mixed Tryz.func52 rfl (by kernel_rfl) (by kernel_rfl) (Nat.le_of_ble_eq_true rfl) ?_
    refine callP h rfl rfl ?_
    refine end0 rfl rfl rfl rfl
theorem key_q {k : ByteArray} {q : Bool} (h : keyB k = q) : ACalls Tryz.prog 52 [str k] [] (Ret (bo q)) := by rw [← h]; exact roomkey_ok k
theorem rkey_q {k : ByteArray} {q : Bool} (h : keyB k = q) : ACalls Tryz.prog 50 [str k] [] (Ret (bo q)) := by rw [← h]; exact rkey_ok k
theorem vright_q {n : Bool} {t : ByteArray} {b : Nat} {q : Bool} (h : rightV n t b = q) : ACalls Tryz.prog 53 [.agg [bo n, str t, u64n b]] [] (Ret (bo q)) := by rw [← h]; exact vright_ok n t b
theorem rvright_q {n : Bool} {t : ByteArray} {b : Nat} {q : Bool} (hb : b < 18446744073709551616) (h : rightV n t b = q) : ACalls Tryz.prog 51 [.agg [bo n, str t, u64n b]] [] (Ret (bo q)) := by rw [← h]; exact rvRight_ok n t b hb
theorem may_bad {L : List Wt} {j : Nat} (hj : j < L.length) (h : okAt L j = false) : mayW L = false := decide_eq_false fun hh => by have := hh.2.2 j hj; rw [h] at this; cases this
theorem may_good {L : List Wt} (h : ∀ j, j < L.length → okAt L j = true) : mayW L = decide (1 ≤ L.length ∧ L.length ≤ 16) := by
  unfold mayW
  congr 1
  simp only [eq_iff_iff]
  exact ⟨fun hh => ⟨hh.1, hh.2.1⟩, fun hh => ⟨hh.1, hh.2, h⟩⟩
theorem okAt_0 {L : List Wt} {w : Wt} (h : L[0]? = some w) : okAt L 0 = okW w := by unfold okAt; rw [h]; simp
theorem okAt_s {L : List Wt} {i : Nat} {p w : Wt} (hp : L[i]? = some p) (h : L[i + 1]? = some w) : okAt L (i + 1) = (okW w && strLt p.k w.k) := by unfold okAt; rw [h]; simp only [hp]
theorem okAt_no {L : List Wt} {j : Nat} {w : Wt} (h : L[j]? = some w) (hw : okW w = false) : okAt L j = false := by unfold okAt; rw [h]; simp only [hw, Bool.false_and]
def GoodTo (L : List Wt) (j : Nat) : Prop := j ≤ L.length ∧ ∀ i, i < j → okAt L i = true
theorem good_next {L : List Wt} {j : Nat} {w : Wt} (h : GoodTo L j) (hw : L[j]? = some w) (hk : okAt L j = true) : GoodTo L (j + 1) := by
  refine ⟨(List.getElem?_eq_some_iff.1 hw).1, fun i hi => ?_⟩
  by_cases hij : i = j
  · rw [hij]; exact hk
  · exact h.2 i (by omega)
theorem may_ok (L : List Wt) (hl : L.length < 9223372036854775807) : ACalls Tryz.prog 31 [wtV L] [] (Ret (bo (mayW L))) := by
  refine acalls_of_awp hT mixed Tryz.func31 rfl (by kernel_rfl) (by kernel_rfl) (Nat.le_of_ble_eq_true rfl) ?_
  refine loopI (α := { j : Nat // GoodTo L j }) (fun x => [(0, wtV L), (5, wtV L), (6, i64 L.length), (7, i64 (x.val : Nat))]) (fun _ => []) (fun x => L.length - x.val) ⟨0, Nat.zero_le _, fun i hi => absurd hi (by omega)⟩ [] ⟨⟨rfl, rfl, rfl, rfl, True.intro⟩, True.intro, rfl, rfl, rfl⟩ ?_
  rintro ⟨j, hst⟩ K hK
  have hj := hst.1
  have hinc : wrp .i64 ((j : Int) + 1) = ((j + 1 : Nat) : Int) := by rw [wrpE, wi64]; omega
  refine forkD (fun h => ?_) (fun h => ?_)
  · have h' : j < L.length := by have : (j : Int) < (L.length : Int) := h; omega
    obtain ⟨w, hw⟩ : ∃ w, L[j]? = some w := ⟨_, List.getElem?_eq_getElem h'⟩
    have hik : (0 : Int) ≤ (j : Nat) ∧ ((j : Nat) : Int) < (L.length : Nat) := by omega
    refine Ob.intro hik ?_
    refine optK_intro (flat_takeN wtC_len hw) ?_
    obtain ⟨k, g, n, t, b⟩ := w
    cases hk : keyB k with
    | false =>
      rw [may_bad h' (okAt_no hw (by unfold okW; simp only [hk, Bool.false_and]))]
      refine ⟨[0, 0, 1, 1, 1, 1, 1, 2, 2, 2, 2, 2, 2, 2, 2, 2, 2, 2, 2, 2, 2, 2, 2, 2, 2, 2, 2, 2, 2, 2, 2, 2, 2, 2, 2], [[], [0], [0, 1], [0, 1, 2], [0, 1, 2, 3], [0, 1, 2, 3, 4], [0, 1, 2, 3, 4, 5], [0, 1, 2, 3, 4, 5, 6], [0, 1, 2, 3, 4, 5, 6, 7], [0, 1, 2, 3, 4, 5, 6, 7, 8], [0, 1, 2, 3, 4, 5, 6, 7, 8, 9], [0, 1, 2, 3, 4, 5, 6, 7, 8, 9, 10], [0, 1, 2, 3, 4, 5, 6, 7, 8, 9, 10, 11], [0, 1, 2, 3, 4, 5, 6, 7, 8, 9, 10, 11, 12], [0, 1, 2, 3, 4, 5, 6, 7, 8, 9, 10, 11, 12, 13], [0, 1, 2, 3, 4, 5, 6, 7, 8, 9, 10, 11, 12, 13, 14], [0, 1, 2, 3, 4, 5, 6, 7, 8, 9, 10, 11, 12, 13], [0, 1, 2, 3, 4, 5, 6, 7, 8, 9, 10, 11, 12, 13, 14, 15, 16], [0, 1, 2, 3, 4, 5, 6, 7, 8, 9, 10, 11, 12, 13, 14, 15, 16, 17], [0, 1, 2, 3, 4, 5, 6, 7, 8, 9, 10, 11, 12, 13, 14, 15, 16, 17, 18], [0, 1, 2, 3, 4, 5, 6, 7, 8, 9, 10, 11, 12, 13, 14, 15, 16, 17, 18, 19], [0, 1, 2, 3, 4, 5, 6, 7, 8, 9, 10, 11, 12, 13, 14, 15, 16, 17, 18, 19, 20], [0, 1, 2, 3, 4, 5, 6, 7, 8, 9, 10, 11, 12, 13, 14, 15, 16, 17, 18, 19, 20, 21], [0, 1, 2, 3, 4, 5, 6, 7, 8, 9, 10, 11, 12, 13, 14, 15, 16, 17, 18, 19, 20, 21, 22], [0, 1, 2, 3, 4, 5, 6, 7, 8, 9, 10, 11, 12, 13, 14, 15, 16, 17, 18, 19, 20, 21, 22, 23], [0, 1, 2, 3, 4, 5, 6, 7, 8, 9, 10, 11, 12, 13, 14, 15, 16, 17, 18, 19, 20, 21, 22, 23], [0, 1, 2, 3, 4, 5, 6, 7, 8, 9, 10, 11, 12, 13, 14, 15, 16, 17, 18, 19, 20, 21, 22, 23, 25], [0, 1, 2, 3, 4, 5, 6, 7, 8, 9, 10, 11, 12, 13, 14, 15, 16, 17, 18, 19, 20, 21, 22, 23, 24, 25, 26], [0, 1, 2, 3, 4, 5, 6, 7, 8, 9, 10, 11, 12, 13, 14, 15, 16, 17, 18, 19, 20, 21, 22, 23, 24, 25, 26, 27], [0, 1, 2, 3, 4, 5, 6, 7, 8, 9, 10, 11, 12, 13, 14, 15, 16, 17, 18, 19, 20, 21, 22, 23, 24, 25, 26, 27, 28], [0, 1, 2, 3, 4, 5, 6, 7, 8, 9, 10, 11, 12, 13, 14, 15, 16, 17, 18, 19, 20, 21, 22, 23], [0, 1, 2, 3, 4, 5, 6, 7, 8, 9, 10, 11, 12, 13, 14, 15, 16, 17, 18, 19, 20, 21, 22, 23, 30], [0, 1, 2, 3, 4, 5, 6, 7, 8, 9, 10, 11, 12, 13, 14, 15, 16, 17, 18, 19, 20, 21, 22, 23, 24, 25, 26, 27, 28, 29, 30, 31], [0, 1, 2, 3, 4, 5, 6, 7, 8, 9, 10, 11, 12, 13, 14, 15, 16, 17, 18, 19, 20, 21, 22, 23, 24, 25, 26, 27, 28, 29, 30, 31, 32], [0, 1, 2, 3, 4, 5, 6, 7, 8, 9, 10, 11, 12, 13, 14, 15, 16, 17, 18, 19, 20, 21, 22, 23, 24, 25, 26, 27, 28, 29, 30, 31, 32, 33]], [0, 0, 0, 0, 0, 0, 0, 0, 0, 0, 0, 0, 0, 0, 0, 0, 0, 0, 0, 0, 0, 0, 0, 0, 0, 0, 0, 0, 0, 0, 0, 0, 0, 0, 0], [2, 7], [[4], [12], [13], [14], [15], [4, 16], [17, 16], [18, 16], [19, 16], [16, 20], [21], [4, 22], [23, 22], [24, 22], [4, 25], [26, 25], [25], [27, 28, 25], [25, 29, 22], [22, 30], [31], [3, 32], [33, 32], [34, 32], [0, 35], [3, 35], [37, 35], [36, 38, 35], [39, 35], [40, 35], [4, 35], [42, 35], [41, 43, 35], [35, 44, 32], [32, 45]], Ob.intro (by kernel_rfl) ?_⟩
      repeat refine same ?_
      refine callP (key_q hk) rfl rfl ?_
      repeat refine same ?_
      refine end0 rfl rfl rfl rfl
    | true =>
      cases hr : rightV n t b with
      | false =>
        rw [may_bad h' (okAt_no hw (by unfold okW; simp only [hk, hr, Bool.false_and, Bool.true_and]))]
        refine ⟨[0, 0, 1, 1, 1, 1, 1, 2, 2, 2, 2, 2, 2, 2, 2, 2, 2, 2, 2, 2, 2, 2, 2, 2, 2, 2, 2, 2, 2, 2, 2, 2, 2, 2, 2], [[], [0], [0, 1], [0, 1, 2], [0, 1, 2, 3], [0, 1, 2, 3, 4], [0, 1, 2, 3, 4, 5], [0, 1, 2, 3, 4, 5, 6], [0, 1, 2, 3, 4, 5, 6, 7], [0, 1, 2, 3, 4, 5, 6, 7, 8], [0, 1, 2, 3, 4, 5, 6, 7, 8, 9], [0, 1, 2, 3, 4, 5, 6, 7, 8, 9, 10], [0, 1, 2, 3, 4, 5, 6, 7, 8, 9, 10, 11], [0, 1, 2, 3, 4, 5, 6, 7, 8, 9, 10, 11, 12], [0, 1, 2, 3, 4, 5, 6, 7, 8, 9, 10, 11, 12, 13], [0, 1, 2, 3, 4, 5, 6, 7, 8, 9, 10, 11, 12, 13, 14], [0, 1, 2, 3, 4, 5, 6, 7, 8, 9, 10, 11, 12, 13], [0, 1, 2, 3, 4, 5, 6, 7, 8, 9, 10, 11, 12, 13, 14, 15, 16], [0, 1, 2, 3, 4, 5, 6, 7, 8, 9, 10, 11, 12, 13, 14, 15, 16, 17], [0, 1, 2, 3, 4, 5, 6, 7, 8, 9, 10, 11, 12, 13, 14, 15, 16, 17, 18], [0, 1, 2, 3, 4, 5, 6, 7, 8, 9, 10, 11, 12, 13, 14, 15, 16, 17, 18, 19], [0, 1, 2, 3, 4, 5, 6, 7, 8, 9, 10, 11, 12, 13, 14, 15, 16, 17, 18, 19, 20], [0, 1, 2, 3, 4, 5, 6, 7, 8, 9, 10, 11, 12, 13, 14, 15, 16, 17, 18, 19, 20, 21], [0, 1, 2, 3, 4, 5, 6, 7, 8, 9, 10, 11, 12, 13, 14, 15, 16, 17, 18, 19, 20, 21, 22], [0, 1, 2, 3, 4, 5, 6, 7, 8, 9, 10, 11, 12, 13, 14, 15, 16, 17, 18, 19, 20, 21, 22, 23], [0, 1, 2, 3, 4, 5, 6, 7, 8, 9, 10, 11, 12, 13, 14, 15, 16, 17, 18, 19, 20, 21, 22, 23], [0, 1, 2, 3, 4, 5, 6, 7, 8, 9, 10, 11, 12, 13, 14, 15, 16, 17, 18, 19, 20, 21, 22, 23, 25], [0, 1, 2, 3, 4, 5, 6, 7, 8, 9, 10, 11, 12, 13, 14, 15, 16, 17, 18, 19, 20, 21, 22, 23, 24, 25, 26], [0, 1, 2, 3, 4, 5, 6, 7, 8, 9, 10, 11, 12, 13, 14, 15, 16, 17, 18, 19, 20, 21, 22, 23, 24, 25, 26, 27], [0, 1, 2, 3, 4, 5, 6, 7, 8, 9, 10, 11, 12, 13, 14, 15, 16, 17, 18, 19, 20, 21, 22, 23, 24, 25, 26, 27, 28], [0, 1, 2, 3, 4, 5, 6, 7, 8, 9, 10, 11, 12, 13, 14, 15, 16, 17, 18, 19, 20, 21, 22, 23], [0, 1, 2, 3, 4, 5, 6, 7, 8, 9, 10, 11, 12, 13, 14, 15, 16, 17, 18, 19, 20, 21, 22, 23, 30], [0, 1, 2, 3, 4, 5, 6, 7, 8, 9, 10, 11, 12, 13, 14, 15, 16, 17, 18, 19, 20, 21, 22, 23, 24, 25, 26, 27, 28, 29, 30, 31], [0, 1, 2, 3, 4, 5, 6, 7, 8, 9, 10, 11, 12, 13, 14, 15, 16, 17, 18, 19, 20, 21, 22, 23, 24, 25, 26, 27, 28, 29, 30, 31, 32], [0, 1, 2, 3, 4, 5, 6, 7, 8, 9, 10, 11, 12, 13, 14, 15, 16, 17, 18, 19, 20, 21, 22, 23, 24, 25, 26, 27, 28, 29, 30, 31, 32, 33]], [0, 0, 0, 0, 0, 0, 0, 0, 0, 0, 0, 0, 0, 0, 0, 0, 0, 0, 0, 0, 0, 0, 0, 0, 0, 0, 0, 0, 0, 0, 0, 0, 0, 0, 0], [2, 7], [[4], [12], [13], [14], [15], [4, 16], [17, 16], [18, 16], [19, 16], [16, 20], [21], [4, 22], [23, 22], [24, 22], [4, 25], [26, 25], [25], [27, 28, 25], [25, 29, 22], [22, 30], [31], [3, 32], [33, 32], [34, 32], [0, 35], [3, 35], [37, 35], [36, 38, 35], [39, 35], [40, 35], [4, 35], [42, 35], [41, 43, 35], [35, 44, 32], [32, 45]], Ob.intro (by kernel_rfl) ?_⟩
        repeat refine same ?_
        refine callP (key_q hk) rfl rfl ?_
        repeat refine same ?_
        refine callP (vright_q hr) rfl rfl ?_
        repeat refine same ?_
        refine end0 rfl rfl rfl rfl
      | true =>
        cases g with
        | false =>
          have ho : okW ⟨k, false, n, t, b⟩ = true := by unfold okW; simp only [hk, hr, Bool.false_and, Bool.and_self, Bool.not_false]
          refine ⟨[0, 0, 1, 1, 1, 1, 1, 2, 2, 2, 2, 2, 2, 2, 2, 2, 2, 2, 2, 2, 2, 2, 2, 2, 2, 2, 2, 2, 2, 2, 2, 2, 2, 2, 2], [[], [0], [0, 1], [0, 1, 2], [0, 1, 2, 3], [0, 1, 2, 3, 4], [0, 1, 2, 3, 4, 5], [0, 1, 2, 3, 4, 5, 6], [0, 1, 2, 3, 4, 5, 6, 7], [0, 1, 2, 3, 4, 5, 6, 7, 8], [0, 1, 2, 3, 4, 5, 6, 7, 8, 9], [0, 1, 2, 3, 4, 5, 6, 7, 8, 9, 10], [0, 1, 2, 3, 4, 5, 6, 7, 8, 9, 10, 11], [0, 1, 2, 3, 4, 5, 6, 7, 8, 9, 10, 11, 12], [0, 1, 2, 3, 4, 5, 6, 7, 8, 9, 10, 11, 12, 13], [0, 1, 2, 3, 4, 5, 6, 7, 8, 9, 10, 11, 12, 13, 14], [0, 1, 2, 3, 4, 5, 6, 7, 8, 9, 10, 11, 12, 13], [0, 1, 2, 3, 4, 5, 6, 7, 8, 9, 10, 11, 12, 13, 14, 15, 16], [0, 1, 2, 3, 4, 5, 6, 7, 8, 9, 10, 11, 12, 13, 14, 15, 16, 17], [0, 1, 2, 3, 4, 5, 6, 7, 8, 9, 10, 11, 12, 13, 14, 15, 16, 17, 18], [0, 1, 2, 3, 4, 5, 6, 7, 8, 9, 10, 11, 12, 13, 14, 15, 16, 17, 18, 19], [0, 1, 2, 3, 4, 5, 6, 7, 8, 9, 10, 11, 12, 13, 14, 15, 16, 17, 18, 19, 20], [0, 1, 2, 3, 4, 5, 6, 7, 8, 9, 10, 11, 12, 13, 14, 15, 16, 17, 18, 19, 20, 21], [0, 1, 2, 3, 4, 5, 6, 7, 8, 9, 10, 11, 12, 13, 14, 15, 16, 17, 18, 19, 20, 21, 22], [0, 1, 2, 3, 4, 5, 6, 7, 8, 9, 10, 11, 12, 13, 14, 15, 16, 17, 18, 19, 20, 21, 22, 23], [0, 1, 2, 3, 4, 5, 6, 7, 8, 9, 10, 11, 12, 13, 14, 15, 16, 17, 18, 19, 20, 21, 22, 23], [0, 1, 2, 3, 4, 5, 6, 7, 8, 9, 10, 11, 12, 13, 14, 15, 16, 17, 18, 19, 20, 21, 22, 23, 25], [0, 1, 2, 3, 4, 5, 6, 7, 8, 9, 10, 11, 12, 13, 14, 15, 16, 17, 18, 19, 20, 21, 22, 23, 24, 25, 26], [0, 1, 2, 3, 4, 5, 6, 7, 8, 9, 10, 11, 12, 13, 14, 15, 16, 17, 18, 19, 20, 21, 22, 23, 24, 25, 26, 27], [0, 1, 2, 3, 4, 5, 6, 7, 8, 9, 10, 11, 12, 13, 14, 15, 16, 17, 18, 19, 20, 21, 22, 23, 24, 25, 26, 27, 28], [0, 1, 2, 3, 4, 5, 6, 7, 8, 9, 10, 11, 12, 13, 14, 15, 16, 17, 18, 19, 20, 21, 22, 23], [0, 1, 2, 3, 4, 5, 6, 7, 8, 9, 10, 11, 12, 13, 14, 15, 16, 17, 18, 19, 20, 21, 22, 23, 30], [0, 1, 2, 3, 4, 5, 6, 7, 8, 9, 10, 11, 12, 13, 14, 15, 16, 17, 18, 19, 20, 21, 22, 23, 24, 25, 26, 27, 28, 29, 30, 31], [0, 1, 2, 3, 4, 5, 6, 7, 8, 9, 10, 11, 12, 13, 14, 15, 16, 17, 18, 19, 20, 21, 22, 23, 24, 25, 26, 27, 28, 29, 30, 31, 32], [0, 1, 2, 3, 4, 5, 6, 7, 8, 9, 10, 11, 12, 13, 14, 15, 16, 17, 18, 19, 20, 21, 22, 23, 24, 25, 26, 27, 28, 29, 30, 31, 32, 33]], [0, 0, 0, 0, 0, 0, 0, 0, 0, 0, 0, 0, 0, 0, 0, 0, 0, 0, 0, 0, 0, 0, 0, 0, 0, 0, 0, 0, 0, 0, 0, 0, 0, 0, 0], [2, 7], [[4], [12], [13], [14], [15], [4, 16], [17, 16], [18, 16], [19, 16], [16, 20], [21], [4, 22], [23, 22], [24, 22], [4, 25], [26, 25], [25], [27, 28, 25], [25, 29, 22], [22, 30], [31], [3, 32], [33, 32], [34, 32], [0, 35], [3, 35], [37, 35], [36, 38, 35], [39, 35], [40, 35], [4, 35], [42, 35], [41, 43, 35], [35, 44, 32], [32, 45]], Ob.intro (by kernel_rfl) ?_⟩
          repeat refine same ?_
          refine callP (key_q hk) rfl rfl ?_
          repeat refine same ?_
          refine callP (vright_q hr) rfl rfl ?_
          repeat refine same ?_
          refine forkD (fun gj => ?_) (fun gj => ?_)
          · obtain ⟨i, rfl⟩ : ∃ i, j = i + 1 := ⟨j - 1, by have : (j : Int) > 0 := gj; omega⟩
            have hdec : wrp .i64 (((i + 1 : Nat) : Int) - 1) = ((i : Nat) : Int) := by rw [wrpE, wi64]; omega
            obtain ⟨p, hp⟩ : ∃ p, L[i]? = some p := ⟨_, List.getElem?_eq_getElem (by omega)⟩
            have hpa := okAt_s hp hw
            rw [ho, Bool.true_and] at hpa
            have hbi : (0 : Int) ≤ wrp .i64 (((i + 1 : Nat) : Int) - 1) ∧ wrp .i64 (((i + 1 : Nat) : Int) - 1) < ((L.length : Nat) : Int) := by rw [hdec]; omega
            have hc : ∀ w : Int, w = ((i : Nat) : Int) → nth (List.drop (w.toNat * 5) (flat wtC L)) 0 = some (str p.k) := by rintro _ rfl; exact cellF0 wtC_len hp rfl
            repeat refine same ?_
            refine Ob.intro hbi ?_
            refine optK_intro (hc _ hdec) ?_
            refine fork (fun gl => ?_) (fun gl => ?_)
            · rw [may_bad h' (by rw [hpa]; simpa using gl)]
              repeat first | refine same ?_ | refine Ob.intro hbi ?_ | refine optK_intro (hc _ hdec) ?_
              refine end0 rfl rfl rfl rfl
            · repeat first | refine same ?_ | refine Ob.intro hbi ?_ | refine optK_intro (hc _ hdec) ?_
              refine hK ⟨_, good_next hst hw (by rw [hpa]; simpa using gl)⟩ [] _ (show L.length - (i + 1) = L.length - ((i + 1) + 1) + 1 by omega) ⟨⟨rfl, rfl, rfl, congrArg i64 hinc, True.intro⟩, True.intro, rfl, rfl, rfl⟩
          · have hj0 : j = 0 := by have : ¬ (j : Int) > 0 := gj; omega
            subst hj0
            repeat refine same ?_
            refine hK ⟨_, good_next hst hw (by rw [okAt_0 hw]; exact ho)⟩ [] _ (show L.length - 0 = L.length - (0 + 1) + 1 by omega) ⟨⟨rfl, rfl, rfl, congrArg i64 hinc, True.intro⟩, True.intro, rfl, rfl, rfl⟩
        | true =>
          refine ⟨[0, 0, 1, 1, 1, 1, 1, 2, 2, 2, 2, 2, 2, 2, 2, 2, 2, 2, 2, 2, 2, 2, 2, 2, 2, 2, 2, 2, 2, 2, 2, 2, 2, 2, 2], [[], [0], [0, 1], [0, 1, 2], [0, 1, 2, 3], [0, 1, 2, 3, 4], [0, 1, 2, 3, 4, 5], [0, 1, 2, 3, 4, 5, 6], [0, 1, 2, 3, 4, 5, 6, 7], [0, 1, 2, 3, 4, 5, 6, 7, 8], [0, 1, 2, 3, 4, 5, 6, 7, 8, 9], [0, 1, 2, 3, 4, 5, 6, 7, 8, 9, 10], [0, 1, 2, 3, 4, 5, 6, 7, 8, 9, 10, 11], [0, 1, 2, 3, 4, 5, 6, 7, 8, 9, 10, 11, 12], [0, 1, 2, 3, 4, 5, 6, 7, 8, 9, 10, 11, 12, 13], [0, 1, 2, 3, 4, 5, 6, 7, 8, 9, 10, 11, 12, 13, 14], [0, 1, 2, 3, 4, 5, 6, 7, 8, 9, 10, 11, 12, 13], [0, 1, 2, 3, 4, 5, 6, 7, 8, 9, 10, 11, 12, 13, 14, 15, 16], [0, 1, 2, 3, 4, 5, 6, 7, 8, 9, 10, 11, 12, 13, 14, 15, 16, 17], [0, 1, 2, 3, 4, 5, 6, 7, 8, 9, 10, 11, 12, 13, 14, 15, 16, 17, 18], [0, 1, 2, 3, 4, 5, 6, 7, 8, 9, 10, 11, 12, 13, 14, 15, 16, 17, 18, 19], [0, 1, 2, 3, 4, 5, 6, 7, 8, 9, 10, 11, 12, 13, 14, 15, 16, 17, 18, 19, 20], [0, 1, 2, 3, 4, 5, 6, 7, 8, 9, 10, 11, 12, 13, 14, 15, 16, 17, 18, 19, 20, 21], [0, 1, 2, 3, 4, 5, 6, 7, 8, 9, 10, 11, 12, 13, 14, 15, 16, 17, 18, 19, 20, 21, 22], [0, 1, 2, 3, 4, 5, 6, 7, 8, 9, 10, 11, 12, 13, 14, 15, 16, 17, 18, 19, 20, 21, 22, 23], [0, 1, 2, 3, 4, 5, 6, 7, 8, 9, 10, 11, 12, 13, 14, 15, 16, 17, 18, 19, 20, 21, 22, 23], [0, 1, 2, 3, 4, 5, 6, 7, 8, 9, 10, 11, 12, 13, 14, 15, 16, 17, 18, 19, 20, 21, 22, 23, 25], [0, 1, 2, 3, 4, 5, 6, 7, 8, 9, 10, 11, 12, 13, 14, 15, 16, 17, 18, 19, 20, 21, 22, 23, 24, 25, 26], [0, 1, 2, 3, 4, 5, 6, 7, 8, 9, 10, 11, 12, 13, 14, 15, 16, 17, 18, 19, 20, 21, 22, 23, 24, 25, 26, 27], [0, 1, 2, 3, 4, 5, 6, 7, 8, 9, 10, 11, 12, 13, 14, 15, 16, 17, 18, 19, 20, 21, 22, 23, 24, 25, 26, 27, 28], [0, 1, 2, 3, 4, 5, 6, 7, 8, 9, 10, 11, 12, 13, 14, 15, 16, 17, 18, 19, 20, 21, 22, 23], [0, 1, 2, 3, 4, 5, 6, 7, 8, 9, 10, 11, 12, 13, 14, 15, 16, 17, 18, 19, 20, 21, 22, 23, 30], [0, 1, 2, 3, 4, 5, 6, 7, 8, 9, 10, 11, 12, 13, 14, 15, 16, 17, 18, 19, 20, 21, 22, 23, 24, 25, 26, 27, 28, 29, 30, 31], [0, 1, 2, 3, 4, 5, 6, 7, 8, 9, 10, 11, 12, 13, 14, 15, 16, 17, 18, 19, 20, 21, 22, 23, 24, 25, 26, 27, 28, 29, 30, 31, 32], [0, 1, 2, 3, 4, 5, 6, 7, 8, 9, 10, 11, 12, 13, 14, 15, 16, 17, 18, 19, 20, 21, 22, 23, 24, 25, 26, 27, 28, 29, 30, 31, 32, 33]], [0, 0, 0, 0, 0, 0, 0, 0, 0, 0, 0, 0, 0, 0, 0, 0, 0, 0, 0, 0, 0, 0, 0, 0, 0, 0, 0, 0, 0, 0, 0, 0, 0, 0, 0], [2, 7], [[4], [12], [13], [14], [15], [4, 16], [17, 16], [18, 16], [19, 16], [16, 20], [21], [4, 22], [23, 22], [24, 22], [4, 25], [26, 25], [25], [27, 28, 25], [25, 29, 22], [22, 30], [31], [3, 32], [33, 32], [34, 32], [0, 35], [3, 35], [37, 35], [36, 38, 35], [39, 35], [40, 35], [4, 35], [42, 35], [41, 43, 35], [35, 44, 32], [32, 45]], Ob.intro (by kernel_rfl) ?_⟩
          repeat refine same ?_
          refine callP (key_q hk) rfl rfl ?_
          repeat refine same ?_
          refine callP (vright_q hr) rfl rfl ?_
          repeat refine same ?_
          refine fork (fun gz => ?_) (fun gz => ?_)
          · rw [may_bad h' (okAt_no hw (by unfold okW; simp only [hk, hr, Bool.true_and]; exact congrArg Bool.not gz))]
            repeat refine same ?_
            refine end0 rfl rfl rfl rfl
          · have ho : okW ⟨k, true, n, t, b⟩ = true := by unfold okW; simp only [hk, hr, Bool.true_and]; exact congrArg Bool.not gz
            repeat refine same ?_
            refine forkD (fun gj => ?_) (fun gj => ?_)
            · obtain ⟨i, rfl⟩ : ∃ i, j = i + 1 := ⟨j - 1, by have : (j : Int) > 0 := gj; omega⟩
              have hdec : wrp .i64 (((i + 1 : Nat) : Int) - 1) = ((i : Nat) : Int) := by rw [wrpE, wi64]; omega
              obtain ⟨p, hp⟩ : ∃ p, L[i]? = some p := ⟨_, List.getElem?_eq_getElem (by omega)⟩
              have hpa := okAt_s hp hw
              rw [ho, Bool.true_and] at hpa
              have hbi : (0 : Int) ≤ wrp .i64 (((i + 1 : Nat) : Int) - 1) ∧ wrp .i64 (((i + 1 : Nat) : Int) - 1) < ((L.length : Nat) : Int) := by rw [hdec]; omega
              have hc : ∀ w : Int, w = ((i : Nat) : Int) → nth (List.drop (w.toNat * 5) (flat wtC L)) 0 = some (str p.k) := by rintro _ rfl; exact cellF0 wtC_len hp rfl
              repeat refine same ?_
              refine Ob.intro hbi ?_
              refine optK_intro (hc _ hdec) ?_
              refine fork (fun gl => ?_) (fun gl => ?_)
              · rw [may_bad h' (by rw [hpa]; simpa using gl)]
                repeat first | refine same ?_ | refine Ob.intro hbi ?_ | refine optK_intro (hc _ hdec) ?_
                refine end0 rfl rfl rfl rfl
              · repeat first | refine same ?_ | refine Ob.intro hbi ?_ | refine optK_intro (hc _ hdec) ?_
                refine hK ⟨_, good_next hst hw (by rw [hpa]; simpa using gl)⟩ [] _ (show L.length - (i + 1) = L.length - ((i + 1) + 1) + 1 by omega) ⟨⟨rfl, rfl, rfl, congrArg i64 hinc, True.intro⟩, True.intro, rfl, rfl, rfl⟩
            · have hj0 : j = 0 := by have : ¬ (j : Int) > 0 := gj; omega
              subst hj0
              repeat refine same ?_
              refine hK ⟨_, good_next hst hw (by rw [okAt_0 hw]; exact ho)⟩ [] _ (show L.length - 0 = L.length - (0 + 1) + 1 by omega) ⟨⟨rfl, rfl, rfl, congrArg i64 hinc, True.intro⟩, True.intro, rfl, rfl, rfl⟩
  · have h' : j = L.length := by have : ¬ (j : Int) < (L.length : Int) := h; omega
    have hg := may_good fun i hi => hst.2 i (by omega)
    rw [hg]
    have hw := within_ok (L.length : Nat) 1 16
    have he : decide ((1 : Int) ≤ ((L.length : Nat) : Int) ∧ ((L.length : Nat) : Int) ≤ 16) = decide (1 ≤ L.length ∧ L.length ≤ 16) := by congr 1; simp only [eq_iff_iff]; omega
    rw [he] at hw
    generalize decide (1 ≤ L.length ∧ L.length ≤ 16) = q at hw ⊢
    cases q <;>
    · refine callP hw rfl rfl ?_
      refine end0 rfl rfl rfl rfl
end Go.Proofs.YtkbpddejafdmdaaGreat.A
