/- ref03: Same. No condition. -/
import Derived.Test.YthebddjpnkimjaaWm
namespace Go.Proofs.Ythebddjpnkimjaa.A
open Go
set_option linter.unusedVariables false
set_option linter.unusedSimpArgs false
set_option maxRecDepth 100000
set_option pp.maxSteps 300

noncomputable instance : DecidableEq It := fun a b => Classical.propDecidable _
def WL (l : List It) : Prop := l.length ≤ 1000 ∧ ∀ x ∈ l, WI x
theorem sz_kids {n : Nat} {s : ByteArray} {l2 : List Nat} {k : List It} {l : List It} (h : It.mk n s l2 k ∈ l) : SizeOf.sizeOf k < SizeOf.sizeOf l := by
  have := List.sizeOf_lt_of_mem h
  simp only [It.mk.sizeOf_spec] at this
  omega
theorem take_ne {α : Type} {a b : List α} {j : Nat} {x y : α} (hx : a[j]? = some x) (hy : b[j]? = some y) (h : x ≠ y) : a ≠ b := fun e => h (by
  subst e
  exact Option.some.inj (hx.symm.trans hy))
set_option maxHeartbeats 0 in
theorem rsame_ok : ∀ (N : Nat) (a b : List It), SizeOf.sizeOf a ≤ N → WL a → WL b → ACalls Try.prog 9 [itsV a, itsV b] [] (Ret (bo (decide (a = b)))) := by
  intro N
  induction N with
  | zero =>
    intro a b h
    cases a <;> simp at h
  | succ N ih =>
    intro a b hN hwa hwb
    have hla := hwa.1
    have hlb := hwb.1
    refine acalls_of_awp hT mixed Try.func9 rfl (by kernel_rfl) (by kernel_rfl) (Nat.le_of_ble_eq_true rfl) ?_
    refine fork (fun h => ?_) (fun h => ?_)
    · have h' : a.length ≠ b.length := fun e => by
        have : (a.length : Int) ≠ (b.length : Int) := bne_iff_ne.1 h
        omega
      refine end0 rfl rfl rfl (congrArg bo (decide_eq_false (fun e => h' (by rw [e]))).symm)
    have hlen : a.length = b.length := by
      have : (a.length : Int) = (b.length : Int) := bne_eq_false_iff_eq.1 h
      omega
    refine loopI (α := {j : Nat // j ≤ a.length ∧ a.take j = b.take j}) (fun z => [(0, itsV a), (1, itsV b), (5, i64 (z.1 : Nat))]) (fun z => []) (fun z => a.length - z.1) ⟨0, Nat.zero_le _, rfl⟩ [] ⟨⟨rfl, rfl, rfl, True.intro⟩, True.intro, rfl, rfl, rfl⟩ ?_
    rintro ⟨j, hj, hf⟩ K hK
    have hinc : wrp .i64 ((j : Int) + 1) = ((j + 1 : Nat) : Int) := by rw [wrpE, wi64]; omega
    refine forkD (fun h => ?_) (fun h => ?_)
    · have hjl : j < a.length := by have : (j : Int) < (a.length : Int) := h; omega
      obtain ⟨x, hx⟩ : ∃ x, a[j]? = some x := ⟨_, List.getElem?_eq_getElem hjl⟩
      obtain ⟨y, hy⟩ : ∃ y, b[j]? = some y := ⟨_, List.getElem?_eq_getElem (by omega)⟩
      have hbj : (0 : Int) ≤ (j : Nat) ∧ ((j : Nat) : Int) < (a.length : Nat) := by omega
      have hbk : (0 : Int) ≤ (j : Nat) ∧ ((j : Nat) : Int) < (b.length : Nat) := by omega
      have hmx := List.mem_of_getElem? hx
      have hmy := List.mem_of_getElem? hy
      have hwx := hwa.2 x hmx
      have hwy := hwb.2 y hmy
      obtain ⟨n1, s1, l1, k1⟩ := x
      obtain ⟨n2, s2, l2, k2⟩ := y
      have hsz := sz_kids hmx
      cases hwx with
      | mk _ _ _ _ w1 w2 w3 w4 w5 w6 =>
      cases hwy with
      | mk _ _ _ _ v1 v2 v3 v4 v5 v6 =>
      have hno : (It.mk n1 s1 l1 k1 ≠ It.mk n2 s2 l2 k2) → bo false = bo (decide (a = b)) := fun e => congrArg bo (decide_eq_false (take_ne hx hy e)).symm
      have hl := sameL_ok l1 l2 (by omega) (by omega)
      have hk := ih k1 k2 (by omega) ⟨w5, w6⟩ ⟨v5, v6⟩
      refine ⟨[0, 0, 0, 0, 0, 0, 0, 0, 0, 0, 0, 0, 0, 0, 0, 0, 0, 0, 0, 0, 0, 0, 0, 0, 0, 0, 0, 0, 0, 0, 0, 0, 0, 0, 0, 1, 1, 1, 1, 1, 1, 1, 1, 1, 1, 1, 1, 1, 1, 2, 2, 2], [[], [], [0, 1], [0, 1, 2], [0, 1, 2, 3], [], [], [5, 6], [5, 6, 7], [5, 6, 7, 8], [0, 1, 2, 3, 4, 5, 6, 7, 8, 9], [0, 1, 2, 3, 4, 5, 6, 7, 8, 9, 10], [0, 1, 2, 3, 4, 5, 6, 7, 8, 9, 10, 11], [0, 1, 2, 3, 4, 5, 6, 7, 8, 9, 10, 11], [0, 1, 2, 3, 4, 5, 6, 7, 8, 9, 10, 11, 12, 13], [0, 1, 2, 3, 4, 5, 6, 7, 8, 9, 10, 11, 12, 13, 14], [0, 1, 2, 3, 4, 5, 6, 7, 8, 9, 10, 11, 12, 13, 14, 15], [0, 1, 2, 3, 4, 5, 6, 7, 8, 9, 10, 11], [0, 1, 2, 3, 4, 5, 6, 7, 8, 9, 10, 11], [0, 1, 2, 3, 4, 5, 6, 7, 8, 9, 10, 11, 17, 18], [0, 1, 2, 3, 4, 5, 6, 7, 8, 9, 10, 11, 17, 18, 19], [0, 1, 2, 3, 4, 5, 6, 7, 8, 9, 10, 11, 17, 18, 19, 20], [0, 1, 2, 3, 4, 5, 6, 7, 8, 9, 10, 11, 12, 13, 14, 15, 16, 17, 18, 19, 20, 21], [0, 1, 2, 3, 4, 5, 6, 7, 8, 9, 10, 11, 12, 13, 14, 15, 16, 17, 18, 19, 20, 21, 22], [0, 1, 2, 3, 4, 5, 6, 7, 8, 9, 10, 11, 12, 13, 14, 15, 16, 17, 18, 19, 20, 21, 22, 23], [0, 1, 2, 3, 4, 5, 6, 7, 8, 9, 10, 11, 12, 13, 14, 15, 16, 17, 18, 19, 20, 21, 22, 23, 24], [0, 1, 2, 3, 4, 5, 6, 7, 8, 9, 10, 11, 12, 13, 14, 15, 16, 17, 18, 19, 20, 21, 22, 23, 24], [0, 1, 2, 3, 4, 5, 6, 7, 8, 9, 10, 11, 12, 13, 14, 15, 16, 17, 18, 19, 20, 21, 22, 23, 24, 25, 26], [0, 1, 2, 3, 4, 5, 6, 7, 8, 9, 10, 11, 12, 13, 14, 15, 16, 17, 18, 19, 20, 21, 22, 23, 24, 25, 26, 27], [0, 1, 2, 3, 4, 5, 6, 7, 8, 9, 10, 11, 12, 13, 14, 15, 16, 17, 18, 19, 20, 21, 22, 23, 24, 25, 26, 27, 28], [0, 1, 2, 3, 4, 5, 6, 7, 8, 9, 10, 11, 12, 13, 14, 15, 16, 17, 18, 19, 20, 21, 22, 23, 24], [0, 1, 2, 3, 4, 5, 6, 7, 8, 9, 10, 11, 12, 13, 14, 15, 16, 17, 18, 19, 20, 21, 22, 23, 24], [0, 1, 2, 3, 4, 5, 6, 7, 8, 9, 10, 11, 12, 13, 14, 15, 16, 17, 18, 19, 20, 21, 22, 23, 24, 30, 31], [0, 1, 2, 3, 4, 5, 6, 7, 8, 9, 10, 11, 12, 13, 14, 15, 16, 17, 18, 19, 20, 21, 22, 23, 24, 30, 31, 32], [0, 1, 2, 3, 4, 5, 6, 7, 8, 9, 10, 11, 12, 13, 14, 15, 16, 17, 18, 19, 20, 21, 22, 23, 24, 30, 31, 32, 33], [0, 1, 2, 3, 4, 5, 6, 7, 8, 9, 10, 11, 12, 13, 14, 15, 16, 17, 18, 19, 20, 21, 22, 23, 24, 25, 26, 27, 28, 29, 30, 31, 32, 33, 34], [0, 1, 2, 3, 4, 5, 6, 7, 8, 9, 10, 11, 12, 13, 14, 15, 16, 17, 18, 19, 20, 21, 22, 23, 24, 25, 26, 27, 28, 29, 30, 31, 32, 33, 34, 35], [0, 1, 2, 3, 4, 5, 6, 7, 8, 9, 10, 11, 12, 13, 14, 15, 16, 17, 18, 19, 20, 21, 22, 23, 24, 25, 26, 27, 28, 29, 30, 31, 32, 33, 34, 35, 36], [0, 1, 2, 3, 4, 5, 6, 7, 8, 9, 10, 11, 12, 13, 14, 15, 16, 17, 18, 19, 20, 21, 22, 23, 24, 25, 26, 27, 28, 29, 30, 31, 32, 33, 34, 35, 36, 37], [0, 1, 2, 3, 4, 5, 6, 7, 8, 9, 10, 11, 12, 13, 14, 15, 16, 17, 18, 19, 20, 21, 22, 23, 24, 25, 26, 27, 28, 29, 30, 31, 32, 33, 34, 35, 36, 37, 38], [0, 1, 2, 3, 4, 5, 6, 7, 8, 9, 10, 11, 12, 13, 14, 15, 16, 17, 18, 19, 20, 21, 22, 23, 24, 25, 26, 27, 28, 29, 30, 31, 32, 33, 34, 35, 36, 37, 38], [0, 1, 2, 3, 4, 5, 6, 7, 8, 9, 10, 11, 12, 13, 14, 15, 16, 17, 18, 19, 20, 21, 22, 23, 24, 25, 26, 27, 28, 29, 30, 31, 32, 33, 34, 35, 36, 37, 38, 39, 40], [0, 1, 2, 3, 4, 5, 6, 7, 8, 9, 10, 11, 12, 13, 14, 15, 16, 17, 18, 19, 20, 21, 22, 23, 24, 25, 26, 27, 28, 29, 30, 31, 32, 33, 34, 35, 36, 37, 38, 39, 40, 41], [0, 1, 2, 3, 4, 5, 6, 7, 8, 9, 10, 11, 12, 13, 14, 15, 16, 17, 18, 19, 20, 21, 22, 23, 24, 25, 26, 27, 28, 29, 30, 31, 32, 33, 34, 35, 36, 37, 38, 39, 40, 41, 42], [0, 1, 2, 3, 4, 5, 6, 7, 8, 9, 10, 11, 12, 13, 14, 15, 16, 17, 18, 19, 20, 21, 22, 23, 24, 25, 26, 27, 28, 29, 30, 31, 32, 33, 34, 35, 36, 37, 38], [0, 1, 2, 3, 4, 5, 6, 7, 8, 9, 10, 11, 12, 13, 14, 15, 16, 17, 18, 19, 20, 21, 22, 23, 24, 25, 26, 27, 28, 29, 30, 31, 32, 33, 34, 35, 36, 37, 38], [0, 1, 2, 3, 4, 5, 6, 7, 8, 9, 10, 11, 12, 13, 14, 15, 16, 17, 18, 19, 20, 21, 22, 23, 24, 25, 26, 27, 28, 29, 30, 31, 32, 33, 34, 35, 36, 37, 38, 44, 45], [0, 1, 2, 3, 4, 5, 6, 7, 8, 9, 10, 11, 12, 13, 14, 15, 16, 17, 18, 19, 20, 21, 22, 23, 24, 25, 26, 27, 28, 29, 30, 31, 32, 33, 34, 35, 36, 37, 38, 44, 45, 46], [0, 1, 2, 3, 4, 5, 6, 7, 8, 9, 10, 11, 12, 13, 14, 15, 16, 17, 18, 19, 20, 21, 22, 23, 24, 25, 26, 27, 28, 29, 30, 31, 32, 33, 34, 35, 36, 37, 38, 44, 45, 46, 47], [0, 1, 2, 3, 4, 5, 6, 7, 8, 9, 10, 11, 12, 13, 14, 15, 16, 17, 18, 19, 20, 21, 22, 23, 24, 25, 26, 27, 28, 29, 30, 31, 32, 33, 34, 35, 36, 37, 38, 39, 40, 41, 42, 43, 44, 45, 46, 47, 48], [0, 1, 2, 3, 4, 5, 6, 7, 8, 9, 10, 11, 12, 13, 14, 15, 16, 17, 18, 19, 20, 21, 22, 23, 24, 25, 26, 27, 28, 29, 30, 31, 32, 33, 34, 35, 36, 37, 38, 39, 40, 41, 42, 43, 44, 45, 46, 47, 48, 49], [0, 1, 2, 3, 4, 5, 6, 7, 8, 9, 10, 11, 12, 13, 14, 15, 16, 17, 18, 19, 20, 21, 22, 23, 24, 25, 26, 27, 28, 29, 30, 31, 32, 33, 34, 35, 36, 37, 38, 39, 40, 41, 42, 43, 44, 45, 46, 47, 48, 49, 50]], [0, 0, 0, 0, 0, 0, 0, 0, 0, 0, 0, 0, 0, 0, 0, 0, 0, 0, 0, 0, 0, 0, 0, 0, 0, 0, 0, 0, 0, 0, 0, 0, 0, 0, 0, 0, 0, 0, 0, 0, 0, 0, 0, 0, 0, 0, 0, 0, 0, 0, 0, 0], [35, 49], [[0], [5], [17, 18], [19], [20], [1], [5], [22, 23], [24], [25], [21, 26], [27], [0, 28], [5, 28], [29, 30, 28], [31, 28], [32, 28], [1, 28], [5, 28], [34, 35, 28], [36, 28], [37, 28], [33, 38, 28], [28, 39], [40], [0, 41], [5, 41], [42, 43, 41], [44, 41], [45, 41], [1, 41], [5, 41], [47, 48, 41], [49, 41], [50, 41], [46, 51, 41], [52, 41], [41, 53], [54], [0, 55], [5, 55], [56, 57, 55], [58, 55], [59, 55], [1, 55], [5, 55], [61, 62, 55], [63, 55], [64, 55], [60, 65, 55], [66, 55], [55, 67]], Ob.intro (by kernel_rfl) ?_⟩
      repeat first | refine same ?_ | refine Ob.intro (by first | exact hbj | exact hbk) ?_ | refine optK_intro (by first | exact fldI hx 0 rfl | exact fldI hy 0 rfl | exact fldI hx 1 rfl | exact fldI hy 1 rfl | exact fldI hx 2 rfl | exact fldI hy 2 rfl | exact fldI hx 3 (itC_k n1 s1 l1 k1) | exact fldI hy 3 (itC_k n2 s2 l2 k2)) ?_
      refine fork (fun g => ?_) (fun g => ?_)
      · have g' : n1 ≠ n2 := fun e => by
          have : (n1 : Int) ≠ (n2 : Int) := bne_iff_ne.1 g
          omega
        repeat first | refine same ?_ | refine Ob.intro (by first | exact hbj | exact hbk) ?_ | refine optK_intro (by first | exact fldI hx 0 rfl | exact fldI hy 0 rfl | exact fldI hx 1 rfl | exact fldI hy 1 rfl | exact fldI hx 2 rfl | exact fldI hy 2 rfl | exact fldI hx 3 (itC_k n1 s1 l1 k1) | exact fldI hy 3 (itC_k n2 s2 l2 k2)) ?_
        refine end0 rfl rfl rfl (hno fun e => ?_)
        injection e with e1
        exact g' e1
      have g1 : n1 = n2 := by
        have : (n1 : Int) = (n2 : Int) := bne_eq_false_iff_eq.1 g
        omega
      repeat first | refine same ?_ | refine Ob.intro (by first | exact hbj | exact hbk) ?_ | refine optK_intro (by first | exact fldI hx 0 rfl | exact fldI hy 0 rfl | exact fldI hx 1 rfl | exact fldI hy 1 rfl | exact fldI hx 2 rfl | exact fldI hy 2 rfl | exact fldI hx 3 (itC_k n1 s1 l1 k1) | exact fldI hy 3 (itC_k n2 s2 l2 k2)) ?_
      refine fork (fun g => ?_) (fun g => ?_)
      · have g' : strEq s1 s2 = false := by
          have : (!strEq s1 s2) = true := g
          simpa using this
        repeat first | refine same ?_ | refine Ob.intro (by first | exact hbj | exact hbk) ?_ | refine optK_intro (by first | exact fldI hx 0 rfl | exact fldI hy 0 rfl | exact fldI hx 1 rfl | exact fldI hy 1 rfl | exact fldI hx 2 rfl | exact fldI hy 2 rfl | exact fldI hx 3 (itC_k n1 s1 l1 k1) | exact fldI hy 3 (itC_k n2 s2 l2 k2)) ?_
        refine end0 rfl rfl rfl (hno fun e => ?_)
        injection e with e1 e2
        exact strEq_false.1 g' e2
      have g2 : strEq s1 s2 = true := by
        have : (!strEq s1 s2) = false := g
        simpa using this
      repeat first | refine same ?_ | refine Ob.intro (by first | exact hbj | exact hbk) ?_ | refine optK_intro (by first | exact fldI hx 0 rfl | exact fldI hy 0 rfl | exact fldI hx 1 rfl | exact fldI hy 1 rfl | exact fldI hx 2 rfl | exact fldI hy 2 rfl | exact fldI hx 3 (itC_k n1 s1 l1 k1) | exact fldI hy 3 (itC_k n2 s2 l2 k2)) ?_
      cases ql : decide (l1 = l2) with
      | false =>
        have ql' := of_decide_eq_false ql
        rw [ql] at hl
        refine callP hl rfl rfl ?_
        repeat first | refine same ?_ | refine Ob.intro (by first | exact hbj | exact hbk) ?_ | refine optK_intro (by first | exact fldI hx 0 rfl | exact fldI hy 0 rfl | exact fldI hx 1 rfl | exact fldI hy 1 rfl | exact fldI hx 2 rfl | exact fldI hy 2 rfl | exact fldI hx 3 (itC_k n1 s1 l1 k1) | exact fldI hy 3 (itC_k n2 s2 l2 k2)) ?_
        refine end0 rfl rfl rfl (hno fun e => ?_)
        injection e with e1 e2 e3
        exact ql' e3
      | true =>
        have ql' := of_decide_eq_true ql
        rw [ql] at hl
        refine callP hl rfl rfl ?_
        repeat first | refine same ?_ | refine Ob.intro (by first | exact hbj | exact hbk) ?_ | refine optK_intro (by first | exact fldI hx 0 rfl | exact fldI hy 0 rfl | exact fldI hx 1 rfl | exact fldI hy 1 rfl | exact fldI hx 2 rfl | exact fldI hy 2 rfl | exact fldI hx 3 (itC_k n1 s1 l1 k1) | exact fldI hy 3 (itC_k n2 s2 l2 k2)) ?_
        cases qk : decide (k1 = k2) with
        | false =>
          have qk' := of_decide_eq_false qk
          rw [qk] at hk
          refine callP hk rfl rfl ?_
          repeat first | refine same ?_ | refine Ob.intro (by first | exact hbj | exact hbk) ?_ | refine optK_intro (by first | exact fldI hx 0 rfl | exact fldI hy 0 rfl | exact fldI hx 1 rfl | exact fldI hy 1 rfl | exact fldI hx 2 rfl | exact fldI hy 2 rfl | exact fldI hx 3 (itC_k n1 s1 l1 k1) | exact fldI hy 3 (itC_k n2 s2 l2 k2)) ?_
          refine end0 rfl rfl rfl (hno fun e => ?_)
          injection e with e1 e2 e3 e4
          exact qk' e4
        | true =>
          have qk' := of_decide_eq_true qk
          rw [qk] at hk
          refine callP hk rfl rfl ?_
          repeat first | refine same ?_ | refine Ob.intro (by first | exact hbj | exact hbk) ?_ | refine optK_intro (by first | exact fldI hx 0 rfl | exact fldI hy 0 rfl | exact fldI hx 1 rfl | exact fldI hy 1 rfl | exact fldI hx 2 rfl | exact fldI hy 2 rfl | exact fldI hx 3 (itC_k n1 s1 l1 k1) | exact fldI hy 3 (itC_k n2 s2 l2 k2)) ?_
          refine hK ⟨j + 1, hjl, ?_⟩ [] _ (show a.length - j = a.length - (j + 1) + 1 by omega) ⟨⟨rfl, rfl, congrArg i64 hinc, True.intro⟩, True.intro, rfl, rfl, rfl⟩
          rw [take_snocA hx, take_snocA hy, hf, g1, strEq_iff.1 g2, ql', qk']
    · have hjl : j = a.length := by have : ¬ (j : Int) < (a.length : Int) := h; omega
      rw [hjl, List.take_length, hlen, List.take_length] at hf
      refine end0 rfl rfl rfl (congrArg bo (decide_eq_true hf).symm)
end Go.Proofs.Ythebddjpnkimjaa.A
