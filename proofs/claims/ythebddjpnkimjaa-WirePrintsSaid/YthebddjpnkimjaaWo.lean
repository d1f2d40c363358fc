/- wire: Same. No condition. -/
import Derived.Test.YthebddjpnkimjaaWn
namespace Go.Proofs.Ythebddjpnkimjaa.A
open Go
set_option linter.unusedVariables false
set_option linter.unusedSimpArgs false
set_option maxRecDepth 100000
set_option pp.maxSteps 300

theorem equal_ok (a b : List Nat) (hn : a.length < 9223372036854775807) (hm : b.length < 9223372036854775807) : ACalls Try.prog 42 [us a, us b] [] (Ret (bo (decide (a = b)))) := by
  refine acalls_of_awp hT mixed Try.func42 rfl (by kernel_rfl) (by kernel_rfl) (Nat.le_of_ble_eq_true rfl) ?_
  refine fork (fun h => ?_) (fun h => ?_)
  · have h' : a.length ≠ b.length := fun e => by
      have : (a.length : Int) ≠ (b.length : Int) := bne_iff_ne.1 h
      omega
    refine end0 rfl rfl rfl (congrArg bo (decide_eq_false (fun e => h' (by rw [e]))).symm)
  have hlen : a.length = b.length := by
    have : (a.length : Int) = (b.length : Int) := bne_eq_false_iff_eq.1 h
    omega
  refine loopI (α := {j : Nat // j ≤ a.length ∧ a.take j = b.take j}) (fun z => [(0, us a), (1, us b), (12, i64 a.length), (13, i64 (z.1 : Nat))]) (fun z => []) (fun z => a.length - z.1) ⟨0, Nat.zero_le _, rfl⟩ [] ⟨⟨rfl, rfl, rfl, rfl, True.intro⟩, True.intro, rfl, rfl, rfl⟩ ?_
  rintro ⟨j, hj, hf⟩ K hK
  have hinc : wrp .i64 ((j : Int) + 1) = ((j + 1 : Nat) : Int) := by rw [wrpE, wi64]; omega
  refine forkD (fun h => ?_) (fun h => ?_)
  · have hjl : j < a.length := by have : (j : Int) < (a.length : Int) := h; omega
    obtain ⟨x, hx⟩ : ∃ x, a[j]? = some x := ⟨_, List.getElem?_eq_getElem hjl⟩
    obtain ⟨y, hy⟩ : ∃ y, b[j]? = some y := ⟨_, List.getElem?_eq_getElem (by omega)⟩
    have hbj : (0 : Int) ≤ (j : Nat) ∧ ((j : Nat) : Int) < (a.length : Nat) := by omega
    have hbk : (0 : Int) ≤ (j : Nat) ∧ ((j : Nat) : Int) < (b.length : Nat) := by omega
    refine ⟨[0, 0, 0, 0, 0, 0, 0, 0, 0], [[], [], [0, 1], [0, 1, 2], [], [], [4, 5], [4, 5, 6], [0, 1, 2, 3, 4, 5, 6, 7]], [0, 0, 0, 0, 0, 0, 0, 0, 0], [], [[0], [5], [16, 17], [18], [1], [5], [20, 21], [22], [19, 23]], Ob.intro (by kernel_rfl) ?_⟩
    repeat first | refine same ?_ | refine Ob.intro (by first | exact hbj | exact hbk) ?_ | refine optK_intro (by first | exact nth_map hx | exact nth_map hy) ?_
    refine fork (fun g => ?_) (fun g => ?_)
    · have g' : x ≠ y := fun e => by
        have : (x : Int) ≠ (y : Int) := bne_iff_ne.1 g
        omega
      repeat first | refine same ?_ | refine Ob.intro (by first | exact hbj | exact hbk) ?_ | refine optK_intro (by first | exact nth_map hx | exact nth_map hy) ?_
      refine end0 rfl rfl rfl (congrArg bo (decide_eq_false (take_ne hx hy g')).symm)
    · have g' : x = y := by
        have : (x : Int) = (y : Int) := bne_eq_false_iff_eq.1 g
        omega
      repeat first | refine same ?_ | refine Ob.intro (by first | exact hbj | exact hbk) ?_ | refine optK_intro (by first | exact nth_map hx | exact nth_map hy) ?_
      refine hK ⟨j + 1, hjl, by rw [take_snocA hx, take_snocA hy, hf, g']⟩ [] _ (show a.length - j = a.length - (j + 1) + 1 by omega) ⟨⟨rfl, rfl, rfl, congrArg i64 hinc, True.intro⟩, True.intro, rfl, rfl, rfl⟩
  · have hjl : j = a.length := by have : ¬ (j : Int) < (a.length : Int) := h; omega
    rw [hjl, List.take_length, hlen, List.take_length] at hf
    refine end0 rfl rfl rfl (congrArg bo (decide_eq_true hf).symm)
def OneS (x y : It) : Prop := ACalls Try.prog 25 [itA x, itA y] [] (Ret (bo (decide (x = y))))
theorem eqf_ok (a b : List It) (ha : a.length ≤ 1000) (hb : b.length ≤ 1000) (h1 : ∀ x ∈ a, ∀ y ∈ b, OneS x y) : ACalls Try.prog 24 [itsV a, itsV b, .fn (.func 25) []] [] (Ret (bo (decide (a = b)))) := by
  refine acalls_of_awp hT mixed Try.func24 rfl (by kernel_rfl) (by kernel_rfl) (Nat.le_of_ble_eq_true rfl) ?_
  refine fork (fun h => ?_) (fun h => ?_)
  · have h' : a.length ≠ b.length := fun e => by
      have : (a.length : Int) ≠ (b.length : Int) := bne_iff_ne.1 h
      omega
    refine end0 rfl rfl rfl (congrArg bo (decide_eq_false (fun e => h' (by rw [e]))).symm)
  have hlen : a.length = b.length := by
    have : (a.length : Int) = (b.length : Int) := bne_eq_false_iff_eq.1 h
    omega
  refine loopI (α := {j : Nat // j ≤ a.length ∧ a.take j = b.take j}) (fun z => [(0, itsV a), (1, itsV b), (2, .fn (.func 25) []), (15, itsV a), (16, i64 a.length), (17, i64 (z.1 : Nat))]) (fun z => []) (fun z => a.length - z.1) ⟨0, Nat.zero_le _, rfl⟩ [] ⟨⟨rfl, rfl, rfl, rfl, rfl, rfl, True.intro⟩, True.intro, rfl, rfl, rfl⟩ ?_
  rintro ⟨j, hj, hf⟩ K hK
  have hinc : wrp .i64 ((j : Int) + 1) = ((j + 1 : Nat) : Int) := by rw [wrpE, wi64]; omega
  refine forkD (fun h => ?_) (fun h => ?_)
  · have hjl : j < a.length := by have : (j : Int) < (a.length : Int) := h; omega
    obtain ⟨x, hx⟩ : ∃ x, a[j]? = some x := ⟨_, List.getElem?_eq_getElem hjl⟩
    obtain ⟨y, hy⟩ : ∃ y, b[j]? = some y := ⟨_, List.getElem?_eq_getElem (by omega)⟩
    have hbj : (0 : Int) ≤ (j : Nat) ∧ ((j : Nat) : Int) < (a.length : Nat) := by omega
    have hbk : (0 : Int) ≤ (j : Nat) ∧ ((j : Nat) : Int) < (b.length : Nat) := by omega
    have ho := h1 x (List.mem_of_getElem? hx) y (List.mem_of_getElem? hy)
    unfold OneS at ho
    obtain ⟨n1, s1, l1, k1⟩ := x
    obtain ⟨n2, s2, l2, k2⟩ := y
    refine Ob.intro hbj ?_
    refine optK_intro (flat_takeN itC_len hx) ?_
    refine Ob.intro hbk ?_
    refine optK_intro (flat_takeN itC_len hy) ?_
    cases ql : decide (It.mk n1 s1 l1 k1 = It.mk n2 s2 l2 k2) with
    | false =>
      rw [ql] at ho
      refine callP ho rfl rfl ?_
      refine end0 rfl rfl rfl (congrArg bo (decide_eq_false (take_ne hx hy (of_decide_eq_false ql))).symm)
    | true =>
      have ql' := of_decide_eq_true ql
      rw [ql] at ho
      refine callP ho rfl rfl ?_
      refine hK ⟨j + 1, hjl, by rw [take_snocA hx, take_snocA hy, hf, ql']⟩ [] _ (show a.length - j = a.length - (j + 1) + 1 by omega) ⟨⟨rfl, rfl, rfl, rfl, rfl, congrArg i64 hinc, True.intro⟩, True.intro, rfl, rfl, rfl⟩
  · have hjl : j = a.length := by have : ¬ (j : Int) < (a.length : Int) := h; omega
    rw [hjl, List.take_length, hlen, List.take_length] at hf
    refine end0 rfl rfl rfl (congrArg bo (decide_eq_true hf).symm)
theorem same1_ok (n1 : Nat) (s1 : ByteArray) (l1 : List Nat) (k1 : List It) (n2 : Nat) (s2 : ByteArray) (l2 : List Nat) (k2 : List It) (hl1 : l1.length ≤ 200) (hl2 : l2.length ≤ 200)
    (hk : ACalls Try.prog 11 [itsV k1, itsV k2] [] (Ret (bo (decide (k1 = k2))))) : OneS (.mk n1 s1 l1 k1) (.mk n2 s2 l2 k2) := by
  have hl := equal_ok l1 l2 (by omega) (by omega)
  have hk2 : ACalls Try.prog 11 [.view k1.length (itsC k1), .view k2.length (itsC k2)] [] (Ret (bo (decide (k1 = k2)))) := by rw [itsC_flat, itsC_flat]; exact hk
  unfold OneS
  have hno : (It.mk n1 s1 l1 k1 ≠ It.mk n2 s2 l2 k2) → bo false = bo (decide (It.mk n1 s1 l1 k1 = It.mk n2 s2 l2 k2)) := fun e => congrArg bo (decide_eq_false e).symm
  refine acalls_of_awp hT mixed Try.func25 rfl (by kernel_rfl) (by kernel_rfl) (Nat.le_of_ble_eq_true rfl) ?_
  refine fork (fun g => ?_) (fun g => ?_)
  rotate_left
  · have g' : n1 ≠ n2 := fun e => by
      have : (n1 : Int) ≠ (n2 : Int) := beq_eq_false_iff_ne.1 g
      omega
    refine end0 rfl rfl rfl (hno fun e => ?_)
    injection e with e1
    exact g' e1
  have g1 : n1 = n2 := by
    have : (n1 : Int) = (n2 : Int) := beq_iff_eq.1 g
    omega
  refine fork (fun g => ?_) (fun g => ?_)
  rotate_left
  · have g' : strEq s1 s2 = false := g
    refine end0 rfl rfl rfl (hno fun e => ?_)
    injection e with e1 e2
    exact strEq_false.1 g' e2
  have g2 : strEq s1 s2 = true := g
  cases ql : decide (l1 = l2) with
  | false =>
    have ql' := of_decide_eq_false ql
    rw [ql] at hl
    refine callP hl rfl rfl ?_
    refine end0 rfl rfl rfl (hno fun e => ?_)
    injection e with e1 e2 e3
    exact ql' e3
  | true =>
    have ql' := of_decide_eq_true ql
    rw [ql] at hl
    refine callP hl rfl rfl ?_
    cases qk : decide (k1 = k2) with
    | false =>
      rw [qk] at hk2
      refine callP hk2 rfl rfl ?_
      refine end0 rfl rfl rfl (hno fun e => ?_)
      injection e with e1 e2 e3 e4
      exact of_decide_eq_false qk e4
    | true =>
      rw [qk] at hk2
      refine callP hk2 rfl rfl ?_
      refine end0 rfl rfl rfl (congrArg bo ?_)
      exact (decide_eq_true (by rw [g1, strEq_iff.1 g2, ql', of_decide_eq_true qk])).symm
theorem same_all : ∀ (N : Nat) (a b : List It), SizeOf.sizeOf a ≤ N → WL a → WL b → ACalls Try.prog 11 [itsV a, itsV b] [] (Ret (bo (decide (a = b)))) := by
  intro N
  induction N with
  | zero =>
    intro a b h
    cases a <;> simp at h
  | succ N ih =>
    intro a b hN hwa hwb
    have he := eqf_ok a b hwa.1 hwb.1 fun x hx y hy => by
      have h1 := hwa.2 x hx
      have h2 := hwb.2 y hy
      obtain ⟨n1, s1, l1, k1⟩ := x
      obtain ⟨n2, s2, l2, k2⟩ := y
      have hsz := sz_kids hx
      cases h1 with
      | mk _ _ _ _ w1 w2 w3 w4 w5 w6 =>
      cases h2 with
      | mk _ _ _ _ v1 v2 v3 v4 v5 v6 => exact same1_ok n1 s1 l1 k1 n2 s2 l2 k2 w2 v2 (ih k1 k2 (by omega) ⟨w5, w6⟩ ⟨v5, v6⟩)
    refine acalls_of_awp hT mixed Try.func11 rfl (by kernel_rfl) (by kernel_rfl) (Nat.le_of_ble_eq_true rfl) ?_
    cases q : decide (a = b) <;>
    · rw [q] at he
      refine callP he rfl rfl ?_
      refine end0 rfl rfl rfl rfl
end Go.Proofs.Ythebddjpnkimjaa.A
