/- lists behind one another; each once. No condition. -/
import Derived.Test.YtmfifbclldnpkaaLd
namespace Go.Proofs.Ytmfifbclldnpkaa.A
open Go
set_option linter.unusedVariables false
set_option maxRecDepth 100000
set_option pp.maxSteps 1500

theorem zerosU (n : Nat) : zerosA ti23.zero n = (List.replicate n 0).map u64n := by
  unfold zerosA
  induction n with
  | zero => rfl
  | succ n ih => rw [List.replicate_succ, List.replicate_succ, List.flatten_cons, ih]; rfl
theorem grow_ok (n : Nat) (hn : n ≤ 1000) : ACalls Try.prog 45 [nilS, i64 (n : Nat)] [] (fun E G => (n = 0 ∧ E = .ret nilS ∧ G = []) ∨ ∃ R : List Nat, 0 < n ∧ E = .ret (.slc 0 0 0 1) ∧ G = [.row (R.map u64n)]) := by
  have hw : wrp .i64 ((n : Int) - wrp .i64 (0 - 0)) = ((n : Nat) : Int) := by rw [wrpE, wrpE, wi64, wi64]; omega
  refine acalls_of_awp hT mixed Try.func45 rfl (by kernel_rfl) (by kernel_rfl) (Nat.le_of_ble_eq_true rfl) ?_
  refine forkD (fun h => ?_) (fun h => ?_)
  · have h' : 0 < n := by
      have : wrp .i64 ((n : Int) - wrp .i64 (0 - 0)) > 0 := h
      rw [hw] at this
      omega
    refine Ob.intro ⟨rfl, rfl, rfl⟩ ?_
    refine Ob.intro (show (0 : Int) ≤ wrp .i64 ((n : Int) - wrp .i64 (0 - 0)) ∧ wrp .i64 ((n : Int) - wrp .i64 (0 - 0)) ≤ 140737488355328 ∧ wrp .i64 ((n : Int) - wrp .i64 (0 - 0)) * (8 : Nat) ≤ 140737488355328 by rw [hw]; omega) ?_
    refine If.intro (fun hb => ?_) (fun hb => ?_)
    · exfalso
      have : (wrp .i64 ((n : Int) - wrp .i64 (0 - 0))).toNat = 0 := Nat.eq_of_beq_eq_true hb
      rw [hw] at this
      omega
    refine Ob.intro (show (wrp .i64 ((n : Int) - wrp .i64 (0 - 0))).toNat * 8 ≤ 140737488355328 ∧ (wrp .i64 ((n : Int) - wrp .i64 (0 - 0))).toNat ≤ 9223372036854775807 by rw [hw]; omega) ?_
    refine Ob.intro (show (0 : Int) ≤ 0 ∧ (0 : Int) ≤ 0 ∧ (0 : Int) ≤ (wrp .i64 ((n : Int) - wrp .i64 (0 - 0))).toNat by omega) ?_
    refine ⟨rfl, [.row (zerosA ti23.zero (wrp .i64 ((n : Int) - wrp .i64 (0 - 0))).toNat)], .slc 0 0 0 1, ⟨⟨_, rfl, rfl⟩, ⟨.inl rfl, True.intro⟩, Nat.zero_le _, ?_⟩, .inr ⟨List.replicate n 0, h', rfl, ?_⟩⟩
    · rw [zerosU]
      exact belowH_us _
    · rw [zerosU, hw]
      rfl
  · have h' : n = 0 := by
      have : ¬ wrp .i64 ((n : Int) - wrp .i64 (0 - 0)) > 0 := h
      rw [hw] at this
      omega
    exact ⟨rfl, [], nilS, ⟨⟨_, rfl, rfl⟩, True.intro, Nat.zero_le _, rfl⟩, .inl ⟨h', rfl, rfl⟩⟩
def vws (LL : List (List Nat)) : AV := .view LL.length (LL.map us)
structure CatSt (LL : List (List Nat)) where
  k : Nat
  R : List Nat
  m : Nat
  hk : k ≤ LL.length
  hm : m ≤ R.length
  hR : R.take m = (LL.take k).flatten
theorem flat_le (LL : List (List Nat)) (k : Nat) : (LL.take k).flatten.length ≤ LL.flatten.length := by
  have : LL.flatten = (LL.take k).flatten ++ (LL.drop k).flatten := by rw [← List.flatten_append, List.take_append_drop]
  rw [this, List.length_append]
  omega
theorem concat_ok (LL : List (List Nat)) (hn : LL.flatten.length ≤ 1000) (h2 : LL.length ≤ 1000) : ACalls Try.prog 36 [vws LL] [] (fun E G => (LL.flatten = [] ∧ E = .ret nilS ∧ G = []) ∨ ∃ (R : List Nat) (m : Nat), m ≤ R.length ∧ R.take m = LL.flatten ∧ E = .ret (.slc 0 0 m 1) ∧ G = [.row (R.map u64n)]) := by
  have hg := grow_ok LL.flatten.length hn
  refine acalls_of_awp hT mixed Try.func36 rfl (by kernel_rfl) (by kernel_rfl) (Nat.le_of_ble_eq_true rfl) ?_
  refine loopI (α := { k : Nat // k ≤ LL.length }) (fun z => [(0, vws LL), (3, i64 ((LL.take z.val).flatten.length : Nat)), (9, vws LL), (10, i64 LL.length), (11, i64 (z.val : Nat))]) (fun _ => []) (fun z => LL.length - z.val) ⟨0, Nat.zero_le _⟩ [] ⟨⟨rfl, rfl, rfl, rfl, rfl, True.intro⟩, True.intro, rfl, rfl, rfl⟩ ?_
  rintro ⟨k, hk⟩ K hK
  have hinc : wrp .i64 ((k : Int) + 1) = ((k + 1 : Nat) : Int) := by rw [wrpE, wi64]; omega
  refine forkD (fun h => ?_) (fun h => ?_)
  · have h' : k < LL.length := by have : (k : Int) < (LL.length : Int) := h; omega
    obtain ⟨l, hl⟩ : ∃ l, LL[k]? = some l := ⟨_, List.getElem?_eq_getElem h'⟩
    have hf : (LL.take (k + 1)).flatten = (LL.take k).flatten ++ l := by rw [take_snocA hl, List.flatten_append]; simp
    have hle := flat_le LL (k + 1)
    rw [hf, List.length_append] at hle
    have hw : wrp .i64 (((LL.take k).flatten.length : Int) + (l.length : Int)) = (((LL.take (k + 1)).flatten.length : Nat) : Int) := by rw [hf, List.length_append, wrpE, wi64]; omega
    refine Ob.intro (show (0 : Int) ≤ (k : Nat) ∧ ((k : Nat) : Int) < (LL.length : Nat) by omega) ?_
    refine optK_intro (nth_map hl) ?_
    refine forkD (fun g => ?_) (fun g => ?_)
    · exfalso
      have : wrp .i64 (((LL.take k).flatten.length : Int) + (l.length : Int)) < 0 := g
      rw [hw] at this
      omega
    refine hK ⟨k + 1, h'⟩ [] _ (show LL.length - k = LL.length - (k + 1) + 1 by omega) ⟨⟨rfl, congrArg i64 hw, rfl, rfl, congrArg i64 hinc, True.intro⟩, True.intro, rfl, rfl, rfl⟩
  have h' : k = LL.length := by have : ¬ (k : Int) < (LL.length : Int) := h; omega
  subst h'
  have htk : LL.take LL.length = LL := List.take_length
  rw [← htk] at hg
  refine callS hg [] True.intro rfl ?_
  rintro E G hR _
  rcases hR with ⟨h0, rfl, rfl⟩ | ⟨R, h0, rfl, rfl⟩
  · rw [htk] at h0
    have hnil : LL.flatten = [] := List.eq_nil_of_length_eq_zero h0
    refine ⟨_, _, rfl, rfl, ?_⟩
    refine loopI (α := { k : Nat // k ≤ LL.length }) (fun z => [(6, nilS), (25, vws LL), (26, i64 LL.length), (27, i64 (z.val : Nat))]) (fun _ => []) (fun z => LL.length - z.val) ⟨0, Nat.zero_le _⟩ [] ⟨⟨rfl, rfl, rfl, rfl, True.intro⟩, True.intro, rfl, rfl, rfl⟩ ?_
    rintro ⟨k, hk⟩ K2 hK2
    have hinc : wrp .i64 ((k : Int) + 1) = ((k + 1 : Nat) : Int) := by rw [wrpE, wi64]; omega
    refine forkD (fun h => ?_) (fun h => ?_)
    · have h' : k < LL.length := by have : (k : Int) < (LL.length : Int) := h; omega
      obtain ⟨l, hl⟩ : ∃ l, LL[k]? = some l := ⟨_, List.getElem?_eq_getElem h'⟩
      have hl0 : l = [] := by
        have hm := List.mem_of_getElem? hl
        exact List.flatten_eq_nil_iff.1 hnil l hm
      subst hl0
      refine Ob.intro (show (0 : Int) ≤ (k : Nat) ∧ ((k : Nat) : Int) < (LL.length : Nat) by omega) ?_
      refine optK_intro (nth_map hl) ?_
      refine Ob.intro rfl ?_
      refine hK2 ⟨k + 1, h'⟩ [] _ (show LL.length - k = LL.length - (k + 1) + 1 by omega) ⟨⟨rfl, rfl, rfl, congrArg i64 hinc, True.intro⟩, True.intro, rfl, rfl, rfl⟩
    · exact ⟨rfl, [], nilS, ⟨⟨_, rfl, rfl⟩, True.intro, Nat.zero_le _, rfl⟩, .inl ⟨hnil, rfl, rfl⟩⟩
  · refine ⟨_, [.row (R.map u64n)], rfl, by rw [renH_us]; rfl, ?_⟩
    refine loopI (α := CatSt LL) (fun z => [(6, .slc 0 0 z.m 1), (25, vws LL), (26, i64 LL.length), (27, i64 (z.k : Nat))]) (fun z => [.row (z.R.map u64n)]) (fun z => LL.length - z.k) ⟨0, R, 0, Nat.zero_le _, Nat.zero_le _, rfl⟩ [0] ⟨⟨rfl, rfl, rfl, rfl, True.intro⟩, ⟨.inl (by rw [renO_us]; rfl), True.intro⟩, rfl, rfl, rfl⟩ ?_
    rintro ⟨k, R2, m, hk, hm, hR⟩ K2 hK2
    have hinc : wrp .i64 ((k : Int) + 1) = ((k + 1 : Nat) : Int) := by rw [wrpE, wi64]; omega
    refine forkD (fun h => ?_) (fun h => ?_)
    · have h' : k < LL.length := by have : (k : Int) < (LL.length : Int) := h; omega
      obtain ⟨l, hl⟩ : ∃ l, LL[k]? = some l := ⟨_, List.getElem?_eq_getElem h'⟩
      have hf : (LL.take (k + 1)).flatten = (LL.take k).flatten ++ l := by rw [take_snocA hl, List.flatten_append]; simp
      have hle := flat_le LL (k + 1)
      rw [hf, ← hR, List.length_append, List.length_take, Nat.min_eq_left hm] at hle
      have hrd : rdN [.row (R2.map u64n)] 0 0 (m * 1) = some ((R2.take m).map u64n) := by
        rw [rdN_eq (cs := R2.map u64n) rfl (by rw [List.length_map]; omega), List.drop_zero, Nat.mul_one, List.map_take]
      refine Ob.intro (show (0 : Int) ≤ (k : Nat) ∧ ((k : Nat) : Int) < (LL.length : Nat) by omega) ?_
      refine optK_intro (nth_map hl) ?_
      refine optK_intro (srcA_us _ l) ?_
      refine Ob.intro (allC_us l) ?_
      refine optK_intro hrd ?_
      refine Ob.intro (show (m + l.length) * 8 ≤ 140737488355328 ∧ m + l.length ≤ 9223372036854775807 by omega) ?_
      refine hK2 ⟨k + 1, R2.take m ++ l, m + l.length, h', by rw [List.length_append, List.length_take, Nat.min_eq_left hm]; exact Nat.le_refl _, by rw [hf, ← hR, List.take_of_length_le (by rw [List.length_append, List.length_take, Nat.min_eq_left hm]; exact Nat.le_refl _)]⟩ [1] _ (show LL.length - k = LL.length - (k + 1) + 1 by omega) ⟨⟨rfl, rfl, rfl, congrArg i64 hinc, True.intro⟩, ⟨.inl ?_, True.intro⟩, rfl, rfl, rfl⟩
      show some (AObj.row ((R2.take m).map u64n ++ l.map u64n)) = some (renO _ (.row ((R2.take m ++ l).map u64n)))
      rw [renO_us, List.map_append]
    · have h' : k = LL.length := by have : ¬ (k : Int) < (LL.length : Int) := h; omega
      rw [h', htk] at hR
      exact ⟨rfl, [.row (R2.map u64n)], .slc 0 0 m 1, ⟨⟨_, rfl, rfl⟩, ⟨.inl rfl, True.intro⟩, Nat.zero_le _, belowH_us R2⟩, .inr ⟨R2, m, hm, hR, rfl, rfl⟩⟩
end Go.Proofs.Ytmfifbclldnpkaa.A
