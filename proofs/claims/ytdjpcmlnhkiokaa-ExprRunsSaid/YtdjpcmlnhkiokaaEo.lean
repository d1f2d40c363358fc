/- expr: one step, by the document, whole. No condition. -/
import Derived.Test.YtdjpcmlnhkiokaaEn
namespace Go.Proofs.Ytdjpcmlnhkiokaa.A
open Go
set_option linter.unusedVariables false
set_option maxRecDepth 100000
set_option pp.maxSteps 1500

theorem class15 {a : Nat} (h : cW a) : (nanB a = true → classB a = 0) ∧ (nanB a = false → infB a = true → classB a = 1 ∨ classB a = 8) ∧ (nanB a = false → infB a = false → classB a ≠ 0 ∧ classB a ≠ 1 ∧ classB a ≠ 8) := by
  unfold classB
  rw [h.2]
  refine ⟨fun hn => ?_, fun hn hi => ?_, fun hn hi => ?_⟩
  · have : a = nanW := by
      have := h.2
      unfold bitsB at this
      rw [if_pos hn] at this
      exact this.symm
    subst this
    rfl
  · unfold infB at hi
    rw [decide_eq_true_eq] at hi
    unfold classM
    rw [hi, if_neg (by decide)]
    split
    · exact .inl rfl
    · exact .inr rfl
  · unfold infB at hi
    rw [decide_eq_false_iff_not] at hi
    unfold nanB at hn
    rw [decide_eq_false_iff_not] at hn
    unfold classM
    rw [if_neg (by omega)]
    split
    · split
      · decide
      · split <;> decide
    · split
      · decide
      · split <;> decide
theorem rStep15 (own x off k : Nat) (l : List Nat) (hc : ∀ b ∈ l, cW b) (hk : k = 1) (hl : off + 1 ≤ l.length) : ACalls Try.prog 27 [i64 15, fl own, fl x, .slc 0 off k 1] [.row (l.map fl)] (RStepR (outS 15 own x ((l.drop off).take 1)) l) := by
  subst hk
  obtain ⟨a, ha, hca, hq⟩ : ∃ a, l[off]? = some a ∧ cW a ∧ (l.drop off).take 1 = [a] := by
    have h := List.getElem?_eq_getElem (l := l) (i := off) (by omega)
    exact ⟨l[off], h, hc _ (List.getElem_mem _), take1 h⟩
  rw [hq]
  have hi0 : (0 : Int) ≤ 0 ∧ 0 < ((1 : Nat) : Int) := by decide
  have hx : ∀ G : Heap, rd1 (.row (l.map fl) :: G) 0 (off + (0 : Int).toNat * 1) = some (fl a) := fun G => rd1_at rfl ha rfl
  have hC := rClass_ok a hca.1
  obtain ⟨c1, c2, c3⟩ := class15 hca
  have e : outS 15 own x [a] = if nanB a = true then none else if infB a = true then none else some [bitsB a] := rfl
  cases hn : nanB a with
  | true =>
    have e0 : outS 15 own x [a] = none := by rw [e, if_pos hn]
    rw [c1 hn] at hC
    rw [e0]
    refine acalls_of_awp hT mixed Try.func27 rfl (by kernel_rfl) (by kernel_rfl) (Nat.le_of_ble_eq_true rfl) ?_
    refine Ob.intro hi0 ?_
    refine optK_intro (hx _) ?_
    refine callP hC rfl rfl ?_
    refine Ob.intro (by decide) ?_
    refine endG rfl rfl rfl (G := [.row (l.map fl)]) ⟨.inl rfl, True.intro⟩ (Nat.le_refl 1) (below1 _) ⟨_, _, rfl, rfl⟩
  | false =>
    cases hi : infB a with
    | true =>
      have e0 : outS 15 own x [a] = none := by rw [e, if_neg (by rw [hn]; decide), if_pos hi]
      rcases c2 hn hi with h | h <;> rw [h] at hC
      · rw [e0]
        refine acalls_of_awp hT mixed Try.func27 rfl (by kernel_rfl) (by kernel_rfl) (Nat.le_of_ble_eq_true rfl) ?_
        refine Ob.intro hi0 ?_
        refine optK_intro (hx _) ?_
        refine callP hC rfl rfl ?_
        refine Ob.intro (by decide) ?_
        refine endG rfl rfl rfl (G := [.row (l.map fl)]) ⟨.inl rfl, True.intro⟩ (Nat.le_refl 1) (below1 _) ⟨_, _, rfl, rfl⟩
      · rw [e0]
        refine acalls_of_awp hT mixed Try.func27 rfl (by kernel_rfl) (by kernel_rfl) (Nat.le_of_ble_eq_true rfl) ?_
        refine Ob.intro hi0 ?_
        refine optK_intro (hx _) ?_
        refine callP hC rfl rfl ?_
        refine Ob.intro (by decide) ?_
        refine endG rfl rfl rfl (G := [.row (l.map fl)]) ⟨.inl rfl, True.intro⟩ (Nat.le_refl 1) (below1 _) ⟨_, _, rfl, rfl⟩
    | false =>
      have e0 : outS 15 own x [a] = some [a] := by rw [e, if_neg (by rw [hn]; decide), if_neg (by rw [hi]; decide), hca.2]
      obtain ⟨h1, h2, h3⟩ := c3 hn hi
      generalize classB a = c at *
      have n1 : (c == 0) = false := beq_eq_false_iff_ne.2 h1
      have n2 : (c == 1) = false := beq_eq_false_iff_ne.2 h2
      have n3 : (c == 8) = false := beq_eq_false_iff_ne.2 h3
      rw [e0]
      refine acalls_of_awp hT mixed Try.func27 rfl (by kernel_rfl) (by kernel_rfl) (Nat.le_of_ble_eq_true rfl) ?_
      refine Ob.intro hi0 ?_
      refine optK_intro (hx _) ?_
      refine callP hC rfl rfl ?_
      refine Ob.intro (by decide) ?_
      refine fork (fun q => ?_) (fun q => absurd (show (!(c == 0)) = false from q) (by rw [n1]; decide))
      refine fork (fun q => ?_) (fun q => absurd (show (!(c == 1)) = false from q) (by rw [n2]; decide))
      refine fork (fun q => ?_) (fun q => absurd (show (!(c == 8)) = false from q) (by rw [n3]; decide))
      refine endG rfl rfl rfl (G := [.row (l.map fl)]) ⟨.inl rfl, True.intro⟩ (Nat.le_refl 1) (below1 _) (.inr ⟨off + 0, rfl, rfl, take1 ha, by show off + 0 + 1 ≤ _; omega⟩)
theorem rStep16 (own x off k : Nat) (l : List Nat) (hc : ∀ b ∈ l, cW b) (hk : k = 3) (hl : off + 3 ≤ l.length) : ACalls Try.prog 27 [i64 16, fl own, fl x, .slc 0 off k 1] [.row (l.map fl)] (RStepR (outS 16 own x ((l.drop off).take 3)) l) := by
  subst hk
  obtain ⟨a, b, c, ha, hb, hcc, hca, hcb, hcw, hq⟩ : ∃ a b c, l[off]? = some a ∧ l[off + 1]? = some b ∧ l[off + 2]? = some c ∧ cW a ∧ cW b ∧ cW c ∧ (l.drop off).take 3 = [a, b, c] := by
    have h := List.getElem?_eq_getElem (l := l) (i := off) (by omega)
    have h' := List.getElem?_eq_getElem (l := l) (i := off + 1) (by omega)
    have h'' := List.getElem?_eq_getElem (l := l) (i := off + 2) (by omega)
    refine ⟨l[off], l[off + 1], l[off + 2], h, h', h'', hc _ (List.getElem_mem _), hc _ (List.getElem_mem _), hc _ (List.getElem_mem _), ?_⟩
    rw [List.drop_eq_getElem_cons (by omega), List.drop_eq_getElem_cons (by omega), List.drop_eq_getElem_cons (by omega)]
    rfl
  rw [hq]
  have hi0 : (0 : Int) ≤ 2 ∧ 2 < ((3 : Nat) : Int) := by decide
  have hx : ∀ G : Heap, rd1 (.row (l.map fl) :: G) 0 (off + (2 : Int).toNat * 1) = some (fl c) := fun G => rd1_at rfl hcc rfl
  have hC := rClass_ok c hcw.1
  have e : outS 16 own x [a, b, c] = if decide (5 < classB c) = true then some [bitsB a] else some [bitsB b] := rfl
  by_cases h : 5 < classB c
  · have e0 : outS 16 own x [a, b, c] = some [a] := by rw [e, if_pos (decide_eq_true h), hca.2]
    rw [e0]
    generalize classB c = d at *
    refine acalls_of_awp hT mixed Try.func27 rfl (by kernel_rfl) (by kernel_rfl) (Nat.le_of_ble_eq_true rfl) ?_
    refine Ob.intro hi0 ?_
    refine optK_intro (hx _) ?_
    refine callP hC rfl rfl ?_
    refine forkD (fun q => ?_) (fun q => absurd (show (6 : Int) ≤ d by omega) q)
    refine Ob.intro (by decide) ?_
    refine endG rfl rfl rfl (G := [.row (l.map fl)]) ⟨.inl rfl, True.intro⟩ (Nat.le_refl 1) (below1 _) (.inr ⟨off + 0, rfl, rfl, take1 ha, by show off + 0 + 1 ≤ _; omega⟩)
  · have e0 : outS 16 own x [a, b, c] = some [b] := by rw [e, if_neg (by rw [decide_eq_false h]; decide), hcb.2]
    rw [e0]
    generalize classB c = d at *
    refine acalls_of_awp hT mixed Try.func27 rfl (by kernel_rfl) (by kernel_rfl) (Nat.le_of_ble_eq_true rfl) ?_
    refine Ob.intro hi0 ?_
    refine optK_intro (hx _) ?_
    refine callP hC rfl rfl ?_
    refine forkD (fun q => absurd (show (6 : Int) ≤ d from q) (by omega)) (fun q => ?_)
    refine Ob.intro (by decide) ?_
    refine endG rfl rfl rfl (G := [.row (l.map fl)]) ⟨.inl rfl, True.intro⟩ (Nat.le_refl 1) (below1 _) (.inr ⟨off + 1, rfl, rfl, take1 hb, by show off + 1 + 1 ≤ _; omega⟩)
theorem rStep_ok (op : Int) (own x off k : Nat) (l : List Nat) (hc : ∀ b ∈ l, cW b) (hk : k = takesS op) (hl : off + takesS op ≤ l.length) (hop : 1 ≤ op ∧ op ≤ 16) (hx : x < 18446744073709551616) (ho : op = 2 → bitsB own = own) : ACalls Try.prog 27 [i64 op, fl own, fl x, .slc 0 off k 1] [.row (l.map fl)] (RStepR (outS op own x ((l.drop off).take (takesS op))) l) := by
  have hq : op = 1 ∨ op = 2 ∨ op = 3 ∨ op = 4 ∨ op = 5 ∨ op = 6 ∨ op = 7 ∨ op = 8 ∨ op = 9 ∨ op = 10 ∨ op = 11 ∨ op = 12 ∨ op = 13 ∨ op = 14 ∨ op = 15 ∨ op = 16 := by omega
  rcases hq with rfl | rfl | rfl | rfl | rfl | rfl | rfl | rfl | rfl | rfl | rfl | rfl | rfl | rfl | rfl | rfl
  · exact rStep1 own x off k l hc hk hl hx
  · exact rStep2 own x off k l hc hk hl (ho rfl)
  · exact rStep3 own x off k l hc hk hl
  · exact rStep4 own x off k l hc hk hl
  · exact rStep5 own x off k l hc hk hl
  · exact rStep6 own x off k l hc hk hl
  · exact rStep7 own x off k l hc hk hl
  · exact rStep8 own x off k l hc hk hl
  · exact rStep9 own x off k l hc hk hl
  · exact rStep10 own x off k l hc hk hl
  · exact rStep11 own x off k l hc hk hl
  · exact rStep12 own x off k l hc hk hl
  · exact rStep13 own x off k l hc hk hl
  · exact rStep14 own x off k l hc hk hl
  · exact rStep15 own x off k l hc hk hl
  · exact rStep16 own x off k l hc hk hl
end Go.Proofs.Ytdjpcmlnhkiokaa.A
