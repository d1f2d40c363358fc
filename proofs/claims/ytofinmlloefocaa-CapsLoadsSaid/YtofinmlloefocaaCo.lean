/- Both tables go on telling the same: the plain law. No condition. -/
import Derived.Test.YtofinmlloefocaaCn
namespace Go.Proofs.Ytofinmlloefocaa.A
open Go
set_option linter.unusedVariables false
set_option maxRecDepth 100000
set_option pp.maxSteps 1500

theorem and_two (p i : Nat) : (!decide (p &&& 2 ^ i = 0)) = p.testBit i := by
  have e : ∀ j, (p &&& 2 ^ i).testBit j = (p.testBit j && decide (i = j)) := fun j => by rw [Nat.testBit_and, Nat.testBit_two_pow]
  cases hq : p.testBit i with
  | true =>
    have : p &&& 2 ^ i ≠ 0 := fun hz => by
      have := e i
      rw [hz, hq] at this
      simp at this
    rw [decide_eq_false this]
    rfl
  | false =>
    have : p &&& 2 ^ i = 0 := Nat.eq_of_testBit_eq fun j => by
      rw [e, Nat.zero_testBit]
      by_cases hj : i = j
      · subst hj
        rw [hq]
        rfl
      · rw [decide_eq_false hj, Bool.and_false]
    rw [decide_eq_true this]
    rfl
theorem hasS_bit (p y : Nat) : hasS p y = (decide (1 ≤ y ∧ y ≤ 16) && p.testBit (y - 1)) := by
  unfold hasS
  by_cases hy : 1 ≤ y ∧ y ≤ 16
  · rw [bitS_two (by omega), decide_eq_true hy, Bool.true_and, and_two]
  · have : bitS y = 0 := if_pos (by omega)
    rw [this, Nat.and_zero, decide_eq_false hy]
    rfl
theorem hasS_orbit {p x y : Nat} (hx : 1 ≤ x ∧ x ≤ 16) : hasS (p ||| bitS x) y = (hasS p y || decide (y = x)) := by
  rw [hasS_bit, hasS_bit, bitS_two (by omega), Nat.testBit_or, Nat.testBit_two_pow]
  by_cases hy : 1 ≤ y ∧ y ≤ 16
  · rw [decide_eq_true hy, Bool.true_and, Bool.true_and]
    congr 1
    exact decide_eq_decide.2 (by omega)
  · rw [decide_eq_false hy, Bool.false_and, Bool.false_and, Bool.false_or, decide_eq_false (by omega)]
theorem hasR_set {g : Rg} {who v : Int} {m c : Bool} {x y : Nat} (hx : 1 ≤ x ∧ x ≤ 16) (h : oneT g who = true) (hv : oneT g v = true) : hasR (setR g who m x) v c y = (hasR g v c y || decide ((v, y, c) = (who, x, m))) := by
  have h1 := of_decide_eq_true h
  have h2 := of_decide_eq_true hv
  obtain ⟨r, hr⟩ : ∃ r, g[v.toNat]? = some r := ⟨_, List.getElem?_eq_getElem (by omega)⟩
  have hs := setR_get (who := who) (m := m) (x := x) hr
  by_cases hw : v = who
  · subst hw
    rw [if_pos rfl] at hs
    unfold hasR maskOf
    rw [hr, hs]
    simp only [Option.map_some, Option.getD_some]
    cases m <;> cases c
    · simp only [Bool.false_eq_true, if_false]
      rw [hasS_orbit hx]
      congr 1
      exact decide_eq_decide.2 (by simp)
    · simp
    · simp
    · simp only [if_true]
      rw [hasS_orbit hx]
      congr 1
      exact decide_eq_decide.2 (by simp)
  · rw [if_neg (by omega)] at hs
    unfold hasR maskOf
    rw [hr, hs]
    have : ¬ (v, y, c) = (who, x, m) := fun hh => hw (by cases hh; rfl)
    rw [decide_eq_false this, Bool.or_false]
/-- The document's list behind a deed. -/
def doL (tags : Nat) (L : List Rt) (e k w t : Int) (x : Nat) (m : Bool) : List Rt := if e = 0 then (if k = 2 then L ++ [(t, x, m)] else L ++ [(w, tags + 1, false), (w, tags + 1, true)]) else L
theorem oneT_doG {tags : Nat} {g : Rg} {e k w t v : Int} {x : Nat} {m : Bool} : oneT (doG tags g e k w t x m) v = oneT g v := by
  unfold oneT
  rw [doG_len]
theorem rel_do {tags : Nat} {g : Rg} {L : List Rt} (h : Rel tags g L) {e k w t : Int} {x : Nat} {m : Bool} (he : checkE tags g k w t x m = e) : Rel (doTags tags e k) (doG tags g e k w t x m) (doL tags L e k w t x m) := by
  by_cases h0 : e = 0
  · rw [h0] at he ⊢
    rcases check_zero he with ⟨hk, ht, hx, hm, how, htag⟩ | ⟨hk, how, hot, hx1, hx2, hhas, hno⟩
    · have hk2 : ¬ k = 2 := by omega
      have hG : doG tags g 0 k w t x m = setR (setR g w false (tags + 1)) w true (tags + 1) := by unfold doG; rw [if_pos rfl, if_neg hk2]
      have hT' : doTags tags 0 k = tags + 1 := by unfold doTags; rw [if_pos ⟨rfl, hk2⟩]
      have hL' : doL tags L 0 k w t x m = L ++ [(w, tags + 1, false), (w, tags + 1, true)] := by unfold doL; rw [if_pos rfl, if_neg hk2]
      refine ⟨fun v y c hv => ?_, fun r hr => ?_, by rw [hT']; omega⟩
      · rw [oneT_doG] at hv
        rw [hG, hL', hasR_set (by omega) (by rw [oneT_set]; exact how) (by rw [oneT_set]; exact hv), hasR_set (by omega) how hv, h.same v y c hv, Bool.or_assoc, ← Bool.decide_or, ← Bool.decide_or]
        exact decide_eq_decide.2 (by simp)
      · rw [hL'] at hr
        rw [oneT_doG, hT']
        rcases List.mem_append.1 hr with hr | hr
        · have := h.inn r hr
          exact ⟨this.1, this.2.1, by omega⟩
        · simp at hr
          rcases hr with rfl | rfl
          · exact ⟨how, by simp, Nat.le_refl _⟩
          · exact ⟨how, by simp, Nat.le_refl _⟩
    · have hG : doG tags g 0 k w t x m = setR g t m x := by unfold doG; rw [if_pos rfl, if_pos hk]
      have hT' : doTags tags 0 k = tags := by unfold doTags; rw [if_neg (by omega)]
      have hL' : doL tags L 0 k w t x m = L ++ [(t, x, m)] := by unfold doL; rw [if_pos rfl, if_pos hk]
      have := h.tag
      refine ⟨fun v y c hv => ?_, fun r hr => ?_, by rw [hT']; exact h.tag⟩
      · rw [oneT_doG] at hv
        rw [hG, hL', hasR_set (by omega) hot hv, h.same v y c hv, ← Bool.decide_or]
        exact decide_eq_decide.2 (by simp)
      · rw [hL'] at hr
        rw [oneT_doG, hT']
        rcases List.mem_append.1 hr with hr | hr
        · exact h.inn r hr
        · simp at hr
          subst hr
          exact ⟨hot, hx1, hx2⟩
  · have hG : doG tags g e k w t x m = g := if_neg h0
    have hT' : doTags tags e k = tags := if_neg (fun hh => h0 hh.1)
    have hL' : doL tags L e k w t x m = L := if_neg h0
    rw [hG, hT', hL']
    exact h
/-- The tags of somebody, rising. -/
def listS (p : Nat) : List Nat := (List.range' 1 16).filter fun x => hasS p x
def setL (tags : Nat) (L : List Rt) (w : Int) (m : Bool) : List Nat := (List.range' 1 tags).filter fun x => decide ((w, x, m) ∈ L)
theorem set_list {tags : Nat} {g : Rg} {L : List Rt} (h : Rel tags g L) {w : Int} {m : Bool} (hw : oneT g w = true) : setL tags L w m = listS (maskOf g w m) := by
  unfold setL listS
  have h16 := h.tag
  have hs : List.range' 1 16 = List.range' 1 tags ++ List.range' (1 + tags) (16 - tags) := by
    have h16' : 16 = tags + (16 - tags) := by omega
    rw [List.range'_append_1, ← h16']
  rw [hs, List.filter_append]
  have e1 : (List.range' (1 + tags) (16 - tags)).filter (fun x => hasS (maskOf g w m) x) = [] := by
    rw [List.filter_eq_nil_iff]
    intro x hx
    rw [List.mem_range'_1] at hx
    have := h.same w x m hw
    unfold hasR at this
    rw [this]
    intro hd
    have := (h.inn _ (of_decide_eq_true hd)).2.2
    have : x ≤ tags := this
    omega
  rw [e1, List.append_nil]
  refine List.filter_congr fun x _ => ?_
  have := h.same w x m hw
  unfold hasR at this
  exact this.symm
theorem rel_clear {tags : Nat} {g : Rg} {L : List Rt} (h : Rel tags g L) {w : Int} {a l : List Nat} : (!(l.any fun x => !decide (x ∈ a) && !decide ((w, x, false) ∈ L)) && oneT g w) = clearT g w a l := by
  unfold clearT
  cases hw : oneT g w with
  | false => simp
  | true =>
    rw [Bool.and_true, Bool.true_and]
    congr 1
    congr 1
    funext x
    unfold bad
    have := h.same w x false hw
    unfold hasR at this
    rw [← this, Bool.and_comm]
end Go.Proofs.Ytofinmlloefocaa.A
