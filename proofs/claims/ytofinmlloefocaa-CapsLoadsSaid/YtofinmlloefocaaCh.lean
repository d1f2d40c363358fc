/- Caps: rights only grow. No condition. -/
import Derived.Test.YtofinmlloefocaaCg
namespace Go.Proofs.Ytofinmlloefocaa.A
open Go
set_option linter.unusedVariables false
set_option maxRecDepth 100000
set_option pp.maxSteps 1500

theorem hasS_or {p b x : Nat} (h : hasS p x = true) : hasS (p ||| b) x = true := by
  unfold hasS at h ⊢
  have h : ¬ p &&& bitS x = 0 := by simpa using h
  have : ¬ (p ||| b) &&& bitS x = 0 := fun hz => by
    refine h ?_
    apply Nat.eq_of_testBit_eq
    intro i
    have := congrArg (fun n => n.testBit i) hz
    simp only [Nat.testBit_and, Nat.testBit_or, Nat.zero_testBit] at this ⊢
    cases h1 : p.testBit i
    · simp
    · rw [h1] at this
      simpa using this
  simp [this]
theorem maskOf_set (g : Rg) (who : Int) (m : Bool) (x : Nat) (v : Int) (c : Bool) : maskOf (setR g who m x) v c = maskOf g v c ∨ ∃ b, maskOf (setR g who m x) v c = maskOf g v c ||| b := by
  unfold setR
  split
  · rename_i r hr
    by_cases hv : v.toNat = who.toNat
    · unfold maskOf
      rw [hv, List.getElem?_set_self (List.getElem?_eq_some_iff.1 hr).1, hr]
      cases m <;> cases c
      · exact .inr ⟨_, rfl⟩
      · exact .inl rfl
      · exact .inl rfl
      · exact .inr ⟨_, rfl⟩
    · left
      unfold maskOf
      rw [List.getElem?_set_ne (fun h => hv h.symm)]
  · exact .inl rfl
theorem has_set {g : Rg} {who v : Int} {m c : Bool} {x y : Nat} (h : hasS (maskOf g v c) y = true) : hasS (maskOf (setR g who m x) v c) y = true := by
  rcases maskOf_set g who m x v c with h1 | ⟨b, h1⟩
  · rw [h1]; exact h
  · rw [h1]; exact hasS_or h
theorem has_do {tags : Nat} {g : Rg} {e k w t v : Int} {m c : Bool} {x y : Nat} (h : hasS (maskOf g v c) y = true) : hasS (maskOf (doG tags g e k w t x m) v c) y = true := by
  unfold doG
  split
  · split
    · exact has_set h
    · exact has_set (has_set h)
  · exact h
theorem doG_len (tags : Nat) (g : Rg) (e k w t : Int) (x : Nat) (m : Bool) : (doG tags g e k w t x m).length = g.length := by
  unfold doG
  split
  · split
    · exact setR_len _ _ _ _
    · rw [setR_len, setR_len]
  · rfl
theorem doG_ok {g : Rg} (h : RgOk g) (tags : Nat) (e k w t : Int) (x : Nat) (m : Bool) : RgOk (doG tags g e k w t x m) := by
  unfold doG
  split
  · split
    · exact setR_ok h _ _ _
    · exact setR_ok (setR_ok h _ _ _) _ _ _
  · exact h
theorem clear_do {tags : Nat} {g : Rg} {e k w t who : Int} {m : Bool} {x : Nat} {a l : List Nat} (h : clearT g who a l = true) : clearT (doG tags g e k w t x m) who a l = true := by
  unfold clearT at h ⊢
  simp only [Bool.and_eq_true, Bool.not_eq_true'] at h ⊢
  refine ⟨?_, ?_⟩
  · have h1 := of_decide_eq_true h.1
    unfold oneT
    rw [doG_len]
    exact decide_eq_true h1
  · rw [List.any_eq_false] at h ⊢
    intro y hy
    have := h.2 y hy
    unfold bad at this ⊢
    simp only [Bool.and_eq_true, Bool.not_eq_true', not_and, Bool.not_eq_false] at this ⊢
    intro hn
    refine this ?_
    cases hq : hasS (maskOf g who false) y
    · rfl
    · rw [has_do hq] at hn
      cases hn
theorem clear_more {g : Rg} {who : Int} {a b l : List Nat} (h : clearT g who a l = true) : clearT g who (a ++ b) l = true := by
  unfold clearT at h ⊢
  simp only [Bool.and_eq_true, Bool.not_eq_true'] at h ⊢
  refine ⟨h.1, ?_⟩
  rw [List.any_eq_false] at h ⊢
  intro y hy
  have := h.2 y hy
  unfold bad at this ⊢
  simp only [Bool.and_eq_true, Bool.not_eq_true', not_and, Bool.not_eq_false, decide_eq_true_eq, decide_eq_false_iff_not, Classical.not_not] at this ⊢
  intro hn
  exact List.mem_append_left _ (this hn)
theorem doA_ok (tags : Nat) (g : Rg) (k w t : Int) (x : Nat) (m : Bool) (hg : RgOk g) (ht : tags < 1000000) (hx : x < 18446744073709551616) :
    ∃ e : Int, ACalls Try.prog 11 [.ptr 1 0, deed k w t x m] (tabH tags g) (RetH (.tup [u64 (doN tags e k x), i64 e]) (tabH (doTags tags e k) (doG tags g e k w t x m))) := by
  cases m
  · exact ⟨_, do_false tags g k w t x _ rfl hg ht hx⟩
  · exact ⟨_, do_true tags g k w t x _ rfl hg ht hx⟩
end Go.Proofs.Ytofinmlloefocaa.A
