/- ask, the reference: Right. No condition. -/
import Derived.Test.YtgchhmfobkcnfaaSf
namespace Go.Proofs.Ytgchhmfobkcnfaa.A
open Go
set_option linter.unusedVariables false
set_option linter.unusedSimpArgs false
set_option maxRecDepth 100000
set_option pp.maxSteps 400

theorem fldL_lt {k : Int} {f : Nat} (h : f ∈ fldL k) : f < 10 := by
  unfold fldL at h
  repeat' split at h
  all_goals simp at h
  all_goals omega
theorem rqN_iff {L : List Nat} {nm zr : Nat → Bool} : rqN 10 L nm zr = true ↔ ∀ f, f < 10 → rqF L nm zr f = true := by
  unfold rqN
  rw [decide_eq_true_eq]
theorem strEq_emp {s : ByteArray} : strEq s ⟨#[]⟩ = true ↔ s = emp := strEq_iff
theorem rq_iff (q : Rq) : rqB q = true ↔ (1 ≤ q.k ∧ q.k ≤ 17) ∧ q = bareQ q ∧ ∀ f ∈ fldL q.k, nmB q f = true := by
  unfold rqB
  rw [Bool.and_eq_true, decide_eq_true_eq, rqN_iff]
  have z0 : zrB q 0 = true ↔ q.w = 0 := beq_iff_eq
  have z1 : zrB q 1 = true ↔ q.l = [] := by show decide (q.l.length = 0) = true ↔ _; simp
  have z2 : zrB q 2 = true ↔ q.g = 0 := by show ((q.g : Int) == 0) = true ↔ _; rw [beq_iff_eq]; omega
  have z3 : zrB q 3 = true ↔ q.m = false := by show (!q.m) = true ↔ _; simp
  have z4 : zrB q 4 = true ↔ q.r = 0 := beq_iff_eq
  have z5 : zrB q 5 = true ↔ q.key = emp := strEq_emp
  have z6 : zrB q 6 = true ↔ q.vn = false ∧ q.vt = emp ∧ q.vb = 0 := by
    show zeroV _ _ _ = true ↔ _
    unfold zeroV
    simp only [Bool.and_eq_true, beq_iff_eq, strEq_emp, and_true]
    exact ⟨fun h => ⟨h.1, h.2.1, by omega⟩, fun h => ⟨h.1, h.2.1, by omega⟩⟩
  have z7 : zrB q 7 = true ↔ q.f = emp ∧ q.t = emp ∧ q.lim = 0 := by
    show zeroR _ _ _ = true ↔ _
    unfold zeroR
    simp only [Bool.and_eq_true, beq_iff_eq, strEq_emp, and_true]
  have z8 : zrB q 8 = true ↔ q.n = 0 := beq_iff_eq
  have z9 : zrB q 9 = true ↔ q.c = [] := by show decide (q.c.length = 0) = true ↔ _; simp
  have hq : q = bareQ q ↔ ∀ f, f < 10 → ¬ f ∈ fldL q.k → zrB q f = true := by
    unfold bareQ bareL
    rw [mem_sw]
    dsimp only
    generalize fldL q.k = L
    constructor
    · rintro ⟨-, h0, h1, h2, h3, h4, h5, ⟨h6, h6', h6''⟩, ⟨h7, h7', h7''⟩, h8, h9⟩ f hf hn
      match f, hf with
      | 0, _ => rw [if_neg hn] at h0; exact z0.2 h0
      | 1, _ => rw [if_neg hn] at h1; exact z1.2 h1
      | 2, _ => rw [if_neg hn] at h2; exact z2.2 h2
      | 3, _ => rw [if_neg hn] at h3; exact z3.2 h3
      | 4, _ => rw [if_neg hn] at h4; exact z4.2 h4
      | 5, _ => rw [if_neg hn] at h5; exact z5.2 h5
      | 6, _ => rw [if_neg hn] at h6 h6' h6''; exact z6.2 ⟨h6, h6', h6''⟩
      | 7, _ => rw [if_neg hn] at h7 h7' h7''; exact z7.2 ⟨h7, h7', h7''⟩
      | 8, _ => rw [if_neg hn] at h8; exact z8.2 h8
      | 9, _ => rw [if_neg hn] at h9; exact z9.2 h9
      | f + 10, h => exact absurd h (by omega)
    · intro h
      have key : ∀ {α : Type} (f : Nat) (x y : α), (¬ f ∈ L → x = y) → x = if f ∈ L then x else y := fun f x y hh => by
        by_cases hm : f ∈ L
        · rw [if_pos hm]
        · rw [if_neg hm]; exact hh hm
      exact ⟨rfl, key 0 _ _ fun n => z0.1 (h 0 (by omega) n), key 1 _ _ fun n => z1.1 (h 1 (by omega) n), key 2 _ _ fun n => z2.1 (h 2 (by omega) n), key 3 _ _ fun n => z3.1 (h 3 (by omega) n), key 4 _ _ fun n => z4.1 (h 4 (by omega) n), key 5 _ _ fun n => z5.1 (h 5 (by omega) n),
        ⟨key 6 _ _ fun n => (z6.1 (h 6 (by omega) n)).1, key 6 _ _ fun n => (z6.1 (h 6 (by omega) n)).2.1, key 6 _ _ fun n => (z6.1 (h 6 (by omega) n)).2.2⟩, ⟨key 7 _ _ fun n => (z7.1 (h 7 (by omega) n)).1, key 7 _ _ fun n => (z7.1 (h 7 (by omega) n)).2.1, key 7 _ _ fun n => (z7.1 (h 7 (by omega) n)).2.2⟩,
        key 8 _ _ fun n => z8.1 (h 8 (by omega) n), key 9 _ _ fun n => z9.1 (h 9 (by omega) n)⟩
  rw [hq]
  constructor
  · rintro ⟨h1, h2⟩
    refine ⟨h1, fun f hf hn => ?_, fun f hf => ?_⟩
    · have := h2 f hf
      unfold rqF at this
      rw [if_neg hn] at this
      exact this
    · have := h2 f (fldL_lt hf)
      unfold rqF at this
      rw [if_pos hf] at this
      exact this
  · rintro ⟨h1, h2, h3⟩
    refine ⟨h1, fun f hf => ?_⟩
    unfold rqF
    by_cases hm : f ∈ fldL q.k
    · rw [if_pos hm]; exact h3 f hm
    · rw [if_neg hm]; exact h2 f hf hm
end Go.Proofs.Ytgchhmfobkcnfaa.A
