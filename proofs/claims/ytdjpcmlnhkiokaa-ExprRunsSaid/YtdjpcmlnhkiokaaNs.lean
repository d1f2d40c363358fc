/- Whole numbers by the document, and the law NumWhole, by the functions that it calls. No condition. -/
import Derived.Test.YtdjpcmlnhkiokaaNr
namespace Go.Proofs.Ytdjpcmlnhkiokaa.A
open Go
set_option linter.unusedVariables false
set_option maxRecDepth 100000
set_option pp.maxSteps 1500

/-- By the parts e, f of a word: its sign ng. -/
def rwM (e f : Nat) : Nat := (4503599627370496 + f) / 2 ^ (1075 - e) * 2 ^ (e - 1075)
def rwO (ng : Bool) (e f : Nat) : Bool :=
  if e = 0 ∧ f = 0 then true else if e < 1023 ∨ 1086 < e then false else if (4503599627370496 + f) % 2 ^ (1075 - e) ≠ 0 then false
  else if ng = true then decide (rwM e f ≤ 9223372036854775808) else decide (rwM e f < 9223372036854775808)
noncomputable def rwN (ng : Bool) (e f : Nat) : Int :=
  if e = 0 ∧ f = 0 then 0 else if e < 1023 ∨ 1086 < e then 0 else if (4503599627370496 + f) % 2 ^ (1075 - e) ≠ 0 then 0
  else if ng = true then wrp .i64 (wrp .u64 (0 - (rwM e f : Int))) else wrp .i64 (rwM e f)
def RwSt (e f : Nat) : Type := { x : Nat × Nat × Nat // x.1 ≤ 1075 - e ∧ (4503599627370496 + f) % 2 ^ x.1 = 0 ∧ x.2.1 = (4503599627370496 + f) / 2 ^ x.1 ∧ x.2.2 = e + x.1 }
def RuSt (e q : Nat) : Type := { x : Nat × Nat × Nat // x.1 ≤ e - 1075 ∧ x.2.1 = q * 2 ^ x.1 ∧ x.2.2 = 1075 + x.1 }
theorem rwM_lt {e f : Nat} (he : e ≤ 1086) (hf : f < 4503599627370496) (j : Nat) (hj : j ≤ e - 1075) : (4503599627370496 + f) / 2 ^ (1075 - e) * 2 ^ j < 18446744073709551616 := by
  have h1 : (4503599627370496 + f) / 2 ^ (1075 - e) ≤ 9007199254740991 := Nat.le_trans (Nat.div_le_self _ _) (by omega)
  have h2 : 2 ^ j ≤ 2 ^ 11 := Nat.pow_le_pow_right (by decide) (by omega)
  have := Nat.mul_le_mul h1 h2
  omega
theorem half_step {m j : Nat} (h0 : m % 2 ^ j = 0) : (m / 2 ^ j % 2 = 0 ↔ m % 2 ^ (j + 1) = 0) ∧ m / 2 ^ j / 2 = m / 2 ^ (j + 1) := by
  refine ⟨?_, by rw [Nat.div_div_eq_div_mul, Nat.pow_succ]⟩
  have hp : 0 < 2 ^ j := Nat.pow_pos (by decide)
  have e : m = 2 ^ j * (m / 2 ^ j) := by
    have := Nat.div_add_mod m (2 ^ j)
    omega
  rw [Nat.pow_succ]
  generalize hq : m / 2 ^ j = q at *
  rw [e, Nat.mul_mod_mul_left]
  constructor
  · intro h; rw [h, Nat.mul_zero]
  · intro h
    rcases Nat.mul_eq_zero.1 h with h | h
    · omega
    · exact h
theorem rwM_eq {e f : Nat} (he1 : 1023 ≤ e) (he2 : e ≤ 1086) (hf : f < 4503599627370496) : rwM e f = intR (e * 4503599627370496 + f) := by
  have h1 : (e * 4503599627370496 + f) % 4503599627370496 = f := by omega
  have h2 : (e * 4503599627370496 + f) / 4503599627370496 = e := by omega
  unfold rwM intR
  rw [h1, h2]
  by_cases h : 1075 ≤ e
  · rw [if_pos (by omega), show 1075 - e = 0 by omega, Nat.pow_zero, Nat.div_one]
  · rw [if_neg (by omega), if_neg (by omega), show e - 1075 = 0 by omega, Nat.pow_zero, Nat.mul_one]
theorem truncR_eq {e f : Nat} (he1 : 1023 ≤ e) (hf : f < 4503599627370496) : truncR (e * 4503599627370496 + f) = e * 4503599627370496 + f ↔ (4503599627370496 + f) % 2 ^ (1075 - e) = 0 := by
  have h1 : (e * 4503599627370496 + f) % 4503599627370496 = f := by omega
  have h2 : (e * 4503599627370496 + f) / 4503599627370496 = e := by omega
  unfold truncR
  rw [h1, h2]
  by_cases h : 1075 ≤ e
  · rw [if_pos (by omega), show 1075 - e = 0 by omega, Nat.pow_zero]
    simp [Nat.mod_one]
  · rw [if_neg (by omega), if_neg (by omega), mod_lead (by omega)]
    have : f % 2 ^ (1075 - e) ≤ f := Nat.mod_le _ _
    omega
theorem rw_wh {b : Nat} (hb : b < 18446744073709551616) : (rwO (negB b) (b / 4503599627370496 % 2048) (b % 4503599627370496) = true ↔ whB b) ∧ (whB b → rwN (negB b) (b / 4503599627370496 % 2048) (b % 4503599627370496) = intB b) := by
  have hf : b % 4503599627370496 < 4503599627370496 := by omega
  have hr : b % 9223372036854775808 = b / 4503599627370496 % 2048 * 4503599627370496 + b % 4503599627370496 := by omega
  have hE : b / 4503599627370496 % 2048 < 2048 := by omega
  unfold whB inB intB
  rw [hr]
  generalize b / 4503599627370496 % 2048 = e at *
  generalize b % 4503599627370496 = f at *
  generalize negB b = ng
  unfold rwO rwN
  have hff : ∀ {p : Prop}, false = true → p := fun h => by cases h
  by_cases h0 : e = 0 ∧ f = 0
  · obtain ⟨rfl, rfl⟩ := h0
    rw [if_pos ⟨rfl, rfl⟩, if_pos ⟨rfl, rfl⟩]
    cases ng <;> exact ⟨⟨fun _ => by decide, fun _ => rfl⟩, fun _ => by decide⟩
  · rw [if_neg h0, if_neg h0]
    by_cases h1 : e < 1023 ∨ 1086 < e
    · rw [if_pos h1, if_pos h1]
      have hno : ¬ (((ng = true ∧ e * 4503599627370496 + f ≤ 4890909195324358656) ∨ (ng = false ∧ e * 4503599627370496 + f < 4890909195324358656)) ∧ truncR (e * 4503599627370496 + f) = e * 4503599627370496 + f) := by
        rintro ⟨hi, ht⟩
        rcases h1 with h1 | h1
        · unfold truncR at ht
          rw [if_neg (by omega), if_pos (by omega)] at ht
          omega
        · omega
      exact ⟨⟨fun h => hff h, fun h => absurd h hno⟩, fun h => absurd h hno⟩
    · rw [if_neg h1, if_neg h1]
      have he1 : 1023 ≤ e := by omega
      have he2 : e ≤ 1086 := by omega
      rw [truncR_eq he1 hf, rwM_eq he1 he2 hf]
      by_cases h2 : (4503599627370496 + f) % 2 ^ (1075 - e) ≠ 0
      · rw [if_pos h2, if_pos h2]
        exact ⟨⟨fun h => hff h, fun h => absurd h.2 h2⟩, fun h => absurd h.2 h2⟩
      · rw [if_neg h2, if_neg h2]
        have h2' : (4503599627370496 + f) % 2 ^ (1075 - e) = 0 := by simpa using h2
        have hbig : 4890909195324358656 ≤ e * 4503599627370496 + f → intR (e * 4503599627370496 + f) = (4503599627370496 + f) * 2048 := fun h => by
          have h3 : e = 1086 := by omega
          subst h3
          unfold intR
          rw [if_pos (by omega)]
          have h4 : (1086 * 4503599627370496 + f) % 4503599627370496 = f := by omega
          have h5 : (1086 * 4503599627370496 + f) / 4503599627370496 = 1086 := by omega
          rw [h4, h5]
        have hsm := fun h => intR_le (r := e * 4503599627370496 + f) h
        generalize intR (e * 4503599627370496 + f) = M at *
        cases ng
        · simp only [Bool.false_eq_true, if_false, false_and, false_or, true_and]
          have hiff : M < 9223372036854775808 ↔ e * 4503599627370496 + f < 4890909195324358656 := by
            constructor
            · intro h
              rcases Nat.lt_or_ge (e * 4503599627370496 + f) 4890909195324358656 with h3 | h3
              · exact h3
              · have := hbig h3; omega
            · intro h; exact (hsm (by omega)).2 h
          refine ⟨?_, fun h => ?_⟩
          · rw [decide_eq_true_eq, hiff]; simp [h2']
          · have := hiff.2 h.1
            rw [wrpE, wi64]; omega
        · simp only [if_true, true_and, Bool.true_eq_false, false_and, or_false]
          have hiff : M ≤ 9223372036854775808 ↔ e * 4503599627370496 + f ≤ 4890909195324358656 := by
            constructor
            · intro h
              rcases Nat.lt_or_ge 4890909195324358656 (e * 4503599627370496 + f) with h3 | h3
              · have := hbig (by omega); omega
              · exact h3
            · intro h; exact (hsm h).1
          refine ⟨?_, fun h => ?_⟩
          · rw [decide_eq_true_eq, hiff]; simp [h2']
          · have := hiff.2 h.1
            rw [wrpE, wrpE, wi64, wu64]; omega
end Go.Proofs.Ytdjpcmlnhkiokaa.A
