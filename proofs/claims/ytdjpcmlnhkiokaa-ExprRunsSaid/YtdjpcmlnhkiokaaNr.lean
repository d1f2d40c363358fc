/- Whole numbers, and the law NumWhole, by the functions that it calls. No condition. -/
import Derived.Test.YtdjpcmlnhkiokaaNq
namespace Go.Proofs.Ytdjpcmlnhkiokaa.A
open Go
set_option linter.unusedVariables false
set_option maxRecDepth 100000
set_option pp.maxSteps 1500

theorem archTrunc_ok (b : Nat) (h : b % 9223372036854775808 ≤ 4890909195324358656) : ACalls Try.prog 52 [fl b] [] (Ret (fl (truncB b))) := by
  refine ext_calls (e := Extern.MathFloor.toIntegral "math.archTrunc" .zero) (show Try.prog.funcs[52]? = some Try.f52 from Try.func52) (by kernel_rfl) rfl (by kernel_rfl) (by kernel_rfl) ?_
  intro X vs hr hv
  obtain ⟨v, rfl, hw⟩ := VL_one hv
  rw [fl, VR_sc_float] at hw
  subst hw
  refine ⟨_, fl (truncB b), ?_, VR_sc_float.2 rfl, rfl, rfl⟩
  have hd : FloatKind.f64.decode b = .number (negB b) (mR (b % 9223372036854775808)) (Ieee.double.leastPlace + (eR (b % 9223372036854775808) : Nat)) := read_fin (by omega)
  have ht := trunc_enc h
  rw [hd] at ht
  obtain ⟨F, hF, hn⟩ : ∃ F : Ieee.Datum → Sem Value, Extern.MathFloor.toIntegral "math.archTrunc" .zero #[.float .f64 b] = F (FloatKind.f64.decode b) ∧ ∀ s m e, F (.number s m e) = pure (.float .f64 (FloatKind.f64.encode ((Ieee.Datum.number s m e).integral .zero))) :=
    ⟨fun d => Extern.MathFloor.toIntegral.match_1 (fun _ => Sem Value) d _ _, rfl, fun _ _ _ => rfl⟩
  rw [hF, hd, hn, ht]
  rfl
theorem trunc_ok (b : Nat) (h : b % 9223372036854775808 ≤ 4890909195324358656) : ACalls Try.prog 50 [fl b] [] (Ret (fl (truncB b))) := by
  refine acalls_of_awp hT mixed Try.func50 rfl (by kernel_rfl) (by kernel_rfl) (Nat.le_of_ble_eq_true rfl) ?_
  refine callP (archTrunc_ok b h) rfl rfl ?_
  refine end0 rfl rfl rfl rfl
/-- Is it a whole number that can be told? -/
def inB (b : Nat) : Prop := (negB b = true ∧ b % 9223372036854775808 ≤ 4890909195324358656) ∨ (negB b = false ∧ b % 9223372036854775808 < 4890909195324358656)
def whB (b : Nat) : Prop := inB b ∧ truncR (b % 9223372036854775808) = b % 9223372036854775808
instance (b : Nat) : Decidable (inB b) := inferInstanceAs (Decidable (_ ∨ _))
instance (b : Nat) : Decidable (whB b) := inferInstanceAs (Decidable (_ ∧ _))
def intB (b : Nat) : Int := if negB b = true then -(intR (b % 9223372036854775808) : Int) else (intR (b % 9223372036854775808) : Int)
theorem inB_le {b : Nat} (h : inB b) : b % 9223372036854775808 ≤ 4890909195324358656 := by
  rcases h with h | h <;> omega
theorem nan_order {a b : Nat} (h : nanB a = true) : FloatKind.f64.format.order a b = none := by
  have hs : Ieee.double.signWeight = 9223372036854775808 := rfl
  have hi : Ieee.double.infRung = 9218868437227405312 := rfl
  have hb : Ieee.double.binade = 4503599627370496 := rfl
  have hn := of_decide_eq_true h
  show (Ieee.double.read a).order (Ieee.double.read b) = _
  have : Ieee.double.read a = .nan (negB a) (a % 9223372036854775808 - 9218868437227405312) := by
    unfold Ieee.Format.read
    simp only [hs, hi, hb]
    rw [if_neg (by omega), if_neg (by omega), if_neg (by omega)]
    rfl
  rw [this]
  cases Ieee.double.read b <;> rfl
theorem sg_cases (b : Nat) : (negB b = true ∧ sgB b = -((b % 9223372036854775808 : Nat) : Int)) ∨ (negB b = false ∧ sgB b = ((b % 9223372036854775808 : Nat) : Int)) := by
  cases h : negB b
  · exact .inr ⟨rfl, by simp [sgB, h]⟩
  · exact .inl ⟨rfl, by simp [sgB, h]⟩
theorem fgeB (b : Nat) : (ordr .f64 b 14114281232179134464 == some .gt || ordr .f64 b 14114281232179134464 == some .eq) = decide (nanB b = false ∧ (negB b = true → b % 9223372036854775808 ≤ 4890909195324358656)) := by
  rw [ordr_eq]
  cases hn : nanB b
  · rw [order_sg hn (by decide)]
    have hc : sgB 14114281232179134464 = -4890909195324358656 := by decide
    rw [hc]
    rw [Bool.eq_iff_iff, decide_eq_true_eq]
    simp only [Bool.or_eq_true, beq_iff_eq, Option.some.injEq, true_and]
    rcases sg_cases b with ⟨h1, h2⟩ | ⟨h1, h2⟩
    · rw [h2]
      rcases Int.lt_trichotomy (-((b % 9223372036854775808 : Nat) : Int)) (-4890909195324358656) with h | h | h
      · rw [compare_lt h]; simp; exact ⟨h1, by omega⟩
      · rw [cmp_eq.2 h]; simp; intro _; omega
      · rw [compare_gt h]; simp; intro _; omega
    · rw [h2, compare_gt (by omega)]
      simp [h1]
  · rw [nan_order hn]
    simp
theorem fltB (b : Nat) (hn : nanB b = false) : (ordr .f64 b 4890909195324358656 == some .lt) = decide (negB b = true ∨ b % 9223372036854775808 < 4890909195324358656) := by
  rw [ordr_eq, order_sg hn (by decide)]
  have hc : sgB 4890909195324358656 = 4890909195324358656 := by decide
  rw [hc, Bool.eq_iff_iff, decide_eq_true_eq]
  simp only [beq_iff_eq, Option.some.injEq]
  rcases sg_cases b with ⟨h1, h2⟩ | ⟨h1, h2⟩
  · rw [h2, compare_lt (by omega)]; simp [h1]
  · rw [h2, cmp_lt, h1]; simp; omega
theorem negB_trunc {b : Nat} (h : b % 9223372036854775808 ≤ 4890909195324358656) : negB (truncB b) = negB b ∧ truncB b % 9223372036854775808 = truncR (b % 9223372036854775808) := by
  have h1 := truncR_le (b % 9223372036854775808)
  unfold truncB
  generalize truncR (b % 9223372036854775808) = t at *
  cases hn : negB b
  · simp only [Bool.false_eq_true, if_false, negB]
    refine ⟨?_, by omega⟩
    simp only [beq_eq_false_iff_ne]
    omega
  · simp only [if_true, negB]
    refine ⟨?_, by omega⟩
    simp only [beq_iff_eq]
    omega
theorem neTrunc {b : Nat} (h : inB b) : (ordr .f64 b (truncB b) != some .eq) = !decide (whB b) := by
  have hl := inB_le h
  obtain ⟨h1, h2⟩ := negB_trunc hl
  have h3 := truncR_le (b % 9223372036854775808)
  have hn : nanB b = false := by simp only [nanB, decide_eq_false_iff_not]; omega
  have hn2 : nanB (truncB b) = false := by simp only [nanB, decide_eq_false_iff_not, h2]; omega
  rw [ordr_eq, order_sg hn hn2, bne]
  congr 1
  rw [Bool.eq_iff_iff, decide_eq_true_eq]
  simp only [beq_iff_eq, Option.some.injEq, cmp_eq, whB]
  unfold sgB
  rw [h1, h2]
  cases negB b
  · simp only [Bool.false_eq_true, if_false]
    constructor
    · intro he; exact ⟨h, by omega⟩
    · rintro ⟨_, he⟩; omega
  · simp only [if_true]
    constructor
    · intro he; exact ⟨h, by omega⟩
    · rintro ⟨_, he⟩; omega
theorem intR_le {r : Nat} (h : r ≤ 4890909195324358656) : intR r ≤ 9223372036854775808 ∧ (r < 4890909195324358656 → intR r < 9223372036854775808) := by
  unfold intR
  split
  · rcases Nat.lt_or_eq_of_le h with h1 | h1
    · have hk : 2 ^ (r / 4503599627370496 - 1075) ≤ 2 ^ 10 := Nat.pow_le_pow_right (by decide) (by omega)
      have := Nat.mul_le_mul (show 4503599627370496 + r % 4503599627370496 ≤ 9007199254740991 by omega) hk
      omega
    · subst h1
      decide
  · split
    · omega
    · have : (4503599627370496 + r % 4503599627370496) / 2 ^ (1075 - r / 4503599627370496) ≤ 4503599627370496 + r % 4503599627370496 := Nat.div_le_self _ _
      omega
theorem intB_range {b : Nat} (h : inB b) : IntKind.i64.min ≤ intB b ∧ intB b ≤ IntKind.i64.max := by
  have h1 : IntKind.i64.min = -9223372036854775808 := rfl
  have h2 : IntKind.i64.max = 9223372036854775807 := rfl
  have h3 := intR_le (inB_le h)
  rw [h1, h2]
  unfold intB
  rcases h with ⟨hn, hl⟩ | ⟨hn, hl⟩
  · rw [hn, if_pos rfl]; omega
  · have := h3.2 hl
    rw [hn, if_neg (by decide)]; omega
end Go.Proofs.Ytdjpcmlnhkiokaa.A
