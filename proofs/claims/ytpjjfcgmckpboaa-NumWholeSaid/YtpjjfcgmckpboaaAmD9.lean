/- Statements whose order is open: a region. No condition. -/
import Derived.Test.YtpjjfcgmckpboaaAmD8
namespace Go.Proofs.Ytpjjfcgmckpboaa.A
open Go
set_option linter.unusedVariables false
set_option linter.unusedSimpArgs false

theorem unl_le (S : Array Bool) : ∀ m, unl S m ≤ m
  | 0 => Nat.le_refl _
  | m + 1 => by
    have := unl_le S m
    simp only [unl]
    split <;> omega
theorem HR.pad {X : Ctx} {H H' : Heap} (hr : HR X H) (hl : H.length ≤ H'.length) (h : ∀ m, X.φ m ≠ none → H'[m]? = H[m]?) : HR X H' := by
  have hne : ∀ {i b}, X.φ i = some b → X.φ i ≠ none := fun h h' => by rw [h] at h'; cases h'
  have hlive : ∀ {i b}, X.φ i = some b → live H' i → live H i := fun hb ⟨o, h1, h2⟩ => ⟨o, by rw [← h _ (hne hb)]; exact h1, h2⟩
  refine ⟨fun i b hb => ?_, fun i cs b hi hb => ?_, fun i es b hi hb => ?_, fun i j bi bj hij hi hj hbi hbj => ?_, fun i b hi hb => ?_, hr.fl⟩
  · have := hr.lt i b hb
    exact ⟨by omega, this.2⟩
  · rw [h _ (hne hb)] at hi; exact hr.row i cs b hi hb
  · rw [h _ (hne hb)] at hi; exact hr.mp i es b hi hb
  · exact hr.sep i j bi bj hij (hlive hbi hi) (hlive hbj hj) hbi hbj
  · exact hr.fz i b (hlive hb hi) hb
theorem draw_sound {P : Program} {T : Tab} {n : Nat} {X0 : Ctx} {H0 : Heap} (hT : TOk P T) (hm : P.follows .mixedOrders = true) {ops : Array Oper} (hok : okOps n ops.toList = true) {K : St → Prop} {Kp : Value → St → Prop} {Q : Exit → Act → World → Prop}
    {X : Ctx} {s : St} {a : Act} (h : At n X0 H0 X s a) (hq : awpDraw P T ops K Kp s)
    (hK : ∀ Y s' a', K s' → At n X0 H0 Y s' a' → Q .normal a' Y.w) (hP : ∀ Y u s' a', Kp u s' → At n X0 H0 Y s' a' → plain u = true → Q (.panic [entry u]) a' Y.w) {id : Nat} : (Code.region id ops true).wp P Q a X.w := by
  obtain ⟨fr, H, ds⟩ := s
  obtain ⟨lv, am, sl, es, lk, hchk, hep⟩ := hq
  have hc := ck hchk
  refine wp_region_any hm ?_
  have hst : Step X H (X.at { X.w with drawn := X.w.drawn + 1 }) H := Step.same h.st.hr rfl rfl rfl rfl rfl rfl
  have hS : ∀ i, (Array.replicate ops.size false).getD i false = false := fun i => by
    rw [Array.getD_eq_getD_getElem?, Array.getElem?_replicate]
    split <;> rfl
  have hpatch : ∀ m, (X.at { X.w with drawn := X.w.drawn + 1 }).φ m ≠ none → (H ++ List.replicate (countB allocB ops.toList) AObj.dead)[m]? = H[m]? := fun m hm => by
    cases hb : (X.at { X.w with drawn := X.w.drawn + 1 }).φ m with
    | none => exact absurd hb hm
    | some b => rw [List.getElem?_append_left (hst.hr.lt m b hb).1]
  have d : DI P T n X0 H0 ⟨ops.toList, lv, am, sl, es, lk, fr, H.length⟩ es [] 0 (Array.replicate ops.size false) (X.at { X.w with drawn := X.w.drawn + 1 }) a fr (H ++ List.replicate (countB allocB ops.toList) AObj.dead) ds := by
    refine ⟨by simp, fun i o hi => ?_, fun i hi => ?_, fun i o ho he _ => hc.inEs i o ho he, fun e he => (by cases he), fun t _ => VR.mono hst.le _ _ (h.st.fr t), fun t _ => VR.mono hst.le _ _ (h.st.fr t), fun i o ho ha _ => ?_, fun i o ho ha => ?_, h.st.size, h.st.ds.mono hst.le, hst.hr.pad (by simp) hpatch, (h.ext.trans hst.ext).patch hpatch, h.φ, ?_⟩
    · rw [hS] at hi; cases hi
    · rw [hS] at hi; cases hi
    · cases hb : (X.at { X.w with drawn := X.w.drawn + 1 }).φ (slotAt ⟨ops.toList, lv, am, sl, es, lk, fr, H.length⟩ i) with
      | none => rfl
      | some b =>
        have := (hst.hr.lt _ b hb).1
        simp only [slotAt] at this
        omega
    · have := hc.slen i o ho ha
      have h2 : getN sl i < countB allocB ops.toList := this
      simp only [slotAt, List.length_append, List.length_replicate]
      omega
    · have : H0.length ≤ H.length := h.len
      simp
      omega
  obtain ⟨F', H', d', hqs, hcont⟩ := d.open_ hc (fun i o _ _ _ => hS i) (fun i o _ _ _ hl => absurd hl (Nat.not_lt_zero _)) hep
  refine draw_any (E := ⟨ops.toList, lv, am, sl, es, lk, fr, H.length⟩) hT hc rfl hok h.len hK ops.size _ _ _ _ _ a _ _ _ none d' hqs hcont hc.chain ?_
  have := unl_le (Array.replicate ops.size false) ops.toList.length
  simpa using this
end Go.Proofs.Ytpjjfcgmckpboaa.A
