/- ref03: Count, Read. No condition. -/
import Derived.Test.YtgchhmfobkcnfaaWt
namespace Go.Proofs.Ytgchhmfobkcnfaa.A
open Go
set_option linter.unusedVariables false
set_option linter.unusedSimpArgs false
set_option maxRecDepth 100000
set_option pp.maxSteps 300

theorem VR_aggLe {X : Ctx} {cs ds : List AV} (h : ∀ vs, VL X cs vs → VL X ds vs) {v : Value} (k : VR X (.agg cs) v) : VR X (.agg ds) v := by
  simp only [VR] at k ⊢
  obtain ⟨w, e, hl⟩ := k
  exact ⟨w, e, h _ hl⟩
theorem EndR_tup1 {a b : AV} {r : List AV} (h : ∀ X v, VR X a v → VR X b v) : ∀ Y e, EndR Y (.ret (.tup (a :: r))) e → EndR Y (.ret (.tup (b :: r))) e := fun Y e k => by
  cases e with
  | returned v =>
    have k' : VR Y (.tup (a :: r)) v := k
    show VR Y (.tup (b :: r)) v
    simp only [VR] at k' ⊢
    obtain ⟨w, e, hl⟩ := k'
    refine ⟨w, e, ?_⟩
    match hw : w.toList, hl with
    | x :: q, hl =>
      simp only [VL] at hl ⊢
      exact ⟨h _ _ hl.1, hl.2⟩
    | [], hl => simp [VL] at hl
  | panicked _ => exact k
  | outgrown => exact k
end Go.Proofs.Ytgchhmfobkcnfaa.A
