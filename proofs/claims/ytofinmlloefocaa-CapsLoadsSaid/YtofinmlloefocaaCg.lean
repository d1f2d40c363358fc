/- The law CapsNil, by the functions that it calls. No condition. -/
import Derived.Test.YtofinmlloefocaaCf
import Derived.Test.YtofinmlloefocaaAm19
namespace Go.Proofs.Ytofinmlloefocaa.A
open Go
set_option linter.unusedVariables false
set_option maxRecDepth 100000
set_option pp.maxSteps 1500

theorem VL_nil3 {X : Ctx} {a b d : AV} {vs : List Value} (h : VL X [a, b, nilS, d] vs) : VL X [a, b, us [], d] vs := by
  rcases vs with _ | ⟨v0, _ | ⟨v1, _ | ⟨v2, vs⟩⟩⟩
  · simp [VL] at h
  · simp [VL] at h
  · simp [VL] at h
  · simp only [VL] at h ⊢
    exact ⟨h.1, h.2.1, VR_nilView h.2.2.1, h.2.2.2⟩
theorem VL_nil4 {X : Ctx} {a b c : AV} {vs : List Value} (h : VL X [a, b, c, nilS] vs) : VL X [a, b, c, us []] vs := by
  rcases vs with _ | ⟨v0, _ | ⟨v1, _ | ⟨v2, _ | ⟨v3, vs⟩⟩⟩⟩
  · simp [VL] at h
  · simp [VL] at h
  · simp [VL] at h
  · simp [VL] at h
  · simp only [VL] at h ⊢
    exact ⟨h.1, h.2.1, h.2.2.1, VR_nilView h.2.2.2.1, h.2.2.2.2⟩
def g1 : Rg := [(1, 1), (0, 0)]
def g2 : Rg := [(1, 1), (1, 0)]
theorem awakeC_ok : ACalls Try.prog 8 [] [] (Ret (bo true)) := by
  have n1 := new_ok 2 (by decide) (by decide)
  have d1 := do_false 0 (nobody 2) 1 0 0 0 0 (by decide) ⟨by decide, by decide⟩ (by decide) (by decide)
  have d2 := do_false 1 g1 2 0 1 1 0 (by decide) ⟨by decide, by decide⟩ (by decide) (by decide)
  have e1 : doG 0 (nobody 2) 0 1 0 0 0 false = g1 := by decide
  have e2 : doTags 0 0 1 = 1 := by decide
  have e3 : doN 0 0 1 0 = 1 := by decide
  have e4 : doG 1 g1 0 2 0 1 1 false = g2 := by decide
  have e5 : doTags 1 0 2 = 1 := by decide
  have e6 : doN 1 0 2 1 = 1 := by decide
  rw [e1, e2, e3] at d1
  rw [e4, e5, e6] at d2
  have c1 := (clear_ok 1 g2 1 [] [1] ⟨by decide, by decide⟩ (by decide) (by decide) (by decide)).weaken (fun X vs h => VL_nil3 h)
  have e7 : clearT g2 1 [] [1] = true := by decide
  rw [e7] at c1
  have m1 := mayDrop_ok 1 g2 1 1 ⟨by decide, by decide⟩ (by decide)
  have e8 : (oneT g2 1 && hasS (maskOf g2 1 true) 1) = false := by decide
  rw [e8] at m1
  refine acalls_of_awp hT mixed Try.func8 rfl (by kernel_rfl) (by kernel_rfl) (Nat.le_of_ble_eq_true rfl) ?_
  refine callH n1 [] rfl True.intro rfl rfl (H' := tabH 0 (nobody 2)) (by simp only [tabH, renH, renO_rg]; rfl) ?_
  refine callH d1 [0, 1] rfl ⟨.inl (by rw [renO_rg]; rfl), .inl rfl, True.intro⟩ rfl rfl (H' := tabH 1 g1) (by simp only [tabH, renH, renO_rg]; rfl) ?_
  refine callH d2 [0, 1] rfl ⟨.inl (by rw [renO_rg]; rfl), .inl rfl, True.intro⟩ rfl rfl (H' := tabH 1 g2) (by simp only [tabH, renH, renO_rg]; rfl) ?_
  refine callCut 2 rfl ?_
  refine callH c1 [0, 1] rfl ⟨.inl (by rw [renO_rg]; rfl), .inl rfl, True.intro⟩ rfl rfl (H' := tabH 1 g2 ++ [.dead]) (by simp only [tabH, renH, renO_rg]; rfl) ?_
  refine callH m1 [0, 1] rfl ⟨.inl (by rw [renO_rg]; rfl), .inl rfl, True.intro⟩ rfl rfl (H' := tabH 1 g2 ++ [.dead]) (by simp only [tabH, renH, renO_rg]; rfl) ?_
  refine end0 rfl rfl rfl rfl
theorem capsNil_ok (k w t : Int) (x : Nat) (m : Bool) (a : List Nat) : ACalls Try.prog 6 [deed k w t x m, us a] [] (Ret (bo true)) := by
  have c1 := (clearNil_ok w a []).weaken (fun X vs h => VL_nil4 h)
  have ck := checkNil_ok k w t x m
  have dn := doNil_ok k w t x m
  refine acalls_of_awp hT mixed Try.func6 rfl (by kernel_rfl) (by kernel_rfl) (Nat.le_of_ble_eq_true rfl) ?_
  refine callP awakeC_ok rfl rfl ?_
  refine callP dn rfl rfl ?_
  refine callP masksNil_ok rfl rfl ?_
  refine callP ck rfl rfl ?_
  refine callP c1 rfl rfl ?_
  refine callP (mayDropNil_ok w x) rfl rfl ?_
  refine callP peopleNil_ok rfl rfl ?_
  refine callP tagsNil_ok rfl rfl ?_
  refine callP (plusNil_ok w) rfl rfl ?_
  refine callP (minusNil_ok w) rfl rfl ?_
  refine end0 rfl rfl rfl rfl
theorem wf_nat {l : List AV} (h : Wf (.int .u64) l) : ∃ m : Nat, l = [u64 m] ∧ m < 18446744073709551616 := by
  obtain ⟨m, rfl, hm⟩ := h
  have hm := wf_u64 hm
  refine ⟨m.toNat, ?_, by omega⟩
  have : ((m.toNat : Nat) : Int) = m := by omega
  rw [this]
  rfl
theorem wf_nats {l : List AV} (h : Wf (.slice (.int .u64)) l) : ∃ m : List Nat, l = [us m] ∧ (∀ x ∈ m, x < 18446744073709551616) ∧ m.length ≤ 9223372036854775807 := by
  obtain ⟨rows, rfl, hlen, hr⟩ := h
  have key : ∀ rows : List (List AV), (∀ r ∈ rows, Wf (.int .u64) r) → ∃ m : List Nat, m.length = rows.length ∧ rows.flatten = m.map u64n ∧ ∀ x ∈ m, x < 18446744073709551616 := by
    intro rows
    induction rows with
    | nil => intro _; exact ⟨[], rfl, rfl, by simp⟩
    | cons r rows ih =>
      intro hr
      obtain ⟨m, h1, h2, h3⟩ := ih fun x hx => hr x (List.mem_cons_of_mem _ hx)
      obtain ⟨x, rfl, hx⟩ := wf_nat (hr r (List.mem_cons_self ..))
      refine ⟨x :: m, by simp [h1], by simp only [List.flatten_cons, h2, List.map_cons]; rfl, ?_⟩
      intro y hy
      rcases List.mem_cons.1 hy with rfl | hy
      · exact hx
      · exact h3 y hy
  obtain ⟨m, h1, h2, h3⟩ := key rows hr
  exact ⟨m, by rw [us, h1, h2], h3, by omega⟩
theorem wf_deed {l : List AV} (h : Wf (.strct (.cons (.int .i64) (.cons (.int .i64) (.cons (.int .i64) (.cons (.int .u64) (.cons .bool .none)))))) l) : ∃ (k w t : Int) (x : Nat) (m : Bool), AV.agg l = deed k w t x m ∧ x < 18446744073709551616 := by
  obtain ⟨x1, y1, rfl, ⟨k, rfl, _⟩, x2, y2, rfl, ⟨w, rfl, _⟩, x3, y3, rfl, ⟨t, rfl, _⟩, x4, y4, rfl, hx, x5, y5, rfl, ⟨m, rfl⟩, rfl⟩ := h
  obtain ⟨x, rfl, hxx⟩ := wf_nat hx
  exact ⟨k, w, t, x, m, rfl, hxx⟩
theorem capsNil_law (l0 : List AV) (w0 : Wf (.strct (.cons (.int .i64) (.cons (.int .i64) (.cons (.int .i64) (.cons (.int .u64) (.cons .bool .none)))))) l0) (l1 : List AV) (w1 : Wf (.slice (.int .u64)) l1) : ACalls Try.prog 6 [argA (.strct (.cons (.int .i64) (.cons (.int .i64) (.cons (.int .i64) (.cons (.int .u64) (.cons .bool .none)))))) l0, argA (.slice (.int .u64)) l1] [] (Ret (.sc (.bool true))) := by
  obtain ⟨k, w, t, x, m, h, _⟩ := wf_deed w0
  obtain ⟨a, rfl, _⟩ := wf_nats w1
  show ACalls Try.prog _ [AV.agg l0, us a] [] _
  rw [h]
  exact capsNil_ok k w t x m a
end Go.Proofs.Ytofinmlloefocaa.A
