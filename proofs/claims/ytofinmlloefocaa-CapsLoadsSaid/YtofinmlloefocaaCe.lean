/- The functions of caps: may a deed be done. No condition. -/
import Derived.Test.YtofinmlloefocaaCd
namespace Go.Proofs.Ytofinmlloefocaa.A
open Go
set_option linter.unusedVariables false
set_option maxRecDepth 100000
set_option pp.maxSteps 1500

def hasR (g : Rg) (who : Int) (m : Bool) (x : Nat) : Bool := hasS (maskOf g who m) x
def checkE (tags : Nat) (g : Rg) (k w t : Int) (x : Nat) (m : Bool) : Int :=
  if k = 1 ∧ t = 0 ∧ x = 0 ∧ m = false ∧ oneT g w = true then (if 16 ≤ tags then 5 else 0)
  else if k ≠ 2 ∨ oneT g w = false ∨ oneT g t = false then 1
  else if x < 1 ∨ tags < x then 7
  else if hasR g w m x = false then 10 else if hasR g t m x = true then 8 else 0
theorem check_false (tags : Nat) (g : Rg) (k w t : Int) (x : Nat) (hg : RgOk g) (ht : tags < 1000000) (hx : x < 18446744073709551616) :
    ACalls Try.prog 14 [.ptr 1 0, deed k w t x false] (tabH tags g) (RetH (i64 (checkE tags g k w t x false)) (tabH tags g)) := by
  have ow := one_ok tags g w
  have ot := one_ok tags g t
  have mw := hasS_ok (maskOf g w false) x (maskOf_lt hg w false) hx
  have mt := hasS_ok (maskOf g t false) x (maskOf_lt hg t false) hx
  have hgo : ∀ f : Nat → Nat, renO f (.row (rgC g)) = .row (rgC g) := fun f => renO_rg f g
  have fin : ∀ i : Int, i = checkE tags g k w t x false → i64 i = i64 (checkE tags g k w t x false) := fun i h => congrArg i64 h
  refine acalls_of_awp hT mixed Try.func14 rfl (by kernel_rfl) (by kernel_rfl) (Nat.le_of_ble_eq_true rfl) ?_
  have rest : ¬ (k = 1 ∧ t = 0 ∧ x = 0 ∧ false = false ∧ oneT g w = true) → checkE tags g k w t x false = if k ≠ 2 ∨ oneT g w = false ∨ oneT g t = false then 1 else if x < 1 ∨ tags < x then 7 else if hasR g w false x = false then 10 else if hasR g t false x = true then 8 else 0 := fun h => if_neg h
  refine fork (fun h1 => ?_) (fun h1 => ?_)
  · have h1 : k = 1 := by simpa using h1
    have hk2 : ¬ k = 2 := by omega
    refine fork (fun h2 => ?_) (fun h2 => ?_)
    · refine callH ow [0, 1] rfl ⟨.inl (by rw [hgo]; rfl), .inl rfl, True.intro⟩ rfl rfl (H' := tabH tags g ++ [.row [i64 k, i64 w, i64 t, u64 x, bo false], .row [i64 1, i64 w, i64 0, u64 0, bo false]]) (by simp only [tabH, renH, hgo]; rfl) ?_
      refine fork (fun h3 => ?_) (fun h3 => ?_)
      · have h2 : t = 0 ∧ x = 0 := by
          simp at h2
          omega
        have hall : k = 1 ∧ t = 0 ∧ x = 0 ∧ false = false ∧ oneT g w = true := ⟨h1, h2.1, h2.2, rfl, h3⟩
        refine forkD (fun h4 => ?_) (fun h4 => ?_)
        · refine endH rfl rfl rfl ⟨.inl rfl, .inl rfl, True.intro⟩ (Nat.le_refl 2) (belowH_tab tags g) (fin _ ?_)
          unfold checkE
          rw [if_pos hall, if_pos (by omega)]
        · refine endH rfl rfl rfl ⟨.inl rfl, .inl rfl, True.intro⟩ (Nat.le_refl 2) (belowH_tab tags g) (fin _ ?_)
          unfold checkE
          rw [if_pos hall, if_neg (by omega)]
      · have hn : ¬ (k = 1 ∧ t = 0 ∧ x = 0 ∧ false = false ∧ oneT g w = true) := fun hh => by rw [hh.2.2.2.2] at h3; cases h3
        refine fork (fun h4 => ?_) (fun h4 => ?_)
        · refine endH rfl rfl rfl ⟨.inl rfl, .inl rfl, True.intro⟩ (Nat.le_refl 2) (belowH_tab tags g) (fin _ ?_)
          rw [rest hn, if_pos (.inl hk2)]
        · exact absurd (bne_eq_false_iff_eq.1 h4) hk2
    · have hn : ¬ (k = 1 ∧ t = 0 ∧ x = 0 ∧ false = false ∧ oneT g w = true) := fun hh => by
        simp [hh.1, hh.2.1, hh.2.2.1] at h2
      refine fork (fun h4 => ?_) (fun h4 => ?_)
      · refine endH rfl rfl rfl ⟨.inl rfl, .inl rfl, True.intro⟩ (Nat.le_refl 2) (belowH_tab tags g) (fin _ ?_)
        rw [rest hn, if_pos (.inl hk2)]
      · exact absurd (bne_eq_false_iff_eq.1 h4) hk2
  · have h1 : ¬ k = 1 := by simpa using h1
    have hn : ¬ (k = 1 ∧ t = 0 ∧ x = 0 ∧ false = false ∧ oneT g w = true) := fun hh => h1 hh.1
    refine fork (fun h4 => ?_) (fun h4 => ?_)
    · have hk2 : ¬ k = 2 := bne_iff_ne.1 h4
      refine endH rfl rfl rfl ⟨.inl rfl, .inl rfl, True.intro⟩ (Nat.le_refl 2) (belowH_tab tags g) (fin _ ?_)
      rw [rest hn, if_pos (.inl hk2)]
    · have hk2 : k = 2 := bne_eq_false_iff_eq.1 h4
      refine callH ow [0, 1] rfl ⟨.inl (by rw [hgo]; rfl), .inl rfl, True.intro⟩ rfl rfl (H' := tabH tags g ++ [.row [i64 k, i64 w, i64 t, u64 x, bo false], .row [i64 1, i64 w, i64 0, u64 0, bo false]]) (by simp only [tabH, renH, hgo]; rfl) ?_
      refine fork (fun h5 => ?_) (fun h5 => ?_)
      · refine callH ot [0, 1] rfl ⟨.inl (by rw [hgo]; rfl), .inl rfl, True.intro⟩ rfl rfl (H' := tabH tags g ++ [.row [i64 k, i64 w, i64 t, u64 x, bo false], .row [i64 1, i64 w, i64 0, u64 0, bo false]]) (by simp only [tabH, renH, hgo]; rfl) ?_
        refine fork (fun h6 => ?_) (fun h6 => ?_)
        · have hq : ¬ (k ≠ 2 ∨ oneT g w = false ∨ oneT g t = false) := fun hh => by
            rcases hh with hh | hh | hh
            · exact hh hk2
            · rw [h5] at hh; cases hh
            · rw [h6] at hh; cases hh
          refine ⟨[0, 0, 0, 0, 0, 0, 0, 0, 0, 0, 0, 0, 0, 0], [[], [0], [0, 1], [0, 1, 2], [0, 1, 2, 3], [0, 1, 2, 3, 4], [0, 1, 2, 3], [0, 1, 2, 3, 6], [0, 1, 2, 3, 6, 7], [0, 1, 2, 3, 6, 7, 8], [0, 1, 2, 3, 6, 7, 8, 9], [0, 1, 2, 3, 4, 5, 6, 7, 8, 9, 10], [0, 1, 2, 3, 4, 5, 6, 7, 8, 9, 10, 11], [0, 1, 2, 3, 4, 5, 6, 7, 8, 9, 10, 11, 12]], [0, 0, 0, 0, 0, 0, 0, 0, 0, 0, 0, 0, 0, 0], [], [[3], [51], [52], [53], [3, 54], [55, 54], [0, 54], [57, 54], [58, 54], [59, 54], [60, 54], [56, 61, 54], [54, 62], [63]], Ob.intro (by kernel_rfl) ?_⟩
          have e1 : wrp .u64 (tags : Int) = (tags : Int) := by rw [wrpE, wu64]; omega
          refine forkD (fun h7 => ?_) (fun h7 => ?_)
          · repeat refine same ?_
            refine endH rfl rfl rfl ⟨.inl rfl, .inl rfl, True.intro⟩ (Nat.le_refl 2) (belowH_tab tags g) (fin _ ?_)
            rw [rest hn, if_neg hq, if_pos (by omega)]
          · refine forkD (fun h8 => ?_) (fun h8 => ?_)
            · rw [e1] at h8
              repeat refine same ?_
              refine endH rfl rfl rfl ⟨.inl rfl, .inl rfl, True.intro⟩ (Nat.le_refl 2) (belowH_tab tags g) (fin _ ?_)
              rw [rest hn, if_neg hq, if_pos (by omega)]
            · rw [e1] at h8
              repeat refine same ?_
              have hr := rest hn
              rw [if_neg hq, if_neg (by omega)] at hr
              have hwo := of_decide_eq_true h5
              have hto := of_decide_eq_true h6
              have rw1 : ∀ G : Heap, rd1 (.row (rgC g) :: G) 0 (0 + w.toNat * 2 + (if false = true then 1 else 0)) = some (u64 (maskOf g w false)) := fun G => mask_rd (tags := tags) h5 false
              have rt1 : ∀ G : Heap, rd1 (.row (rgC g) :: G) 0 (0 + t.toNat * 2 + (if false = true then 1 else 0)) = some (u64 (maskOf g t false)) := fun G => mask_rd (tags := tags) h6 false
              refine ⟨[0, 0, 0, 0, 0, 0, 0, 0, 0, 1, 1, 1, 0, 0, 2, 2, 2], [[], [0], [0, 1], [0, 1, 2], [], [4], [0, 1, 2, 3, 4, 5], [], [7], [0, 1, 2, 3, 4, 5, 6, 7, 8], [0, 1, 2, 3, 4, 5, 6, 7, 8, 9], [0, 1, 2, 3, 4, 5, 6, 7, 8, 9, 10], [], [12], [0, 1, 2, 3, 4, 5, 6, 7, 8, 9, 10, 11, 12, 13], [0, 1, 2, 3, 4, 5, 6, 7, 8, 9, 10, 11, 12, 13, 14], [0, 1, 2, 3, 4, 5, 6, 7, 8, 9, 10, 11, 12, 13, 14, 15]], [0, 0, 0, 0, 0, 0, 0, 0, 0, 0, 0, 0, 0, 0, 0, 0, 0], [9, 14], [[0], [65], [66], [67], [3], [69], [68, 70], [3], [72], [71, 73], [74], [75], [3], [77], [76, 78], [79], [80]], Ob.intro (by kernel_rfl) ?_⟩
              repeat first | refine same ?_ | refine Ob.intro hwo ?_
              refine callH (H := tabH tags g ++ [.row [i64 k, i64 w, i64 t, u64 x, bo false], .row [i64 1, i64 w, i64 0, u64 0, bo false]]) (at_ok tags g (0 + w.toNat * 2) false) [0, 1] rfl ⟨.inl (by rw [hgo]; rfl), .inl rfl, True.intro⟩ rfl rfl (H' := tabH tags g ++ [.row [i64 k, i64 w, i64 t, u64 x, bo false], .row [i64 1, i64 w, i64 0, u64 0, bo false]]) (by simp only [tabH, renH, hgo]; rfl) ?_
              repeat first | refine same ?_ | refine Ob.intro hwo ?_ | refine optK_intro (rw1 _) ?_
              refine callP mw rfl rfl ?_
              refine fork (fun h9 => ?_) (fun h9 => ?_)
              · rw [if_neg (by unfold hasR; rw [h9]; decide)] at hr
                repeat first | refine same ?_ | refine Ob.intro hwo ?_ | refine optK_intro (rw1 _) ?_
                refine ⟨[0, 0, 0, 0, 0, 0, 0, 0, 0, 1, 1, 1, 0, 0, 2, 2], [[], [0], [0, 1], [0, 1, 2], [], [4], [0, 1, 2, 3, 4, 5], [], [7], [0, 1, 2, 3, 4, 5, 6, 7, 8], [0, 1, 2, 3, 4, 5, 6, 7, 8, 9], [0, 1, 2, 3, 4, 5, 6, 7, 8, 9, 10], [], [12], [0, 1, 2, 3, 4, 5, 6, 7, 8, 9, 10, 11, 12, 13], [0, 1, 2, 3, 4, 5, 6, 7, 8, 9, 10, 11, 12, 13, 14]], [0, 0, 0, 0, 0, 0, 0, 0, 0, 0, 0, 0, 0, 0, 0, 0], [9, 14], [[0], [82], [83], [84], [3], [86], [85, 87], [3], [89], [88, 90], [91], [92], [3], [94], [93, 95], [96]], Ob.intro (by kernel_rfl) ?_⟩
                repeat first | refine same ?_ | refine Ob.intro hto ?_
                refine callH (H := tabH tags g ++ [.row [i64 k, i64 w, i64 t, u64 x, bo false], .row [i64 1, i64 w, i64 0, u64 0, bo false]]) (at_ok tags g (0 + t.toNat * 2) false) [0, 1] rfl ⟨.inl (by rw [hgo]; rfl), .inl rfl, True.intro⟩ rfl rfl (H' := tabH tags g ++ [.row [i64 k, i64 w, i64 t, u64 x, bo false], .row [i64 1, i64 w, i64 0, u64 0, bo false]]) (by simp only [tabH, renH, hgo]; rfl) ?_
                repeat first | refine same ?_ | refine Ob.intro hto ?_ | refine optK_intro (rt1 _) ?_
                refine callP mt rfl rfl ?_
                refine fork (fun h10 => ?_) (fun h10 => ?_)
                · rw [if_pos (by unfold hasR; exact h10)] at hr
                  repeat first | refine same ?_ | refine Ob.intro hto ?_ | refine optK_intro (rt1 _) ?_
                  refine endH rfl rfl rfl ⟨.inl rfl, .inl rfl, True.intro⟩ (Nat.le_refl 2) (belowH_tab tags g) (fin _ ?_)
                  exact hr.symm
                · rw [if_neg (by unfold hasR; rw [h10]; decide)] at hr
                  repeat first | refine same ?_ | refine Ob.intro hto ?_ | refine optK_intro (rt1 _) ?_
                  refine endH rfl rfl rfl ⟨.inl rfl, .inl rfl, True.intro⟩ (Nat.le_refl 2) (belowH_tab tags g) (fin _ ?_)
                  exact hr.symm
              · rw [if_pos (by unfold hasR; exact h9)] at hr
                repeat first | refine same ?_ | refine Ob.intro hwo ?_ | refine optK_intro (rw1 _) ?_
                refine endH rfl rfl rfl ⟨.inl rfl, .inl rfl, True.intro⟩ (Nat.le_refl 2) (belowH_tab tags g) (fin _ ?_)
                exact hr.symm
        · refine endH rfl rfl rfl ⟨.inl rfl, .inl rfl, True.intro⟩ (Nat.le_refl 2) (belowH_tab tags g) (fin _ ?_)
          rw [rest hn, if_pos (.inr (.inr h6))]
      · refine endH rfl rfl rfl ⟨.inl rfl, .inl rfl, True.intro⟩ (Nat.le_refl 2) (belowH_tab tags g) (fin _ ?_)
        rw [rest hn, if_pos (.inr (.inl h5))]
theorem check_true (tags : Nat) (g : Rg) (k w t : Int) (x : Nat) (hg : RgOk g) (ht : tags < 1000000) (hx : x < 18446744073709551616) :
    ACalls Try.prog 14 [.ptr 1 0, deed k w t x true] (tabH tags g) (RetH (i64 (checkE tags g k w t x true)) (tabH tags g)) := by
  have ow := one_ok tags g w
  have ot := one_ok tags g t
  have mw := hasS_ok (maskOf g w true) x (maskOf_lt hg w true) hx
  have mt := hasS_ok (maskOf g t true) x (maskOf_lt hg t true) hx
  have hgo : ∀ f : Nat → Nat, renO f (.row (rgC g)) = .row (rgC g) := fun f => renO_rg f g
  have fin : ∀ i : Int, i = checkE tags g k w t x true → i64 i = i64 (checkE tags g k w t x true) := fun i h => congrArg i64 h
  refine acalls_of_awp hT mixed Try.func14 rfl (by kernel_rfl) (by kernel_rfl) (Nat.le_of_ble_eq_true rfl) ?_
  have rest : ¬ (k = 1 ∧ t = 0 ∧ x = 0 ∧ true = false ∧ oneT g w = true) → checkE tags g k w t x true = if k ≠ 2 ∨ oneT g w = false ∨ oneT g t = false then 1 else if x < 1 ∨ tags < x then 7 else if hasR g w true x = false then 10 else if hasR g t true x = true then 8 else 0 := fun h => if_neg h
  refine fork (fun h1 => ?_) (fun h1 => ?_)
  · have h1 : k = 1 := by simpa using h1
    have hk2 : ¬ k = 2 := by omega
    refine fork (fun h2 => ?_) (fun h2 => ?_)
    · refine callH ow [0, 1] rfl ⟨.inl (by rw [hgo]; rfl), .inl rfl, True.intro⟩ rfl rfl (H' := tabH tags g ++ [.row [i64 k, i64 w, i64 t, u64 x, bo true], .row [i64 1, i64 w, i64 0, u64 0, bo false]]) (by simp only [tabH, renH, hgo]; rfl) ?_
      refine fork (fun h3 => ?_) (fun h3 => ?_)
      · exfalso
        simp at h2
      · have hn : ¬ (k = 1 ∧ t = 0 ∧ x = 0 ∧ true = false ∧ oneT g w = true) := fun hh => by rw [hh.2.2.2.2] at h3; cases h3
        refine fork (fun h4 => ?_) (fun h4 => ?_)
        · refine endH rfl rfl rfl ⟨.inl rfl, .inl rfl, True.intro⟩ (Nat.le_refl 2) (belowH_tab tags g) (fin _ ?_)
          rw [rest hn, if_pos (.inl hk2)]
        · exact absurd (bne_eq_false_iff_eq.1 h4) hk2
    · have hn : ¬ (k = 1 ∧ t = 0 ∧ x = 0 ∧ true = false ∧ oneT g w = true) := fun hh => by
        cases hh.2.2.2.1
      refine fork (fun h4 => ?_) (fun h4 => ?_)
      · refine endH rfl rfl rfl ⟨.inl rfl, .inl rfl, True.intro⟩ (Nat.le_refl 2) (belowH_tab tags g) (fin _ ?_)
        rw [rest hn, if_pos (.inl hk2)]
      · exact absurd (bne_eq_false_iff_eq.1 h4) hk2
  · have h1 : ¬ k = 1 := by simpa using h1
    have hn : ¬ (k = 1 ∧ t = 0 ∧ x = 0 ∧ true = false ∧ oneT g w = true) := fun hh => h1 hh.1
    refine fork (fun h4 => ?_) (fun h4 => ?_)
    · have hk2 : ¬ k = 2 := bne_iff_ne.1 h4
      refine endH rfl rfl rfl ⟨.inl rfl, .inl rfl, True.intro⟩ (Nat.le_refl 2) (belowH_tab tags g) (fin _ ?_)
      rw [rest hn, if_pos (.inl hk2)]
    · have hk2 : k = 2 := bne_eq_false_iff_eq.1 h4
      refine callH ow [0, 1] rfl ⟨.inl (by rw [hgo]; rfl), .inl rfl, True.intro⟩ rfl rfl (H' := tabH tags g ++ [.row [i64 k, i64 w, i64 t, u64 x, bo true], .row [i64 1, i64 w, i64 0, u64 0, bo false]]) (by simp only [tabH, renH, hgo]; rfl) ?_
      refine fork (fun h5 => ?_) (fun h5 => ?_)
      · refine callH ot [0, 1] rfl ⟨.inl (by rw [hgo]; rfl), .inl rfl, True.intro⟩ rfl rfl (H' := tabH tags g ++ [.row [i64 k, i64 w, i64 t, u64 x, bo true], .row [i64 1, i64 w, i64 0, u64 0, bo false]]) (by simp only [tabH, renH, hgo]; rfl) ?_
        refine fork (fun h6 => ?_) (fun h6 => ?_)
        · have hq : ¬ (k ≠ 2 ∨ oneT g w = false ∨ oneT g t = false) := fun hh => by
            rcases hh with hh | hh | hh
            · exact hh hk2
            · rw [h5] at hh; cases hh
            · rw [h6] at hh; cases hh
          refine ⟨[0, 0, 0, 0, 0, 0, 0, 0, 0, 0, 0, 0, 0, 0], [[], [0], [0, 1], [0, 1, 2], [0, 1, 2, 3], [0, 1, 2, 3, 4], [0, 1, 2, 3], [0, 1, 2, 3, 6], [0, 1, 2, 3, 6, 7], [0, 1, 2, 3, 6, 7, 8], [0, 1, 2, 3, 6, 7, 8, 9], [0, 1, 2, 3, 4, 5, 6, 7, 8, 9, 10], [0, 1, 2, 3, 4, 5, 6, 7, 8, 9, 10, 11], [0, 1, 2, 3, 4, 5, 6, 7, 8, 9, 10, 11, 12]], [0, 0, 0, 0, 0, 0, 0, 0, 0, 0, 0, 0, 0, 0], [], [[3], [51], [52], [53], [3, 54], [55, 54], [0, 54], [57, 54], [58, 54], [59, 54], [60, 54], [56, 61, 54], [54, 62], [63]], Ob.intro (by kernel_rfl) ?_⟩
          have e1 : wrp .u64 (tags : Int) = (tags : Int) := by rw [wrpE, wu64]; omega
          refine forkD (fun h7 => ?_) (fun h7 => ?_)
          · repeat refine same ?_
            refine endH rfl rfl rfl ⟨.inl rfl, .inl rfl, True.intro⟩ (Nat.le_refl 2) (belowH_tab tags g) (fin _ ?_)
            rw [rest hn, if_neg hq, if_pos (by omega)]
          · refine forkD (fun h8 => ?_) (fun h8 => ?_)
            · rw [e1] at h8
              repeat refine same ?_
              refine endH rfl rfl rfl ⟨.inl rfl, .inl rfl, True.intro⟩ (Nat.le_refl 2) (belowH_tab tags g) (fin _ ?_)
              rw [rest hn, if_neg hq, if_pos (by omega)]
            · rw [e1] at h8
              repeat refine same ?_
              have hr := rest hn
              rw [if_neg hq, if_neg (by omega)] at hr
              have hwo := of_decide_eq_true h5
              have hto := of_decide_eq_true h6
              have rw1 : ∀ G : Heap, rd1 (.row (rgC g) :: G) 0 (0 + w.toNat * 2 + (if true = true then 1 else 0)) = some (u64 (maskOf g w true)) := fun G => mask_rd (tags := tags) h5 true
              have rt1 : ∀ G : Heap, rd1 (.row (rgC g) :: G) 0 (0 + t.toNat * 2 + (if true = true then 1 else 0)) = some (u64 (maskOf g t true)) := fun G => mask_rd (tags := tags) h6 true
              refine ⟨[0, 0, 0, 0, 0, 0, 0, 0, 0, 1, 1, 1, 0, 0, 2, 2, 2], [[], [0], [0, 1], [0, 1, 2], [], [4], [0, 1, 2, 3, 4, 5], [], [7], [0, 1, 2, 3, 4, 5, 6, 7, 8], [0, 1, 2, 3, 4, 5, 6, 7, 8, 9], [0, 1, 2, 3, 4, 5, 6, 7, 8, 9, 10], [], [12], [0, 1, 2, 3, 4, 5, 6, 7, 8, 9, 10, 11, 12, 13], [0, 1, 2, 3, 4, 5, 6, 7, 8, 9, 10, 11, 12, 13, 14], [0, 1, 2, 3, 4, 5, 6, 7, 8, 9, 10, 11, 12, 13, 14, 15]], [0, 0, 0, 0, 0, 0, 0, 0, 0, 0, 0, 0, 0, 0, 0, 0, 0], [9, 14], [[0], [65], [66], [67], [3], [69], [68, 70], [3], [72], [71, 73], [74], [75], [3], [77], [76, 78], [79], [80]], Ob.intro (by kernel_rfl) ?_⟩
              repeat first | refine same ?_ | refine Ob.intro hwo ?_
              refine callH (H := tabH tags g ++ [.row [i64 k, i64 w, i64 t, u64 x, bo true], .row [i64 1, i64 w, i64 0, u64 0, bo false]]) (at_ok tags g (0 + w.toNat * 2) true) [0, 1] rfl ⟨.inl (by rw [hgo]; rfl), .inl rfl, True.intro⟩ rfl rfl (H' := tabH tags g ++ [.row [i64 k, i64 w, i64 t, u64 x, bo true], .row [i64 1, i64 w, i64 0, u64 0, bo false]]) (by simp only [tabH, renH, hgo]; rfl) ?_
              repeat first | refine same ?_ | refine Ob.intro hwo ?_ | refine optK_intro (rw1 _) ?_
              refine callP mw rfl rfl ?_
              refine fork (fun h9 => ?_) (fun h9 => ?_)
              · rw [if_neg (by unfold hasR; rw [h9]; decide)] at hr
                repeat first | refine same ?_ | refine Ob.intro hwo ?_ | refine optK_intro (rw1 _) ?_
                refine ⟨[0, 0, 0, 0, 0, 0, 0, 0, 0, 1, 1, 1, 0, 0, 2, 2], [[], [0], [0, 1], [0, 1, 2], [], [4], [0, 1, 2, 3, 4, 5], [], [7], [0, 1, 2, 3, 4, 5, 6, 7, 8], [0, 1, 2, 3, 4, 5, 6, 7, 8, 9], [0, 1, 2, 3, 4, 5, 6, 7, 8, 9, 10], [], [12], [0, 1, 2, 3, 4, 5, 6, 7, 8, 9, 10, 11, 12, 13], [0, 1, 2, 3, 4, 5, 6, 7, 8, 9, 10, 11, 12, 13, 14]], [0, 0, 0, 0, 0, 0, 0, 0, 0, 0, 0, 0, 0, 0, 0, 0], [9, 14], [[0], [82], [83], [84], [3], [86], [85, 87], [3], [89], [88, 90], [91], [92], [3], [94], [93, 95], [96]], Ob.intro (by kernel_rfl) ?_⟩
                repeat first | refine same ?_ | refine Ob.intro hto ?_
                refine callH (H := tabH tags g ++ [.row [i64 k, i64 w, i64 t, u64 x, bo true], .row [i64 1, i64 w, i64 0, u64 0, bo false]]) (at_ok tags g (0 + t.toNat * 2) true) [0, 1] rfl ⟨.inl (by rw [hgo]; rfl), .inl rfl, True.intro⟩ rfl rfl (H' := tabH tags g ++ [.row [i64 k, i64 w, i64 t, u64 x, bo true], .row [i64 1, i64 w, i64 0, u64 0, bo false]]) (by simp only [tabH, renH, hgo]; rfl) ?_
                repeat first | refine same ?_ | refine Ob.intro hto ?_ | refine optK_intro (rt1 _) ?_
                refine callP mt rfl rfl ?_
                refine fork (fun h10 => ?_) (fun h10 => ?_)
                · rw [if_pos (by unfold hasR; exact h10)] at hr
                  repeat first | refine same ?_ | refine Ob.intro hto ?_ | refine optK_intro (rt1 _) ?_
                  refine endH rfl rfl rfl ⟨.inl rfl, .inl rfl, True.intro⟩ (Nat.le_refl 2) (belowH_tab tags g) (fin _ ?_)
                  exact hr.symm
                · rw [if_neg (by unfold hasR; rw [h10]; decide)] at hr
                  repeat first | refine same ?_ | refine Ob.intro hto ?_ | refine optK_intro (rt1 _) ?_
                  refine endH rfl rfl rfl ⟨.inl rfl, .inl rfl, True.intro⟩ (Nat.le_refl 2) (belowH_tab tags g) (fin _ ?_)
                  exact hr.symm
              · rw [if_pos (by unfold hasR; exact h9)] at hr
                repeat first | refine same ?_ | refine Ob.intro hwo ?_ | refine optK_intro (rw1 _) ?_
                refine endH rfl rfl rfl ⟨.inl rfl, .inl rfl, True.intro⟩ (Nat.le_refl 2) (belowH_tab tags g) (fin _ ?_)
                exact hr.symm
        · refine endH rfl rfl rfl ⟨.inl rfl, .inl rfl, True.intro⟩ (Nat.le_refl 2) (belowH_tab tags g) (fin _ ?_)
          rw [rest hn, if_pos (.inr (.inr h6))]
      · refine endH rfl rfl rfl ⟨.inl rfl, .inl rfl, True.intro⟩ (Nat.le_refl 2) (belowH_tab tags g) (fin _ ?_)
        rw [rest hn, if_pos (.inr (.inl h5))]
end Go.Proofs.Ytofinmlloefocaa.A
