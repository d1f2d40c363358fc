/- The document's table: what may be done. No condition. -/
import Derived.Test.YtofinmlloefocaaCm
namespace Go.Proofs.Ytofinmlloefocaa.A
open Go
set_option linter.unusedVariables false
set_option maxRecDepth 100000
set_option pp.maxSteps 1500

/-- Both tables tell the same. -/
structure Rel (tags : Nat) (g : Rg) (L : List Rt) : Prop where
  same : ∀ (w : Int) (x : Nat) (m : Bool), oneT g w = true → hasR g w m x = decide ((w, x, m) ∈ L)
  inn : ∀ r ∈ L, oneT g r.1 = true ∧ 1 ≤ r.2.1 ∧ r.2.1 ≤ tags
  tag : tags ≤ 16
theorem rel_has {tags : Nat} {g : Rg} {L : List Rt} (h : Rel tags g L) {w : Int} {x : Nat} {m : Bool} : decide ((w, x, m) ∈ L) = (oneT g w && hasR g w m x) := by
  cases hq : oneT g w with
  | true => rw [h.same w x m hq]; rfl
  | false =>
    refine decide_eq_false fun hm => ?_
    have := (h.inn _ hm).1
    rw [show (w, x, m).1 = w from rfl, hq] at this
    cases this
theorem checkR_ok (tags : Nat) (g : Rg) (L : List Rt) (k w t : Int) (x : Nat) (m : Bool) (hR : Rel tags g L) (hL : L.length < 9223372036854775807) :
    ACalls Try.prog 15 [.ptr 1 0, deed k w t x m] (refH g.length tags L) (RetH (i64 (checkE tags g k w t x m)) (refH g.length tags L)) := by
  cases m
  · have ow : ACalls Try.prog 32 [.ptr 1 0, i64 w] (refH g.length tags L) (RetH (bo (oneT g w)) (refH g.length tags L)) := oneR_ok g.length tags L w
    have ot : ACalls Try.prog 32 [.ptr 1 0, i64 t] (refH g.length tags L) (RetH (bo (oneT g t)) (refH g.length tags L)) := oneR_ok g.length tags L t
    have hw := hasRt_ok g.length tags L w x false hL
    have ht := hasRt_ok g.length tags L t x false hL
    have fin : ∀ i : Int, i = checkE tags g k w t x false → i64 i = i64 (checkE tags g k w t x false) := fun i h => congrArg i64 h
    have e1 : wrp .u64 (tags : Int) = (tags : Int) := by have := hR.tag; rw [wrpE, wu64]; omega
    have hsw := fun h => hR.same w x false h
    have hst := fun h => hR.same t x false h
    refine acalls_of_awp hT mixed Try.func15 rfl (by kernel_rfl) (by kernel_rfl) (Nat.le_of_ble_eq_true rfl) ?_
    refine fork (fun h1 => ?_) (fun h1 => ?_)
    · have h1 : ¬ k = 1 := bne_iff_ne.1 h1
      refine fork (fun h2 => ?_) (fun h2 => ?_)
      · have h2 : ¬ k = 2 := bne_iff_ne.1 h2
        refine endH rfl rfl rfl ⟨.inl rfl, .inl rfl, True.intro⟩ (Nat.le_refl 2) (belowH_ref g.length tags L) (fin _ ?_)
        unfold checkE
        rw [if_neg (fun hh => h1 hh.1), if_pos (.inl h2)]
      · have h2 : k = 2 := bne_eq_false_iff_eq.1 h2
        refine callH (H := refH g.length tags L ++ [.row [i64 k, i64 w, i64 t, u64 x, bo false]]) ow [0, 1] rfl ⟨.inl (by rw [renO_rt]; rfl), .inl rfl, True.intro⟩ rfl rfl (H' := refH g.length tags L ++ [.row [i64 k, i64 w, i64 t, u64 x, bo false]]) (by simp only [refH, renH, renO_rt]; rfl) ?_
        refine fork (fun h3 => ?_) (fun h3 => ?_)
        · refine fork (fun h4 => absurd (by simpa using h4) h1) (fun h4 => ?_)
          refine callH (H := refH g.length tags L ++ [.row [i64 k, i64 w, i64 t, u64 x, bo false]]) ot [0, 1] rfl ⟨.inl (by rw [renO_rt]; rfl), .inl rfl, True.intro⟩ rfl rfl (H' := refH g.length tags L ++ [.row [i64 k, i64 w, i64 t, u64 x, bo false]]) (by simp only [refH, renH, renO_rt]; rfl) ?_
          refine fork (fun h5 => ?_) (fun h5 => ?_)
          · have hr : checkE tags g k w t x false = if x < 1 ∨ tags < x then 7 else if hasR g w false x = false then 10 else if hasR g t false x = true then 8 else 0 := by
              unfold checkE
              rw [if_neg (fun hh => h1 hh.1), if_neg (fun hh => hh.elim (fun a => a h2) (fun hh => hh.elim (fun a => by rw [h3] at a; cases a) (fun a => by rw [h5] at a; cases a)))]
            refine ⟨[0, 0, 0, 0, 0, 0, 0, 0, 0, 0, 0, 0, 0], [[], [0], [0, 1], [0, 1, 2], [0, 1, 2, 3], [0, 1, 2, 3, 4], [0, 1, 2, 3], [0, 1, 2, 3, 6], [0, 1, 2, 3, 6, 7], [0, 1, 2, 3, 6, 7, 8], [0, 1, 2, 3, 6, 7, 8, 9], [0, 1, 2, 3, 4, 5, 6, 7, 8, 9, 10], [0, 1, 2, 3, 4, 5, 6, 7, 8, 9, 10, 11]], [0, 0, 0, 0, 0, 0, 0, 0, 0, 0, 0, 0, 0], [], [[3], [45], [46], [47], [3, 48], [49, 48], [0, 48], [51, 48], [52, 48], [53, 48], [54, 48], [50, 55, 48], [48, 56]], Ob.intro (by kernel_rfl) ?_⟩
            refine fork (fun h6 => ?_) (fun h6 => ?_)
            · have h6 : x = 0 := by simpa using h6
              repeat refine same ?_
              refine endH rfl rfl rfl ⟨.inl rfl, .inl rfl, True.intro⟩ (Nat.le_refl 2) (belowH_ref g.length tags L) (fin _ ?_)
              rw [hr, if_pos (by omega)]
            · have h6 : ¬ x = 0 := by simpa using h6
              refine forkD (fun h7 => ?_) (fun h7 => ?_)
              · rw [e1] at h7
                repeat refine same ?_
                refine endH rfl rfl rfl ⟨.inl rfl, .inl rfl, True.intro⟩ (Nat.le_refl 2) (belowH_ref g.length tags L) (fin _ ?_)
                rw [hr, if_pos (by omega)]
              · rw [e1] at h7
                repeat refine same ?_
                rw [if_neg (by omega)] at hr
                refine callH (H := refH g.length tags L ++ [.row [i64 k, i64 w, i64 t, u64 x, bo false]]) hw [0, 1] rfl ⟨.inl (by rw [renO_rt]; rfl), .inl rfl, True.intro⟩ rfl rfl (H' := refH g.length tags L ++ [.row [i64 k, i64 w, i64 t, u64 x, bo false]]) (by simp only [refH, renH, renO_rt]; rfl) ?_
                refine fork (fun h8 => ?_) (fun h8 => ?_)
                · rw [← hsw h3] at h8
                  rw [if_neg (by rw [h8]; decide)] at hr
                  refine callH (H := refH g.length tags L ++ [.row [i64 k, i64 w, i64 t, u64 x, bo false]]) ht [0, 1] rfl ⟨.inl (by rw [renO_rt]; rfl), .inl rfl, True.intro⟩ rfl rfl (H' := refH g.length tags L ++ [.row [i64 k, i64 w, i64 t, u64 x, bo false]]) (by simp only [refH, renH, renO_rt]; rfl) ?_
                  refine fork (fun h9 => ?_) (fun h9 => ?_)
                  · rw [← hst h5] at h9
                    rw [if_pos h9] at hr
                    refine endH rfl rfl rfl ⟨.inl rfl, .inl rfl, True.intro⟩ (Nat.le_refl 2) (belowH_ref g.length tags L) (fin _ hr.symm)
                  · rw [← hst h5] at h9
                    rw [if_neg (by rw [h9]; decide)] at hr
                    refine endH rfl rfl rfl ⟨.inl rfl, .inl rfl, True.intro⟩ (Nat.le_refl 2) (belowH_ref g.length tags L) (fin _ hr.symm)
                · rw [← hsw h3] at h8
                  rw [if_pos h8] at hr
                  refine endH rfl rfl rfl ⟨.inl rfl, .inl rfl, True.intro⟩ (Nat.le_refl 2) (belowH_ref g.length tags L) (fin _ hr.symm)
          · refine endH rfl rfl rfl ⟨.inl rfl, .inl rfl, True.intro⟩ (Nat.le_refl 2) (belowH_ref g.length tags L) (fin _ ?_)
            unfold checkE
            rw [if_neg (fun hh => h1 hh.1), if_pos (.inr (.inr h5))]
        · refine endH rfl rfl rfl ⟨.inl rfl, .inl rfl, True.intro⟩ (Nat.le_refl 2) (belowH_ref g.length tags L) (fin _ ?_)
          unfold checkE
          rw [if_neg (fun hh => h1 hh.1), if_pos (.inr (.inl h3))]
    · have h1 : k = 1 := bne_eq_false_iff_eq.1 h1
      refine callH (H := refH g.length tags L ++ [.row [i64 k, i64 w, i64 t, u64 x, bo false]]) ow [0, 1] rfl ⟨.inl (by rw [renO_rt]; rfl), .inl rfl, True.intro⟩ rfl rfl (H' := refH g.length tags L ++ [.row [i64 k, i64 w, i64 t, u64 x, bo false]]) (by simp only [refH, renH, renO_rt]; rfl) ?_
      refine fork (fun h3 => ?_) (fun h3 => ?_)
      · refine fork (fun h4 => ?_) (fun h4 => absurd h1 (by simpa using h4))
        refine fork (fun h5 => ?_) (fun h5 => ?_)
        · have h5 : ¬ t = 0 := bne_iff_ne.1 h5
          refine endH rfl rfl rfl ⟨.inl rfl, .inl rfl, True.intro⟩ (Nat.le_refl 2) (belowH_ref g.length tags L) (fin _ ?_)
          unfold checkE
          rw [if_neg (fun hh => h5 hh.2.1), if_pos (.inl (by omega))]
        · have h5 : t = 0 := bne_eq_false_iff_eq.1 h5
          refine fork (fun h6 => ?_) (fun h6 => ?_)
          · have h6 : ¬ x = 0 := by have := bne_iff_ne.1 h6; omega
            refine endH rfl rfl rfl ⟨.inl rfl, .inl rfl, True.intro⟩ (Nat.le_refl 2) (belowH_ref g.length tags L) (fin _ ?_)
            unfold checkE
            rw [if_neg (fun hh => h6 hh.2.2.1), if_pos (.inl (by omega))]
          · have h6 : x = 0 := by have := bne_eq_false_iff_eq.1 h6; omega
            refine forkD (fun h7 => ?_) (fun h7 => ?_)
            · refine endH rfl rfl rfl ⟨.inl rfl, .inl rfl, True.intro⟩ (Nat.le_refl 2) (belowH_ref g.length tags L) (fin _ ?_)
              unfold checkE
              rw [if_pos ⟨h1, h5, h6, rfl, h3⟩, if_pos (by omega)]
            · refine endH rfl rfl rfl ⟨.inl rfl, .inl rfl, True.intro⟩ (Nat.le_refl 2) (belowH_ref g.length tags L) (fin _ ?_)
              unfold checkE
              rw [if_pos ⟨h1, h5, h6, rfl, h3⟩, if_neg (by omega)]
      · refine endH rfl rfl rfl ⟨.inl rfl, .inl rfl, True.intro⟩ (Nat.le_refl 2) (belowH_ref g.length tags L) (fin _ ?_)
        unfold checkE
        rw [if_neg (fun hh => by rw [hh.2.2.2.2] at h3; cases h3), if_pos (.inr (.inl h3))]
  · have ow : ACalls Try.prog 32 [.ptr 1 0, i64 w] (refH g.length tags L) (RetH (bo (oneT g w)) (refH g.length tags L)) := oneR_ok g.length tags L w
    have ot : ACalls Try.prog 32 [.ptr 1 0, i64 t] (refH g.length tags L) (RetH (bo (oneT g t)) (refH g.length tags L)) := oneR_ok g.length tags L t
    have hw := hasRt_ok g.length tags L w x true hL
    have ht := hasRt_ok g.length tags L t x true hL
    have fin : ∀ i : Int, i = checkE tags g k w t x true → i64 i = i64 (checkE tags g k w t x true) := fun i h => congrArg i64 h
    have e1 : wrp .u64 (tags : Int) = (tags : Int) := by have := hR.tag; rw [wrpE, wu64]; omega
    have hsw := fun h => hR.same w x true h
    have hst := fun h => hR.same t x true h
    refine acalls_of_awp hT mixed Try.func15 rfl (by kernel_rfl) (by kernel_rfl) (Nat.le_of_ble_eq_true rfl) ?_
    refine fork (fun h1 => ?_) (fun h1 => ?_)
    · have h1 : ¬ k = 1 := bne_iff_ne.1 h1
      refine fork (fun h2 => ?_) (fun h2 => ?_)
      · have h2 : ¬ k = 2 := bne_iff_ne.1 h2
        refine endH rfl rfl rfl ⟨.inl rfl, .inl rfl, True.intro⟩ (Nat.le_refl 2) (belowH_ref g.length tags L) (fin _ ?_)
        unfold checkE
        rw [if_neg (fun hh => h1 hh.1), if_pos (.inl h2)]
      · have h2 : k = 2 := bne_eq_false_iff_eq.1 h2
        refine callH (H := refH g.length tags L ++ [.row [i64 k, i64 w, i64 t, u64 x, bo true]]) ow [0, 1] rfl ⟨.inl (by rw [renO_rt]; rfl), .inl rfl, True.intro⟩ rfl rfl (H' := refH g.length tags L ++ [.row [i64 k, i64 w, i64 t, u64 x, bo true]]) (by simp only [refH, renH, renO_rt]; rfl) ?_
        refine fork (fun h3 => ?_) (fun h3 => ?_)
        · refine fork (fun h4 => absurd (by simpa using h4) h1) (fun h4 => ?_)
          refine callH (H := refH g.length tags L ++ [.row [i64 k, i64 w, i64 t, u64 x, bo true]]) ot [0, 1] rfl ⟨.inl (by rw [renO_rt]; rfl), .inl rfl, True.intro⟩ rfl rfl (H' := refH g.length tags L ++ [.row [i64 k, i64 w, i64 t, u64 x, bo true]]) (by simp only [refH, renH, renO_rt]; rfl) ?_
          refine fork (fun h5 => ?_) (fun h5 => ?_)
          · have hr : checkE tags g k w t x true = if x < 1 ∨ tags < x then 7 else if hasR g w true x = false then 10 else if hasR g t true x = true then 8 else 0 := by
              unfold checkE
              rw [if_neg (fun hh => h1 hh.1), if_neg (fun hh => hh.elim (fun a => a h2) (fun hh => hh.elim (fun a => by rw [h3] at a; cases a) (fun a => by rw [h5] at a; cases a)))]
            refine ⟨[0, 0, 0, 0, 0, 0, 0, 0, 0, 0, 0, 0, 0], [[], [0], [0, 1], [0, 1, 2], [0, 1, 2, 3], [0, 1, 2, 3, 4], [0, 1, 2, 3], [0, 1, 2, 3, 6], [0, 1, 2, 3, 6, 7], [0, 1, 2, 3, 6, 7, 8], [0, 1, 2, 3, 6, 7, 8, 9], [0, 1, 2, 3, 4, 5, 6, 7, 8, 9, 10], [0, 1, 2, 3, 4, 5, 6, 7, 8, 9, 10, 11]], [0, 0, 0, 0, 0, 0, 0, 0, 0, 0, 0, 0, 0], [], [[3], [45], [46], [47], [3, 48], [49, 48], [0, 48], [51, 48], [52, 48], [53, 48], [54, 48], [50, 55, 48], [48, 56]], Ob.intro (by kernel_rfl) ?_⟩
            refine fork (fun h6 => ?_) (fun h6 => ?_)
            · have h6 : x = 0 := by simpa using h6
              repeat refine same ?_
              refine endH rfl rfl rfl ⟨.inl rfl, .inl rfl, True.intro⟩ (Nat.le_refl 2) (belowH_ref g.length tags L) (fin _ ?_)
              rw [hr, if_pos (by omega)]
            · have h6 : ¬ x = 0 := by simpa using h6
              refine forkD (fun h7 => ?_) (fun h7 => ?_)
              · rw [e1] at h7
                repeat refine same ?_
                refine endH rfl rfl rfl ⟨.inl rfl, .inl rfl, True.intro⟩ (Nat.le_refl 2) (belowH_ref g.length tags L) (fin _ ?_)
                rw [hr, if_pos (by omega)]
              · rw [e1] at h7
                repeat refine same ?_
                rw [if_neg (by omega)] at hr
                refine callH (H := refH g.length tags L ++ [.row [i64 k, i64 w, i64 t, u64 x, bo true]]) hw [0, 1] rfl ⟨.inl (by rw [renO_rt]; rfl), .inl rfl, True.intro⟩ rfl rfl (H' := refH g.length tags L ++ [.row [i64 k, i64 w, i64 t, u64 x, bo true]]) (by simp only [refH, renH, renO_rt]; rfl) ?_
                refine fork (fun h8 => ?_) (fun h8 => ?_)
                · rw [← hsw h3] at h8
                  rw [if_neg (by rw [h8]; decide)] at hr
                  refine callH (H := refH g.length tags L ++ [.row [i64 k, i64 w, i64 t, u64 x, bo true]]) ht [0, 1] rfl ⟨.inl (by rw [renO_rt]; rfl), .inl rfl, True.intro⟩ rfl rfl (H' := refH g.length tags L ++ [.row [i64 k, i64 w, i64 t, u64 x, bo true]]) (by simp only [refH, renH, renO_rt]; rfl) ?_
                  refine fork (fun h9 => ?_) (fun h9 => ?_)
                  · rw [← hst h5] at h9
                    rw [if_pos h9] at hr
                    refine endH rfl rfl rfl ⟨.inl rfl, .inl rfl, True.intro⟩ (Nat.le_refl 2) (belowH_ref g.length tags L) (fin _ hr.symm)
                  · rw [← hst h5] at h9
                    rw [if_neg (by rw [h9]; decide)] at hr
                    refine endH rfl rfl rfl ⟨.inl rfl, .inl rfl, True.intro⟩ (Nat.le_refl 2) (belowH_ref g.length tags L) (fin _ hr.symm)
                · rw [← hsw h3] at h8
                  rw [if_pos h8] at hr
                  refine endH rfl rfl rfl ⟨.inl rfl, .inl rfl, True.intro⟩ (Nat.le_refl 2) (belowH_ref g.length tags L) (fin _ hr.symm)
          · refine endH rfl rfl rfl ⟨.inl rfl, .inl rfl, True.intro⟩ (Nat.le_refl 2) (belowH_ref g.length tags L) (fin _ ?_)
            unfold checkE
            rw [if_neg (fun hh => h1 hh.1), if_pos (.inr (.inr h5))]
        · refine endH rfl rfl rfl ⟨.inl rfl, .inl rfl, True.intro⟩ (Nat.le_refl 2) (belowH_ref g.length tags L) (fin _ ?_)
          unfold checkE
          rw [if_neg (fun hh => h1 hh.1), if_pos (.inr (.inl h3))]
    · have h1 : k = 1 := bne_eq_false_iff_eq.1 h1
      refine callH (H := refH g.length tags L ++ [.row [i64 k, i64 w, i64 t, u64 x, bo true]]) ow [0, 1] rfl ⟨.inl (by rw [renO_rt]; rfl), .inl rfl, True.intro⟩ rfl rfl (H' := refH g.length tags L ++ [.row [i64 k, i64 w, i64 t, u64 x, bo true]]) (by simp only [refH, renH, renO_rt]; rfl) ?_
      refine fork (fun h3 => ?_) (fun h3 => ?_)
      · refine fork (fun h4 => ?_) (fun h4 => absurd h1 (by simpa using h4))
        refine fork (fun h5 => ?_) (fun h5 => ?_)
        · have h5 : ¬ t = 0 := bne_iff_ne.1 h5
          refine endH rfl rfl rfl ⟨.inl rfl, .inl rfl, True.intro⟩ (Nat.le_refl 2) (belowH_ref g.length tags L) (fin _ ?_)
          unfold checkE
          rw [if_neg (fun hh => h5 hh.2.1), if_pos (.inl (by omega))]
        · have h5 : t = 0 := bne_eq_false_iff_eq.1 h5
          refine fork (fun h6 => ?_) (fun h6 => ?_)
          · have h6 : ¬ x = 0 := by have := bne_iff_ne.1 h6; omega
            refine endH rfl rfl rfl ⟨.inl rfl, .inl rfl, True.intro⟩ (Nat.le_refl 2) (belowH_ref g.length tags L) (fin _ ?_)
            unfold checkE
            rw [if_neg (fun hh => h6 hh.2.2.1), if_pos (.inl (by omega))]
          · have h6 : x = 0 := by have := bne_eq_false_iff_eq.1 h6; omega
            refine endH rfl rfl rfl ⟨.inl rfl, .inl rfl, True.intro⟩ (Nat.le_refl 2) (belowH_ref g.length tags L) (fin _ ?_)
            unfold checkE
            rw [if_neg (fun hh => by cases hh.2.2.2.1), if_pos (.inl (by omega))]
      · refine endH rfl rfl rfl ⟨.inl rfl, .inl rfl, True.intro⟩ (Nat.le_refl 2) (belowH_ref g.length tags L) (fin _ ?_)
        unfold checkE
        rw [if_neg (fun hh => by rw [hh.2.2.2.2] at h3; cases h3), if_pos (.inr (.inl h3))]
end Go.Proofs.Ytofinmlloefocaa.A
