/- The document's table: rights looked up. No condition. -/
import Derived.Test.YtkbpddejafdmdaaCl
import Derived.Test.YtkbpddejafdmdaaOw
namespace Go.Proofs.Ytkbpddejafdmdaa.A
open Go
set_option linter.unusedVariables false
set_option maxRecDepth 100000
set_option pp.maxSteps 1500

abbrev Rt := Int × Nat × Bool
def rtC (r : Rt) : List AV := [i64 r.1, u64 r.2.1, bo r.2.2]
def refO (p tags n : Nat) : AObj := .row [i64 p, i64 tags, .slc 0 0 n 3]
def refH (p tags : Nat) (L : List Rt) : Heap := [.row (flat rtC L), refO p tags L.length]
theorem rtC_len (x : Rt) : (rtC x).length = 3 := rfl
theorem renO_rt (r : Nat → Nat) (L : List Rt) : renO r (.row (flat rtC L)) = .row (flat rtC L) := renO_flat (fun _ _ => rfl) r L
theorem belowH_ref (p tags : Nat) (L : List Rt) : belowH (refH p tags L).length (refH p tags L) = true := by
  show (belowL 2 (flat rtC L) && _) = true
  rw [belowL_flat (fun _ => rfl)]
  rfl
theorem oneR_ok (p tags : Nat) (L : List Rt) (who : Int) : ACalls Try.prog 72 [.ptr 1 0, i64 who] (refH p tags L) (RetH (bo (decide (0 ≤ who ∧ who < p))) (refH p tags L)) := by
  refine acalls_of_awp hT mixed Try.func72 rfl (by kernel_rfl) (by kernel_rfl) (Nat.le_of_ble_eq_true rfl) ?_
  refine forkD (fun h => ?_) (fun h => ?_)
  · refine forkD (fun h2 => ?_) (fun h2 => ?_)
    · refine endH rfl rfl rfl ⟨.inl rfl, .inl rfl, True.intro⟩ (Nat.le_refl 2) (belowH_ref p tags L) (congrArg bo (decide_eq_true ⟨by omega, h2⟩).symm)
    · refine endH rfl rfl rfl ⟨.inl rfl, .inl rfl, True.intro⟩ (Nat.le_refl 2) (belowH_ref p tags L) (congrArg bo (decide_eq_false (fun hh => h2 hh.2)).symm)
  · refine endH rfl rfl rfl ⟨.inl rfl, .inl rfl, True.intro⟩ (Nat.le_refl 2) (belowH_ref p tags L) (congrArg bo (decide_eq_false (fun hh => by omega)).symm)
theorem hasRt_ok (p tags : Nat) (L : List Rt) (who : Int) (x : Nat) (m : Bool) (hL : L.length < 9223372036854775807) :
    ACalls Try.prog 73 [.ptr 1 0, i64 who, u64 x, bo m] (refH p tags L) (RetH (bo (decide ((who, x, m) ∈ L))) (refH p tags L)) := by
  cases m
  · refine acalls_of_awp hT mixed Try.func73 rfl (by kernel_rfl) (by kernel_rfl) (Nat.le_of_ble_eq_true rfl) ?_
    refine loopI (α := { k : Nat // k ≤ L.length ∧ (who, x, false) ∉ L.take k }) (fun k => [(0, .ptr 1 0), (1, i64 who), (2, u64 x), (3, bo false), (9, i64 (k.val : Nat))]) (fun _ => refH p tags L) (fun k => L.length - k.val) ⟨0, Nat.zero_le _, by simp⟩ [0, 1] ⟨⟨rfl, rfl, rfl, rfl, rfl, True.intro⟩, ⟨.inl (by rw [renO_rt]; rfl), .inl rfl, True.intro⟩, rfl, rfl, rfl⟩ ?_
    intro z K hK
    obtain ⟨k, hk, hx⟩ := z
    have hinc : wrp .i64 ((k : Int) + 1) = ((k + 1 : Nat) : Int) := by rw [wrpE, wi64]; omega
    refine forkD (fun h => ?_) (fun h => ?_)
    · have h' : k < L.length := by have : (k : Int) < (L.length : Int) := h; omega
      obtain ⟨⟨yw, yx, ym⟩, hy⟩ : ∃ y, L[k]? = some y := ⟨_, List.getElem?_eq_getElem h'⟩
      refine Ob.intro (show (0 : Int) ≤ (k : Nat) ∧ ((k : Nat) : Int) < (L.length : Nat) by omega) ?_
      refine optK_intro (flat_rdNn rtC_len rfl hy) ?_
      refine fork (fun g => ?_) (fun g => ?_)
      · have hxy : (who, x, false) = (yw, yx, ym) := by
          simp at g
          obtain ⟨g1, g2, g3⟩ := g
          have g2 : yx = x := by omega
          subst g1 g2 g3
          rfl
        refine endH rfl rfl rfl ⟨.inl rfl, .inl rfl, True.intro⟩ (Nat.le_refl 2) (belowH_ref p tags L) (congrArg bo ?_)
        rw [hxy, decide_eq_true (List.mem_of_getElem? hy)]
      · have hxy : ¬ (who, x, false) = (yw, yx, ym) := by
          intro hh
          cases hh
          simp at g
        refine hK ⟨k + 1, h', ?_⟩ [0, 1] _ (show L.length - k = L.length - (k + 1) + 1 by omega) ⟨⟨rfl, rfl, rfl, rfl, congrArg i64 hinc, True.intro⟩, ⟨.inl (by rw [renO_rt]; rfl), .inl rfl, True.intro⟩, rfl, rfl, rfl⟩
        rw [take_snocA hy]
        simp only [List.mem_append, List.mem_singleton]
        exact fun hh => hh.elim hx hxy
    · have h' : k = L.length := by have : ¬ (k : Int) < (L.length : Int) := h; omega
      rw [h', List.take_length] at hx
      refine endH rfl rfl rfl ⟨.inl rfl, .inl rfl, True.intro⟩ (Nat.le_refl 2) (belowH_ref p tags L) (congrArg bo (decide_eq_false hx).symm)
  · refine acalls_of_awp hT mixed Try.func73 rfl (by kernel_rfl) (by kernel_rfl) (Nat.le_of_ble_eq_true rfl) ?_
    refine loopI (α := { k : Nat // k ≤ L.length ∧ (who, x, true) ∉ L.take k }) (fun k => [(0, .ptr 1 0), (1, i64 who), (2, u64 x), (3, bo true), (9, i64 (k.val : Nat))]) (fun _ => refH p tags L) (fun k => L.length - k.val) ⟨0, Nat.zero_le _, by simp⟩ [0, 1] ⟨⟨rfl, rfl, rfl, rfl, rfl, True.intro⟩, ⟨.inl (by rw [renO_rt]; rfl), .inl rfl, True.intro⟩, rfl, rfl, rfl⟩ ?_
    intro z K hK
    obtain ⟨k, hk, hx⟩ := z
    have hinc : wrp .i64 ((k : Int) + 1) = ((k + 1 : Nat) : Int) := by rw [wrpE, wi64]; omega
    refine forkD (fun h => ?_) (fun h => ?_)
    · have h' : k < L.length := by have : (k : Int) < (L.length : Int) := h; omega
      obtain ⟨⟨yw, yx, ym⟩, hy⟩ : ∃ y, L[k]? = some y := ⟨_, List.getElem?_eq_getElem h'⟩
      refine Ob.intro (show (0 : Int) ≤ (k : Nat) ∧ ((k : Nat) : Int) < (L.length : Nat) by omega) ?_
      refine optK_intro (flat_rdNn rtC_len rfl hy) ?_
      refine fork (fun g => ?_) (fun g => ?_)
      · have hxy : (who, x, true) = (yw, yx, ym) := by
          simp at g
          obtain ⟨g1, g2, g3⟩ := g
          have g2 : yx = x := by omega
          subst g1 g2 g3
          rfl
        refine endH rfl rfl rfl ⟨.inl rfl, .inl rfl, True.intro⟩ (Nat.le_refl 2) (belowH_ref p tags L) (congrArg bo ?_)
        rw [hxy, decide_eq_true (List.mem_of_getElem? hy)]
      · have hxy : ¬ (who, x, true) = (yw, yx, ym) := by
          intro hh
          cases hh
          simp at g
        refine hK ⟨k + 1, h', ?_⟩ [0, 1] _ (show L.length - k = L.length - (k + 1) + 1 by omega) ⟨⟨rfl, rfl, rfl, rfl, congrArg i64 hinc, True.intro⟩, ⟨.inl (by rw [renO_rt]; rfl), .inl rfl, True.intro⟩, rfl, rfl, rfl⟩
        rw [take_snocA hy]
        simp only [List.mem_append, List.mem_singleton]
        exact fun hh => hh.elim hx hxy
    · have h' : k = L.length := by have : ¬ (k : Int) < (L.length : Int) := h; omega
      rw [h', List.take_length] at hx
      refine endH rfl rfl rfl ⟨.inl rfl, .inl rfl, True.intro⟩ (Nat.le_refl 2) (belowH_ref p tags L) (congrArg bo (decide_eq_false hx).symm)
end Go.Proofs.Ytkbpddejafdmdaa.A

namespace Go.Proofs.Ytkbpddejafdmdaa.A
open Go
set_option linter.unusedVariables false
set_option maxRecDepth 100000
set_option pp.maxSteps 1500

/-- Both tables tell the same. -/
structure Rel (tags : Nat) (g : Rg) (L : List Rt) : Prop where
  same : ∀ (w : Int) (x : Nat) (m : Bool), oneT g w = true → hasR g w m x = decide ((w, x, m) ∈ L)
  inn : ∀ r ∈ L, oneT g r.1 = true ∧ 1 ≤ r.2.1 ∧ r.2.1 ≤ tags
  tag : tags ≤ 16
theorem rel_has {tags : Nat} {g : Rg} {L : List Rt} (h : Rel tags g L) {w : Int} {x : Nat} {m : Bool} : decide ((w, x, m) ∈ L) = (oneT g w && hasR g w m x) := by
  cases hq : oneT g w with
  | true => rw [h.same w x m hq]; rfl
  | false =>
    refine decide_eq_false fun hm => ?_
    have := (h.inn _ hm).1
    rw [show (w, x, m).1 = w from rfl, hq] at this
    cases this
theorem checkR_ok (tags : Nat) (g : Rg) (L : List Rt) (k w t : Int) (x : Nat) (m : Bool) (hR : Rel tags g L) (hL : L.length < 9223372036854775807) :
    ACalls Try.prog 52 [.ptr 1 0, deed k w t x m] (refH g.length tags L) (RetH (i64 (checkE tags g k w t x m)) (refH g.length tags L)) := by
  cases m
  · have ow : ACalls Try.prog 72 [.ptr 1 0, i64 w] (refH g.length tags L) (RetH (bo (oneT g w)) (refH g.length tags L)) := oneR_ok g.length tags L w
    have ot : ACalls Try.prog 72 [.ptr 1 0, i64 t] (refH g.length tags L) (RetH (bo (oneT g t)) (refH g.length tags L)) := oneR_ok g.length tags L t
    have hw := hasRt_ok g.length tags L w x false hL
    have ht := hasRt_ok g.length tags L t x false hL
    have fin : ∀ i : Int, i = checkE tags g k w t x false → i64 i = i64 (checkE tags g k w t x false) := fun i h => congrArg i64 h
    have e1 : wrp .u64 (tags : Int) = (tags : Int) := by have := hR.tag; rw [wrpE, wu64]; omega
    have hsw := fun h => hR.same w x false h
    have hst := fun h => hR.same t x false h
    refine acalls_of_awp hT mixed Try.func52 rfl (by kernel_rfl) (by kernel_rfl) (Nat.le_of_ble_eq_true rfl) ?_
    refine fork (fun h1 => ?_) (fun h1 => ?_)
    · have h1 : ¬ k = 1 := bne_iff_ne.1 h1
      refine fork (fun h2 => ?_) (fun h2 => ?_)
      · have h2 : ¬ k = 2 := bne_iff_ne.1 h2
        refine endH rfl rfl rfl ⟨.inl rfl, .inl rfl, True.intro⟩ (Nat.le_refl 2) (belowH_ref g.length tags L) (fin _ ?_)
        unfold checkE
        rw [if_neg (fun hh => h1 hh.1), if_pos (.inl h2)]
      · have h2 : k = 2 := bne_eq_false_iff_eq.1 h2
        refine callH (H := refH g.length tags L ++ [.row [i64 k, i64 w, i64 t, u64 x, bo false]]) ow [0, 1] rfl ⟨.inl (by rw [renO_rt]; rfl), .inl rfl, True.intro⟩ rfl rfl (H' := refH g.length tags L ++ [.row [i64 k, i64 w, i64 t, u64 x, bo false]]) (by simp only [refH, renH, renO_rt]; rfl) ?_
        refine fork (fun h3 => ?_) (fun h3 => ?_)
        · refine fork (fun h4 => absurd (by simpa using h4) h1) (fun h4 => ?_)
          refine callH (H := refH g.length tags L ++ [.row [i64 k, i64 w, i64 t, u64 x, bo false]]) ot [0, 1] rfl ⟨.inl (by rw [renO_rt]; rfl), .inl rfl, True.intro⟩ rfl rfl (H' := refH g.length tags L ++ [.row [i64 k, i64 w, i64 t, u64 x, bo false]]) (by simp only [refH, renH, renO_rt]; rfl) ?_
          refine fork (fun h5 => ?_) (fun h5 => ?_)
          · have hr : checkE tags g k w t x false = if x < 1 ∨ tags < x then 7 else if hasR g w false x = false then 10 else if hasR g t false x = true then 8 else 0 := by
              unfold checkE
              rw [if_neg (fun hh => h1 hh.1), if_neg (fun hh => hh.elim (fun a => a h2) (fun hh => hh.elim (fun a => by rw [h3] at a; cases a) (fun a => by rw [h5] at a; cases a)))]
            refine ⟨[0, 0, 0, 0, 0, 0, 0, 0, 0, 0, 0, 0, 0], [[], [0], [0, 1], [0, 1, 2], [0, 1, 2, 3], [0, 1, 2, 3, 4], [0, 1, 2, 3], [0, 1, 2, 3, 6], [0, 1, 2, 3, 6, 7], [0, 1, 2, 3, 6, 7, 8], [0, 1, 2, 3, 6, 7, 8, 9], [0, 1, 2, 3, 4, 5, 6, 7, 8, 9, 10], [0, 1, 2, 3, 4, 5, 6, 7, 8, 9, 10, 11]], [0, 0, 0, 0, 0, 0, 0, 0, 0, 0, 0, 0, 0], [], [[3], [45], [46], [47], [3, 48], [49, 48], [0, 48], [51, 48], [52, 48], [53, 48], [54, 48], [50, 55, 48], [48, 56]], Ob.intro (by kernel_rfl) ?_⟩
            refine fork (fun h6 => ?_) (fun h6 => ?_)
            · have h6 : x = 0 := by simpa using h6
              repeat refine same ?_
              refine endH rfl rfl rfl ⟨.inl rfl, .inl rfl, True.intro⟩ (Nat.le_refl 2) (belowH_ref g.length tags L) (fin _ ?_)
              rw [hr, if_pos (by omega)]
            · have h6 : ¬ x = 0 := by simpa using h6
              refine forkD (fun h7 => ?_) (fun h7 => ?_)
              · rw [e1] at h7
                repeat refine same ?_
                refine endH rfl rfl rfl ⟨.inl rfl, .inl rfl, True.intro⟩ (Nat.le_refl 2) (belowH_ref g.length tags L) (fin _ ?_)
                rw [hr, if_pos (by omega)]
              · rw [e1] at h7
                repeat refine same ?_
                rw [if_neg (by omega)] at hr
                refine callH (H := refH g.length tags L ++ [.row [i64 k, i64 w, i64 t, u64 x, bo false]]) hw [0, 1] rfl ⟨.inl (by rw [renO_rt]; rfl), .inl rfl, True.intro⟩ rfl rfl (H' := refH g.length tags L ++ [.row [i64 k, i64 w, i64 t, u64 x, bo false]]) (by simp only [refH, renH, renO_rt]; rfl) ?_
                refine fork (fun h8 => ?_) (fun h8 => ?_)
                · rw [← hsw h3] at h8
                  rw [if_neg (by rw [h8]; decide)] at hr
                  refine callH (H := refH g.length tags L ++ [.row [i64 k, i64 w, i64 t, u64 x, bo false]]) ht [0, 1] rfl ⟨.inl (by rw [renO_rt]; rfl), .inl rfl, True.intro⟩ rfl rfl (H' := refH g.length tags L ++ [.row [i64 k, i64 w, i64 t, u64 x, bo false]]) (by simp only [refH, renH, renO_rt]; rfl) ?_
                  refine fork (fun h9 => ?_) (fun h9 => ?_)
                  · rw [← hst h5] at h9
                    rw [if_pos h9] at hr
                    refine endH rfl rfl rfl ⟨.inl rfl, .inl rfl, True.intro⟩ (Nat.le_refl 2) (belowH_ref g.length tags L) (fin _ hr.symm)
                  · rw [← hst h5] at h9
                    rw [if_neg (by rw [h9]; decide)] at hr
                    refine endH rfl rfl rfl ⟨.inl rfl, .inl rfl, True.intro⟩ (Nat.le_refl 2) (belowH_ref g.length tags L) (fin _ hr.symm)
                · rw [← hsw h3] at h8
                  rw [if_pos h8] at hr
                  refine endH rfl rfl rfl ⟨.inl rfl, .inl rfl, True.intro⟩ (Nat.le_refl 2) (belowH_ref g.length tags L) (fin _ hr.symm)
          · refine endH rfl rfl rfl ⟨.inl rfl, .inl rfl, True.intro⟩ (Nat.le_refl 2) (belowH_ref g.length tags L) (fin _ ?_)
            unfold checkE
            rw [if_neg (fun hh => h1 hh.1), if_pos (.inr (.inr h5))]
        · refine endH rfl rfl rfl ⟨.inl rfl, .inl rfl, True.intro⟩ (Nat.le_refl 2) (belowH_ref g.length tags L) (fin _ ?_)
          unfold checkE
          rw [if_neg (fun hh => h1 hh.1), if_pos (.inr (.inl h3))]
    · have h1 : k = 1 := bne_eq_false_iff_eq.1 h1
      refine callH (H := refH g.length tags L ++ [.row [i64 k, i64 w, i64 t, u64 x, bo false]]) ow [0, 1] rfl ⟨.inl (by rw [renO_rt]; rfl), .inl rfl, True.intro⟩ rfl rfl (H' := refH g.length tags L ++ [.row [i64 k, i64 w, i64 t, u64 x, bo false]]) (by simp only [refH, renH, renO_rt]; rfl) ?_
      refine fork (fun h3 => ?_) (fun h3 => ?_)
      · refine fork (fun h4 => ?_) (fun h4 => absurd h1 (by simpa using h4))
        refine fork (fun h5 => ?_) (fun h5 => ?_)
        · have h5 : ¬ t = 0 := bne_iff_ne.1 h5
          refine endH rfl rfl rfl ⟨.inl rfl, .inl rfl, True.intro⟩ (Nat.le_refl 2) (belowH_ref g.length tags L) (fin _ ?_)
          unfold checkE
          rw [if_neg (fun hh => h5 hh.2.1), if_pos (.inl (by omega))]
        · have h5 : t = 0 := bne_eq_false_iff_eq.1 h5
          refine fork (fun h6 => ?_) (fun h6 => ?_)
          · have h6 : ¬ x = 0 := by have := bne_iff_ne.1 h6; omega
            refine endH rfl rfl rfl ⟨.inl rfl, .inl rfl, True.intro⟩ (Nat.le_refl 2) (belowH_ref g.length tags L) (fin _ ?_)
            unfold checkE
            rw [if_neg (fun hh => h6 hh.2.2.1), if_pos (.inl (by omega))]
          · have h6 : x = 0 := by have := bne_eq_false_iff_eq.1 h6; omega
            refine forkD (fun h7 => ?_) (fun h7 => ?_)
            · refine endH rfl rfl rfl ⟨.inl rfl, .inl rfl, True.intro⟩ (Nat.le_refl 2) (belowH_ref g.length tags L) (fin _ ?_)
              unfold checkE
              rw [if_pos ⟨h1, h5, h6, rfl, h3⟩, if_pos (by omega)]
            · refine endH rfl rfl rfl ⟨.inl rfl, .inl rfl, True.intro⟩ (Nat.le_refl 2) (belowH_ref g.length tags L) (fin _ ?_)
              unfold checkE
              rw [if_pos ⟨h1, h5, h6, rfl, h3⟩, if_neg (by omega)]
      · refine endH rfl rfl rfl ⟨.inl rfl, .inl rfl, True.intro⟩ (Nat.le_refl 2) (belowH_ref g.length tags L) (fin _ ?_)
        unfold checkE
        rw [if_neg (fun hh => by rw [hh.2.2.2.2] at h3; cases h3), if_pos (.inr (.inl h3))]
  · have ow : ACalls Try.prog 72 [.ptr 1 0, i64 w] (refH g.length tags L) (RetH (bo (oneT g w)) (refH g.length tags L)) := oneR_ok g.length tags L w
    have ot : ACalls Try.prog 72 [.ptr 1 0, i64 t] (refH g.length tags L) (RetH (bo (oneT g t)) (refH g.length tags L)) := oneR_ok g.length tags L t
    have hw := hasRt_ok g.length tags L w x true hL
    have ht := hasRt_ok g.length tags L t x true hL
    have fin : ∀ i : Int, i = checkE tags g k w t x true → i64 i = i64 (checkE tags g k w t x true) := fun i h => congrArg i64 h
    have e1 : wrp .u64 (tags : Int) = (tags : Int) := by have := hR.tag; rw [wrpE, wu64]; omega
    have hsw := fun h => hR.same w x true h
    have hst := fun h => hR.same t x true h
    refine acalls_of_awp hT mixed Try.func52 rfl (by kernel_rfl) (by kernel_rfl) (Nat.le_of_ble_eq_true rfl) ?_
    refine fork (fun h1 => ?_) (fun h1 => ?_)
    · have h1 : ¬ k = 1 := bne_iff_ne.1 h1
      refine fork (fun h2 => ?_) (fun h2 => ?_)
      · have h2 : ¬ k = 2 := bne_iff_ne.1 h2
        refine endH rfl rfl rfl ⟨.inl rfl, .inl rfl, True.intro⟩ (Nat.le_refl 2) (belowH_ref g.length tags L) (fin _ ?_)
        unfold checkE
        rw [if_neg (fun hh => h1 hh.1), if_pos (.inl h2)]
      · have h2 : k = 2 := bne_eq_false_iff_eq.1 h2
        refine callH (H := refH g.length tags L ++ [.row [i64 k, i64 w, i64 t, u64 x, bo true]]) ow [0, 1] rfl ⟨.inl (by rw [renO_rt]; rfl), .inl rfl, True.intro⟩ rfl rfl (H' := refH g.length tags L ++ [.row [i64 k, i64 w, i64 t, u64 x, bo true]]) (by simp only [refH, renH, renO_rt]; rfl) ?_
        refine fork (fun h3 => ?_) (fun h3 => ?_)
        · refine fork (fun h4 => absurd (by simpa using h4) h1) (fun h4 => ?_)
          refine callH (H := refH g.length tags L ++ [.row [i64 k, i64 w, i64 t, u64 x, bo true]]) ot [0, 1] rfl ⟨.inl (by rw [renO_rt]; rfl), .inl rfl, True.intro⟩ rfl rfl (H' := refH g.length tags L ++ [.row [i64 k, i64 w, i64 t, u64 x, bo true]]) (by simp only [refH, renH, renO_rt]; rfl) ?_
          refine fork (fun h5 => ?_) (fun h5 => ?_)
          · have hr : checkE tags g k w t x true = if x < 1 ∨ tags < x then 7 else if hasR g w true x = false then 10 else if hasR g t true x = true then 8 else 0 := by
              unfold checkE
              rw [if_neg (fun hh => h1 hh.1), if_neg (fun hh => hh.elim (fun a => a h2) (fun hh => hh.elim (fun a => by rw [h3] at a; cases a) (fun a => by rw [h5] at a; cases a)))]
            refine ⟨[0, 0, 0, 0, 0, 0, 0, 0, 0, 0, 0, 0, 0], [[], [0], [0, 1], [0, 1, 2], [0, 1, 2, 3], [0, 1, 2, 3, 4], [0, 1, 2, 3], [0, 1, 2, 3, 6], [0, 1, 2, 3, 6, 7], [0, 1, 2, 3, 6, 7, 8], [0, 1, 2, 3, 6, 7, 8, 9], [0, 1, 2, 3, 4, 5, 6, 7, 8, 9, 10], [0, 1, 2, 3, 4, 5, 6, 7, 8, 9, 10, 11]], [0, 0, 0, 0, 0, 0, 0, 0, 0, 0, 0, 0, 0], [], [[3], [45], [46], [47], [3, 48], [49, 48], [0, 48], [51, 48], [52, 48], [53, 48], [54, 48], [50, 55, 48], [48, 56]], Ob.intro (by kernel_rfl) ?_⟩
            refine fork (fun h6 => ?_) (fun h6 => ?_)
            · have h6 : x = 0 := by simpa using h6
              repeat refine same ?_
              refine endH rfl rfl rfl ⟨.inl rfl, .inl rfl, True.intro⟩ (Nat.le_refl 2) (belowH_ref g.length tags L) (fin _ ?_)
              rw [hr, if_pos (by omega)]
            · have h6 : ¬ x = 0 := by simpa using h6
              refine forkD (fun h7 => ?_) (fun h7 => ?_)
              · rw [e1] at h7
                repeat refine same ?_
                refine endH rfl rfl rfl ⟨.inl rfl, .inl rfl, True.intro⟩ (Nat.le_refl 2) (belowH_ref g.length tags L) (fin _ ?_)
                rw [hr, if_pos (by omega)]
              · rw [e1] at h7
                repeat refine same ?_
                rw [if_neg (by omega)] at hr
                refine callH (H := refH g.length tags L ++ [.row [i64 k, i64 w, i64 t, u64 x, bo true]]) hw [0, 1] rfl ⟨.inl (by rw [renO_rt]; rfl), .inl rfl, True.intro⟩ rfl rfl (H' := refH g.length tags L ++ [.row [i64 k, i64 w, i64 t, u64 x, bo true]]) (by simp only [refH, renH, renO_rt]; rfl) ?_
                refine fork (fun h8 => ?_) (fun h8 => ?_)
                · rw [← hsw h3] at h8
                  rw [if_neg (by rw [h8]; decide)] at hr
                  refine callH (H := refH g.length tags L ++ [.row [i64 k, i64 w, i64 t, u64 x, bo true]]) ht [0, 1] rfl ⟨.inl (by rw [renO_rt]; rfl), .inl rfl, True.intro⟩ rfl rfl (H' := refH g.length tags L ++ [.row [i64 k, i64 w, i64 t, u64 x, bo true]]) (by simp only [refH, renH, renO_rt]; rfl) ?_
                  refine fork (fun h9 => ?_) (fun h9 => ?_)
                  · rw [← hst h5] at h9
                    rw [if_pos h9] at hr
                    refine endH rfl rfl rfl ⟨.inl rfl, .inl rfl, True.intro⟩ (Nat.le_refl 2) (belowH_ref g.length tags L) (fin _ hr.symm)
                  · rw [← hst h5] at h9
                    rw [if_neg (by rw [h9]; decide)] at hr
                    refine endH rfl rfl rfl ⟨.inl rfl, .inl rfl, True.intro⟩ (Nat.le_refl 2) (belowH_ref g.length tags L) (fin _ hr.symm)
                · rw [← hsw h3] at h8
                  rw [if_pos h8] at hr
                  refine endH rfl rfl rfl ⟨.inl rfl, .inl rfl, True.intro⟩ (Nat.le_refl 2) (belowH_ref g.length tags L) (fin _ hr.symm)
          · refine endH rfl rfl rfl ⟨.inl rfl, .inl rfl, True.intro⟩ (Nat.le_refl 2) (belowH_ref g.length tags L) (fin _ ?_)
            unfold checkE
            rw [if_neg (fun hh => h1 hh.1), if_pos (.inr (.inr h5))]
        · refine endH rfl rfl rfl ⟨.inl rfl, .inl rfl, True.intro⟩ (Nat.le_refl 2) (belowH_ref g.length tags L) (fin _ ?_)
          unfold checkE
          rw [if_neg (fun hh => h1 hh.1), if_pos (.inr (.inl h3))]
    · have h1 : k = 1 := bne_eq_false_iff_eq.1 h1
      refine callH (H := refH g.length tags L ++ [.row [i64 k, i64 w, i64 t, u64 x, bo true]]) ow [0, 1] rfl ⟨.inl (by rw [renO_rt]; rfl), .inl rfl, True.intro⟩ rfl rfl (H' := refH g.length tags L ++ [.row [i64 k, i64 w, i64 t, u64 x, bo true]]) (by simp only [refH, renH, renO_rt]; rfl) ?_
      refine fork (fun h3 => ?_) (fun h3 => ?_)
      · refine fork (fun h4 => ?_) (fun h4 => absurd h1 (by simpa using h4))
        refine fork (fun h5 => ?_) (fun h5 => ?_)
        · have h5 : ¬ t = 0 := bne_iff_ne.1 h5
          refine endH rfl rfl rfl ⟨.inl rfl, .inl rfl, True.intro⟩ (Nat.le_refl 2) (belowH_ref g.length tags L) (fin _ ?_)
          unfold checkE
          rw [if_neg (fun hh => h5 hh.2.1), if_pos (.inl (by omega))]
        · have h5 : t = 0 := bne_eq_false_iff_eq.1 h5
          refine fork (fun h6 => ?_) (fun h6 => ?_)
          · have h6 : ¬ x = 0 := by have := bne_iff_ne.1 h6; omega
            refine endH rfl rfl rfl ⟨.inl rfl, .inl rfl, True.intro⟩ (Nat.le_refl 2) (belowH_ref g.length tags L) (fin _ ?_)
            unfold checkE
            rw [if_neg (fun hh => h6 hh.2.2.1), if_pos (.inl (by omega))]
          · have h6 : x = 0 := by have := bne_eq_false_iff_eq.1 h6; omega
            refine endH rfl rfl rfl ⟨.inl rfl, .inl rfl, True.intro⟩ (Nat.le_refl 2) (belowH_ref g.length tags L) (fin _ ?_)
            unfold checkE
            rw [if_neg (fun hh => by cases hh.2.2.2.1), if_pos (.inl (by omega))]
      · refine endH rfl rfl rfl ⟨.inl rfl, .inl rfl, True.intro⟩ (Nat.le_refl 2) (belowH_ref g.length tags L) (fin _ ?_)
        unfold checkE
        rw [if_neg (fun hh => by rw [hh.2.2.2.2] at h3; cases h3), if_pos (.inr (.inl h3))]
end Go.Proofs.Ytkbpddejafdmdaa.A

namespace Go.Proofs.Ytkbpddejafdmdaa.A
open Go
set_option linter.unusedVariables false
set_option maxRecDepth 100000
set_option pp.maxSteps 1500

theorem and_two (p i : Nat) : (!decide (p &&& 2 ^ i = 0)) = p.testBit i := by
  have e : ∀ j, (p &&& 2 ^ i).testBit j = (p.testBit j && decide (i = j)) := fun j => by rw [Nat.testBit_and, Nat.testBit_two_pow]
  cases hq : p.testBit i with
  | true =>
    have : p &&& 2 ^ i ≠ 0 := fun hz => by
      have := e i
      rw [hz, hq] at this
      simp at this
    rw [decide_eq_false this]
    rfl
  | false =>
    have : p &&& 2 ^ i = 0 := Nat.eq_of_testBit_eq fun j => by
      rw [e, Nat.zero_testBit]
      by_cases hj : i = j
      · subst hj
        rw [hq]
        rfl
      · rw [decide_eq_false hj, Bool.and_false]
    rw [decide_eq_true this]
    rfl
theorem hasS_bit (p y : Nat) : hasS p y = (decide (1 ≤ y ∧ y ≤ 16) && p.testBit (y - 1)) := by
  unfold hasS
  by_cases hy : 1 ≤ y ∧ y ≤ 16
  · rw [bitS_two (by omega), decide_eq_true hy, Bool.true_and, and_two]
  · have : bitS y = 0 := if_pos (by omega)
    rw [this, Nat.and_zero, decide_eq_false hy]
    rfl
theorem hasS_orbit {p x y : Nat} (hx : 1 ≤ x ∧ x ≤ 16) : hasS (p ||| bitS x) y = (hasS p y || decide (y = x)) := by
  rw [hasS_bit, hasS_bit, bitS_two (by omega), Nat.testBit_or, Nat.testBit_two_pow]
  by_cases hy : 1 ≤ y ∧ y ≤ 16
  · rw [decide_eq_true hy, Bool.true_and, Bool.true_and]
    congr 1
    exact decide_eq_decide.2 (by omega)
  · rw [decide_eq_false hy, Bool.false_and, Bool.false_and, Bool.false_or, decide_eq_false (by omega)]
theorem hasR_set {g : Rg} {who v : Int} {m c : Bool} {x y : Nat} (hx : 1 ≤ x ∧ x ≤ 16) (h : oneT g who = true) (hv : oneT g v = true) : hasR (setR g who m x) v c y = (hasR g v c y || decide ((v, y, c) = (who, x, m))) := by
  have h1 := of_decide_eq_true h
  have h2 := of_decide_eq_true hv
  obtain ⟨r, hr⟩ : ∃ r, g[v.toNat]? = some r := ⟨_, List.getElem?_eq_getElem (by omega)⟩
  have hs := setR_get (who := who) (m := m) (x := x) hr
  by_cases hw : v = who
  · subst hw
    rw [if_pos rfl] at hs
    unfold hasR maskOf
    rw [hr, hs]
    simp only [Option.map_some, Option.getD_some]
    cases m <;> cases c
    · simp only [Bool.false_eq_true, if_false]
      rw [hasS_orbit hx]
      congr 1
      exact decide_eq_decide.2 (by simp)
    · simp
    · simp
    · simp only [if_true]
      rw [hasS_orbit hx]
      congr 1
      exact decide_eq_decide.2 (by simp)
  · rw [if_neg (by omega)] at hs
    unfold hasR maskOf
    rw [hr, hs]
    have : ¬ (v, y, c) = (who, x, m) := fun hh => hw (by cases hh; rfl)
    rw [decide_eq_false this, Bool.or_false]
/-- The document's list behind a deed. -/
def doL (tags : Nat) (L : List Rt) (e k w t : Int) (x : Nat) (m : Bool) : List Rt := if e = 0 then (if k = 2 then L ++ [(t, x, m)] else L ++ [(w, tags + 1, false), (w, tags + 1, true)]) else L
theorem oneT_doG {tags : Nat} {g : Rg} {e k w t v : Int} {x : Nat} {m : Bool} : oneT (doG tags g e k w t x m) v = oneT g v := by
  unfold oneT
  rw [doG_len]
theorem rel_do {tags : Nat} {g : Rg} {L : List Rt} (h : Rel tags g L) {e k w t : Int} {x : Nat} {m : Bool} (he : checkE tags g k w t x m = e) : Rel (doTags tags e k) (doG tags g e k w t x m) (doL tags L e k w t x m) := by
  by_cases h0 : e = 0
  · rw [h0] at he ⊢
    rcases check_zero he with ⟨hk, ht, hx, hm, how, htag⟩ | ⟨hk, how, hot, hx1, hx2, hhas, hno⟩
    · have hk2 : ¬ k = 2 := by omega
      have hG : doG tags g 0 k w t x m = setR (setR g w false (tags + 1)) w true (tags + 1) := by unfold doG; rw [if_pos rfl, if_neg hk2]
      have hT' : doTags tags 0 k = tags + 1 := by unfold doTags; rw [if_pos ⟨rfl, hk2⟩]
      have hL' : doL tags L 0 k w t x m = L ++ [(w, tags + 1, false), (w, tags + 1, true)] := by unfold doL; rw [if_pos rfl, if_neg hk2]
      refine ⟨fun v y c hv => ?_, fun r hr => ?_, by rw [hT']; omega⟩
      · rw [oneT_doG] at hv
        rw [hG, hL', hasR_set (by omega) (by rw [oneT_set]; exact how) (by rw [oneT_set]; exact hv), hasR_set (by omega) how hv, h.same v y c hv, Bool.or_assoc, ← Bool.decide_or, ← Bool.decide_or]
        exact decide_eq_decide.2 (by simp)
      · rw [hL'] at hr
        rw [oneT_doG, hT']
        rcases List.mem_append.1 hr with hr | hr
        · have := h.inn r hr
          exact ⟨this.1, this.2.1, by omega⟩
        · simp at hr
          rcases hr with rfl | rfl
          · exact ⟨how, by simp, Nat.le_refl _⟩
          · exact ⟨how, by simp, Nat.le_refl _⟩
    · have hG : doG tags g 0 k w t x m = setR g t m x := by unfold doG; rw [if_pos rfl, if_pos hk]
      have hT' : doTags tags 0 k = tags := by unfold doTags; rw [if_neg (by omega)]
      have hL' : doL tags L 0 k w t x m = L ++ [(t, x, m)] := by unfold doL; rw [if_pos rfl, if_pos hk]
      have := h.tag
      refine ⟨fun v y c hv => ?_, fun r hr => ?_, by rw [hT']; exact h.tag⟩
      · rw [oneT_doG] at hv
        rw [hG, hL', hasR_set (by omega) hot hv, h.same v y c hv, ← Bool.decide_or]
        exact decide_eq_decide.2 (by simp)
      · rw [hL'] at hr
        rw [oneT_doG, hT']
        rcases List.mem_append.1 hr with hr | hr
        · exact h.inn r hr
        · simp at hr
          subst hr
          exact ⟨hot, hx1, hx2⟩
  · have hG : doG tags g e k w t x m = g := if_neg h0
    have hT' : doTags tags e k = tags := if_neg (fun hh => h0 hh.1)
    have hL' : doL tags L e k w t x m = L := if_neg h0
    rw [hG, hT', hL']
    exact h
/-- The tags of somebody, rising. -/
def listS (p : Nat) : List Nat := (List.range' 1 16).filter fun x => hasS p x
def setL (tags : Nat) (L : List Rt) (w : Int) (m : Bool) : List Nat := (List.range' 1 tags).filter fun x => decide ((w, x, m) ∈ L)
theorem set_list {tags : Nat} {g : Rg} {L : List Rt} (h : Rel tags g L) {w : Int} {m : Bool} (hw : oneT g w = true) : setL tags L w m = listS (maskOf g w m) := by
  unfold setL listS
  have h16 := h.tag
  have hs : List.range' 1 16 = List.range' 1 tags ++ List.range' (1 + tags) (16 - tags) := by
    have h16' : 16 = tags + (16 - tags) := by omega
    rw [List.range'_append_1, ← h16']
  rw [hs, List.filter_append]
  have e1 : (List.range' (1 + tags) (16 - tags)).filter (fun x => hasS (maskOf g w m) x) = [] := by
    rw [List.filter_eq_nil_iff]
    intro x hx
    rw [List.mem_range'_1] at hx
    have := h.same w x m hw
    unfold hasR at this
    rw [this]
    intro hd
    have := (h.inn _ (of_decide_eq_true hd)).2.2
    have : x ≤ tags := this
    omega
  rw [e1, List.append_nil]
  refine List.filter_congr fun x _ => ?_
  have := h.same w x m hw
  unfold hasR at this
  exact this.symm
theorem rel_clear {tags : Nat} {g : Rg} {L : List Rt} (h : Rel tags g L) {w : Int} {a l : List Nat} : (!(l.any fun x => !decide (x ∈ a) && !decide ((w, x, false) ∈ L)) && oneT g w) = clearT g w a l := by
  unfold clearT
  cases hw : oneT g w with
  | false => simp
  | true =>
    rw [Bool.and_true, Bool.true_and]
    congr 1
    congr 1
    funext x
    unfold bad
    have := h.same w x false hw
    unfold hasR at this
    rw [← this, Bool.and_comm]
end Go.Proofs.Ytkbpddejafdmdaa.A

namespace Go.Proofs.Ytkbpddejafdmdaa.A
open Go
set_option linter.unusedVariables false
set_option maxRecDepth 100000
set_option pp.maxSteps 1500

theorem doRerr_ok (tags : Nat) (g : Rg) (L : List Rt) (k w t : Int) (x : Nat) (m : Bool) (e : Int) (he : checkE tags g k w t x m = e) (h0 : e ≠ 0) (hR : Rel tags g L) (hL : L.length < 9223372036854775807) :
    ACalls Try.prog 25 [.ptr 1 0, deed k w t x m] (refH g.length tags L) (RetH (.tup [u64 0, i64 e]) (refH g.length tags L)) := by
  cases m
  · have hc := checkR_ok tags g L k w t x false hR hL
    refine acalls_of_awp hT mixed Try.func25 rfl (by kernel_rfl) (by kernel_rfl) (Nat.le_of_ble_eq_true rfl) ?_
    refine callH (H := refH g.length tags L ++ [.row [i64 k, i64 w, i64 t, u64 x, bo false]]) hc [0, 1] rfl ⟨.inl (by rw [renO_rt]; rfl), .inl rfl, True.intro⟩ rfl rfl (H' := refH g.length tags L ++ [.row [i64 k, i64 w, i64 t, u64 x, bo false]]) (by simp only [refH, renH, renO_rt]; rfl) ?_
    rw [he]
    refine fork (fun h1 => ?_) (fun h1 => absurd (bne_eq_false_iff_eq.1 h1) h0)
    refine endH rfl rfl rfl ⟨.inl rfl, .inl rfl, True.intro⟩ (Nat.le_refl 2) (belowH_ref g.length tags L) rfl
  · have hc := checkR_ok tags g L k w t x true hR hL
    refine acalls_of_awp hT mixed Try.func25 rfl (by kernel_rfl) (by kernel_rfl) (Nat.le_of_ble_eq_true rfl) ?_
    refine callH (H := refH g.length tags L ++ [.row [i64 k, i64 w, i64 t, u64 x, bo true]]) hc [0, 1] rfl ⟨.inl (by rw [renO_rt]; rfl), .inl rfl, True.intro⟩ rfl rfl (H' := refH g.length tags L ++ [.row [i64 k, i64 w, i64 t, u64 x, bo true]]) (by simp only [refH, renH, renO_rt]; rfl) ?_
    rw [he]
    refine fork (fun h1 => ?_) (fun h1 => absurd (bne_eq_false_iff_eq.1 h1) h0)
    refine endH rfl rfl rfl ⟨.inl rfl, .inl rfl, True.intro⟩ (Nat.le_refl 2) (belowH_ref g.length tags L) rfl
/-- The document's table behind a deed that was done. -/
def refH4 (p tags : Nat) (L : List Rt) : Heap := [.dead, .row [i64 p, i64 tags, .slc 4 0 L.length 3], .dead, .dead, .row (flat rtC L)]
theorem belowH_ref4 (p tags : Nat) (L : List Rt) : belowH (refH4 p tags L).length (refH4 p tags L) = true := by
  show (belowL 5 (flat rtC L) && _) = true
  rw [belowL_flat (fun _ => rfl)]
  rfl
theorem doGive_ok (tags : Nat) (g : Rg) (L : List Rt) (w t : Int) (x : Nat) (m : Bool) (he : checkE tags g 2 w t x m = 0) (hR : Rel tags g L) (hL : L.length < 1000000) :
    ACalls Try.prog 25 [.ptr 1 0, deed 2 w t x m] (refH g.length tags L) (RetH (.tup [u64 x, i64 0]) (refH4 g.length tags (L ++ [(t, x, m)]))) := by
  cases m
  · have hc := checkR_ok tags g L 2 w t x false hR (by omega)
    refine acalls_of_awp hT mixed Try.func25 rfl (by kernel_rfl) (by kernel_rfl) (Nat.le_of_ble_eq_true rfl) ?_
    refine callH (H := refH g.length tags L ++ [.row [i64 2, i64 w, i64 t, u64 x, bo false]]) hc [0, 1] rfl ⟨.inl (by rw [renO_rt]; rfl), .inl rfl, True.intro⟩ rfl rfl (H' := refH g.length tags L ++ [.row [i64 2, i64 w, i64 t, u64 x, bo false]]) (by simp only [refH, renH, renO_rt]; rfl) ?_
    rw [he]
    refine ⟨[0, 0, 0, 0, 0, 0, 0, 0, 0, 0, 0, 0, 0, 1, 1, 1, 2], [[], [], [1], [1, 2], [1, 2, 3], [], [5], [], [7], [], [9], [5, 6, 7, 8, 9, 10], [5, 6, 7, 8, 9, 10, 11], [1, 2, 3, 4, 5, 6, 7, 8, 9, 10, 11, 12], [0, 1, 2, 3, 4, 5, 6, 7, 8, 9, 10, 11, 12, 13], [0, 1, 2, 3, 4, 5, 6, 7, 8, 9, 10, 11, 12, 13, 14], [0, 1, 2, 3, 4, 5, 6, 7, 8, 9, 10, 11, 12, 13, 14, 15]], [0, 0, 0, 0, 0, 0, 0, 0, 0, 0, 0, 0, 0, 1, 1, 1, 1], [13, 16], [[0], [0], [18], [19], [20], [3], [22], [3], [24], [3], [26], [23, 25, 27], [28], [21, 29], [17], [31], [32, 30]], Ob.intro (by kernel_rfl) ?_⟩
    repeat refine same ?_
    refine Ob.intro rfl ?_
    refine optK_intro (flat_rdAll rtC_len rfl rfl) ?_
    refine Ob.intro (show (L.length + 1) * 24 ≤ 140737488355328 ∧ L.length + 1 ≤ 9223372036854775807 by omega) ?_
    repeat refine same ?_
    have hrow : flat rtC L ++ [i64 t, u64 x, bo false] = flat rtC (L ++ [(t, x, false)]) := by rw [flat_append]; rfl
    have hlen : L.length + 1 = (L ++ [(t, x, false)]).length := by rw [List.length_append]; rfl
    refine endH rfl rfl rfl ⟨.inr rfl, .inl ?_, .inr rfl, .inr rfl, .inl ?_, True.intro⟩ (Nat.le_of_ble_eq_true rfl) (belowH_ref4 g.length tags (L ++ [(t, x, false)])) rfl
    · rw [← hlen]
      rfl
    · rw [← hrow]
      rfl
  · have hc := checkR_ok tags g L 2 w t x true hR (by omega)
    refine acalls_of_awp hT mixed Try.func25 rfl (by kernel_rfl) (by kernel_rfl) (Nat.le_of_ble_eq_true rfl) ?_
    refine callH (H := refH g.length tags L ++ [.row [i64 2, i64 w, i64 t, u64 x, bo true]]) hc [0, 1] rfl ⟨.inl (by rw [renO_rt]; rfl), .inl rfl, True.intro⟩ rfl rfl (H' := refH g.length tags L ++ [.row [i64 2, i64 w, i64 t, u64 x, bo true]]) (by simp only [refH, renH, renO_rt]; rfl) ?_
    rw [he]
    refine ⟨[0, 0, 0, 0, 0, 0, 0, 0, 0, 0, 0, 0, 0, 1, 1, 1, 2], [[], [], [1], [1, 2], [1, 2, 3], [], [5], [], [7], [], [9], [5, 6, 7, 8, 9, 10], [5, 6, 7, 8, 9, 10, 11], [1, 2, 3, 4, 5, 6, 7, 8, 9, 10, 11, 12], [0, 1, 2, 3, 4, 5, 6, 7, 8, 9, 10, 11, 12, 13], [0, 1, 2, 3, 4, 5, 6, 7, 8, 9, 10, 11, 12, 13, 14], [0, 1, 2, 3, 4, 5, 6, 7, 8, 9, 10, 11, 12, 13, 14, 15]], [0, 0, 0, 0, 0, 0, 0, 0, 0, 0, 0, 0, 0, 1, 1, 1, 1], [13, 16], [[0], [0], [18], [19], [20], [3], [22], [3], [24], [3], [26], [23, 25, 27], [28], [21, 29], [17], [31], [32, 30]], Ob.intro (by kernel_rfl) ?_⟩
    repeat refine same ?_
    refine Ob.intro rfl ?_
    refine optK_intro (flat_rdAll rtC_len rfl rfl) ?_
    refine Ob.intro (show (L.length + 1) * 24 ≤ 140737488355328 ∧ L.length + 1 ≤ 9223372036854775807 by omega) ?_
    repeat refine same ?_
    have hrow : flat rtC L ++ [i64 t, u64 x, bo true] = flat rtC (L ++ [(t, x, true)]) := by rw [flat_append]; rfl
    have hlen : L.length + 1 = (L ++ [(t, x, true)]).length := by rw [List.length_append]; rfl
    refine endH rfl rfl rfl ⟨.inr rfl, .inl ?_, .inr rfl, .inr rfl, .inl ?_, True.intro⟩ (Nat.le_of_ble_eq_true rfl) (belowH_ref4 g.length tags (L ++ [(t, x, true)])) rfl
    · rw [← hlen]
      rfl
    · rw [← hrow]
      rfl
theorem doMake_ok (tags : Nat) (g : Rg) (L : List Rt) (w : Int) (he : checkE tags g 1 w 0 0 false = 0) (hR : Rel tags g L) (hL : L.length < 1000000) :
    ACalls Try.prog 25 [.ptr 1 0, deed 1 w 0 0 false] (refH g.length tags L) (RetH (.tup [u64 (tags + 1 : Nat), i64 0]) (refH4 g.length (tags + 1) (L ++ [(w, tags + 1, false), (w, tags + 1, true)]))) := by
  have hc := checkR_ok tags g L 1 w 0 0 false hR (by omega)
  have e2 : wrp .i64 ((tags : Int) + 1) = ((tags + 1 : Nat) : Int) := by have := hR.tag; rw [wrpE, wi64]; omega
  have e3 : wrp .u64 ((tags + 1 : Nat) : Int) = ((tags + 1 : Nat) : Int) := by have := hR.tag; rw [wrpE, wu64]; omega
  refine acalls_of_awp hT mixed Try.func25 rfl (by kernel_rfl) (by kernel_rfl) (Nat.le_of_ble_eq_true rfl) ?_
  refine callH (H := refH g.length tags L ++ [.row [i64 1, i64 w, i64 0, u64 0, bo false]]) hc [0, 1] rfl ⟨.inl (by rw [renO_rt]; rfl), .inl rfl, True.intro⟩ rfl rfl (H' := refH g.length tags L ++ [.row [i64 1, i64 w, i64 0, u64 0, bo false]]) (by simp only [refH, renH, renO_rt]; rfl) ?_
  rw [he]
  refine ⟨[0, 0, 0, 0, 0, 0, 0, 0, 0, 0, 0, 0, 0, 0, 1, 1, 1, 2], [[], [], [1], [1, 2], [1, 2, 3], [], [5], [], [5, 6, 7], [], [9], [], [9, 10, 11], [5, 6, 7, 8, 9, 10, 11, 12], [1, 2, 3, 4, 5, 6, 7, 8, 9, 10, 11, 12, 13], [0, 1, 2, 3, 4, 5, 6, 7, 8, 9, 10, 11, 12, 13, 14], [0, 1, 2, 3, 4, 5, 6, 7, 8, 9, 10, 11, 12, 13, 14, 15], [0, 1, 2, 3, 4, 5, 6, 7, 8, 9, 10, 11, 12, 13, 14, 15, 16]], [0, 0, 0, 0, 0, 0, 0, 0, 0, 0, 0, 0, 0, 0, 1, 1, 1, 1], [14, 17], [[0], [0], [49], [50], [51], [3], [53], [7], [54, 55], [3], [57], [7], [58, 59], [56, 60], [52, 61], [48], [63], [64, 62]], Ob.intro (by kernel_rfl) ?_⟩
  repeat refine same ?_
  refine Ob.intro rfl ?_
  refine optK_intro (flat_rdAll rtC_len rfl rfl) ?_
  refine Ob.intro (show (L.length + 2) * 24 ≤ 140737488355328 ∧ L.length + 2 ≤ 9223372036854775807 by omega) ?_
  repeat refine same ?_
  have hz : wrp .u64 (wrp .i64 ((tags : Int) + 1)) = ((tags + 1 : Nat) : Int) := by rw [e2, e3]
  have hrow : flat rtC L ++ [i64 w, u64 (wrp .u64 (wrp .i64 ((tags : Int) + 1))), bo false, i64 w, u64 (wrp .u64 (wrp .i64 ((tags : Int) + 1))), bo true] = flat rtC (L ++ [(w, tags + 1, false), (w, tags + 1, true)]) := by rw [flat_append, hz]; rfl
  have hlen : L.length + 2 = (L ++ [(w, tags + 1, false), (w, tags + 1, true)]).length := by rw [List.length_append]; rfl
  refine endH rfl rfl rfl ⟨.inr rfl, .inl ?_, .inr rfl, .inr rfl, .inl ?_, True.intro⟩ (Nat.le_of_ble_eq_true rfl) (belowH_ref4 g.length (tags + 1) (L ++ [(w, tags + 1, false), (w, tags + 1, true)])) (congrArg (fun z => AV.tup [u64 z, i64 0]) hz)
  · rw [← hlen]
    exact congrArg (fun z => AObj.row [i64 g.length, i64 z, .slc 4 0 (L.length + 2) 3]) e2.symm
  · rw [← hrow]
    rfl
end Go.Proofs.Ytkbpddejafdmdaa.A

namespace Go.Proofs.Ytkbpddejafdmdaa.A
open Go
set_option linter.unusedVariables false
set_option maxRecDepth 100000
set_option pp.maxSteps 1500

/-- The tags of a set, as far as they were looked at. -/
def upto (p : Nat → Bool) (k : Nat) : List Nat := (List.range' 1 k).filter p
theorem upto_succ (p : Nat → Bool) (k : Nat) : upto p (k + 1) = if p (k + 1) = true then upto p k ++ [k + 1] else upto p k := by
  unfold upto
  rw [List.range'_concat, List.filter_append, show 1 + 1 * k = k + 1 by omega]
  split
  · rename_i h
    simp [h]
  · rename_i h
    simp [h]
theorem upto_len (p : Nat → Bool) (k : Nat) : (upto p k).length ≤ k := by
  unfold upto
  refine Nat.le_trans (List.length_filter_le ..) ?_
  rw [List.length_range']
  exact Nat.le_refl _
end Go.Proofs.Ytkbpddejafdmdaa.A

namespace Go.Proofs.Ytkbpddejafdmdaa.A
open Go
set_option linter.unusedVariables false
set_option maxRecDepth 100000
set_option pp.maxSteps 1500

end Go.Proofs.Ytkbpddejafdmdaa.A
