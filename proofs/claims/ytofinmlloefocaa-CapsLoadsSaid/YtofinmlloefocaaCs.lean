/- Both tables tell the same of anybody. No condition. -/
import Derived.Test.YtofinmlloefocaaCr
namespace Go.Proofs.Ytofinmlloefocaa.A
open Go
set_option linter.unusedVariables false
set_option maxRecDepth 100000
set_option pp.maxSteps 1500

theorem plus_ok (tags : Nat) (l : Rg) (who : Int) (hl : RgOk l) (h : oneT l who = true) : ACalls Try.prog 20 [.ptr 1 0, i64 who] (tabH tags l) (RetH (us (listS (maskOf l who false))) (tabH tags l)) := by
  refine acalls_of_awp hT mixed Try.func20 rfl (by kernel_rfl) (by kernel_rfl) (Nat.le_of_ble_eq_true rfl) ?_
  refine callH (one_ok tags l who) [0, 1] rfl ⟨.inl (by rw [renO_rg]; rfl), .inl rfl, True.intro⟩ rfl rfl (H' := tabH tags l) (by simp only [tabH, renH, renO_rg]; rfl) ?_
  rw [h]
  refine Ob.intro (of_decide_eq_true h) ?_
  refine optK_intro (mask_rd (tags := tags) h false) ?_
  refine callP (list_ok _ (maskOf_lt hl who false)) rfl rfl ?_
  refine endH rfl rfl rfl ⟨.inl rfl, .inl rfl, True.intro⟩ (Nat.le_refl 2) (belowH_tab tags l) rfl
theorem minus_ok (tags : Nat) (l : Rg) (who : Int) (hl : RgOk l) (h : oneT l who = true) : ACalls Try.prog 21 [.ptr 1 0, i64 who] (tabH tags l) (RetH (us (listS (maskOf l who true))) (tabH tags l)) := by
  refine acalls_of_awp hT mixed Try.func21 rfl (by kernel_rfl) (by kernel_rfl) (Nat.le_of_ble_eq_true rfl) ?_
  refine callH (one_ok tags l who) [0, 1] rfl ⟨.inl (by rw [renO_rg]; rfl), .inl rfl, True.intro⟩ rfl rfl (H' := tabH tags l) (by simp only [tabH, renH, renO_rg]; rfl) ?_
  rw [h]
  refine Ob.intro (of_decide_eq_true h) ?_
  refine optK_intro (mask_rd (tags := tags) h true) ?_
  refine callP (list_ok _ (maskOf_lt hl who true)) rfl rfl ?_
  refine endH rfl rfl rfl ⟨.inl rfl, .inl rfl, True.intro⟩ (Nat.le_refl 2) (belowH_tab tags l) rfl
theorem plusNo_ok (tags : Nat) (l : Rg) (who : Int) (h : oneT l who = false) : ACalls Try.prog 20 [.ptr 1 0, i64 who] (tabH tags l) (RetH nilS (tabH tags l)) := by
  refine acalls_of_awp hT mixed Try.func20 rfl (by kernel_rfl) (by kernel_rfl) (Nat.le_of_ble_eq_true rfl) ?_
  refine callH (one_ok tags l who) [0, 1] rfl ⟨.inl (by rw [renO_rg]; rfl), .inl rfl, True.intro⟩ rfl rfl (H' := tabH tags l) (by simp only [tabH, renH, renO_rg]; rfl) ?_
  rw [h]
  refine endH rfl rfl rfl ⟨.inl rfl, .inl rfl, True.intro⟩ (Nat.le_refl 2) (belowH_tab tags l) rfl
theorem minusNo_ok (tags : Nat) (l : Rg) (who : Int) (h : oneT l who = false) : ACalls Try.prog 21 [.ptr 1 0, i64 who] (tabH tags l) (RetH nilS (tabH tags l)) := by
  refine acalls_of_awp hT mixed Try.func21 rfl (by kernel_rfl) (by kernel_rfl) (Nat.le_of_ble_eq_true rfl) ?_
  refine callH (one_ok tags l who) [0, 1] rfl ⟨.inl (by rw [renO_rg]; rfl), .inl rfl, True.intro⟩ rfl rfl (H' := tabH tags l) (by simp only [tabH, renH, renO_rg]; rfl) ?_
  rw [h]
  refine endH rfl rfl rfl ⟨.inl rfl, .inl rfl, True.intro⟩ (Nat.le_refl 2) (belowH_tab tags l) rfl
/-- Both tables, side by side. -/
def twoH (p tags : Nat) (g : Rg) (L : List Rt) : Heap := [.row (rgC g), tabO tags g, .row (flat rtC L), .row [i64 p, i64 tags, .slc 2 0 L.length 3]]
theorem belowH_two (p tags : Nat) (g : Rg) (L : List Rt) : belowH (twoH p tags g L).length (twoH p tags g L) = true := by
  have : ∀ l : Rg, belowL 4 (rgC l) = true := by
    intro l
    induction l with
    | nil => rfl
    | cons x l ih =>
      show belowL 4 (u64 x.1 :: u64 x.2 :: rgC l) = true
      simp only [belowL, ih]
      rfl
  show (belowL 4 (rgC g) && (_ && (belowL 4 (flat rtC L) && _))) = true
  rw [this, belowL_flat (fun _ => rfl)]
  rfl
theorem alikeNo_ok (tags : Nat) (g : Rg) (L : List Rt) (who : Int) (x : Nat) (a l : List Nat) (hg : RgOk g) (hR : Rel tags g L) (hL : L.length < 1000000) (ha : a.length < 1000000) (hl : l.length < 1000000) (hx : x < 18446744073709551616) (hxl : ∀ x ∈ l, x < 18446744073709551616) (ho : oneT g who = false) :
    ACalls Try.prog 17 [.ptr 1 0, .ptr 3 0, i64 who, u64 x, us a, us l] (twoH g.length tags g L) (RetH (bo true) (twoH g.length tags g L)) := by
  have h1 : ACalls Try.prog 32 [.ptr 1 0, i64 who] (refH g.length tags L) (RetH (bo (oneT g who)) (refH g.length tags L)) := oneR_ok g.length tags L who
  have hcl : clearT g who a l = false := by unfold clearT; rw [ho]; rfl
  have c1 := clear_ok tags g who a l hg (by omega) (by omega) hxl
  have c2 := clearR_ok g.length tags L who a l hL (by omega) (by omega) hxl
  rw [show decide (0 ≤ who ∧ who < (g.length : Int)) = oneT g who from rfl, rel_clear hR, hcl] at c2
  rw [hcl] at c1
  have md := mayDrop_ok tags g who x hg hx
  rw [ho, Bool.false_and] at md
  rw [ho] at h1
  have tg := tags_ok tags g
  have pe := people_ok tags g
  have pl := plusNo_ok tags g who ho
  have mi := minusNo_ok tags g who ho
  refine acalls_of_awp hT mixed Try.func17 rfl (by kernel_rfl) (by kernel_rfl) (Nat.le_of_ble_eq_true rfl) ?_
  refine callH (H := twoH g.length tags g L) h1 [2, 3] rfl ⟨.inl (by rw [renO_rt]; rfl), .inl rfl, True.intro⟩ rfl rfl (H' := twoH g.length tags g L) (by simp only [refH, renH, renO_rt]; rfl) ?_
  refine ⟨[0, 0, 0, 0, 1, 0, 0, 0, 0, 2, 2, 2, 2, 2, 2, 3, 2, 3, 3, 3, 3, 4, 4, 4, 4, 4, 4, 5, 4, 4, 4, 4, 5, 5, 5, 5, 6, 5, 5, 5, 5, 6, 6], [[], [], [], [], [0, 1, 2, 3], [], [], [], [], [0, 1, 2, 3, 4, 5, 6, 7, 8], [0, 1, 2, 3, 4, 5, 6, 7, 8, 9], [0, 1, 2, 3, 4, 5, 6, 7, 8, 9, 10], [0, 1, 2, 3, 4, 5, 6, 7, 8, 9, 10, 11], [0, 1, 2, 3, 4, 5, 6, 7, 8, 9, 10, 11], [0, 1, 2, 3, 4, 5, 6, 7, 8, 9, 10, 11], [0, 1, 2, 3, 4, 5, 6, 7, 8, 9, 10, 11, 12, 13, 14], [0, 1, 2, 3, 4, 5, 6, 7, 8, 9, 10, 11], [0, 1, 2, 3, 4, 5, 6, 7, 8, 9, 10, 11, 12, 13, 14, 15, 16], [0, 1, 2, 3, 4, 5, 6, 7, 8, 9, 10, 11, 12, 13, 14, 15, 16, 17], [0, 1, 2, 3, 4, 5, 6, 7, 8, 9, 10, 11, 12, 13, 14, 15, 16, 17], [0, 1, 2, 3, 4, 5, 6, 7, 8, 9, 10, 11, 12, 13, 14, 15, 16, 17], [0, 1, 2, 3, 4, 5, 6, 7, 8, 9, 10, 11, 12, 13, 14, 15, 16, 17, 18, 19, 20], [0, 1, 2, 3, 4, 5, 6, 7, 8, 9, 10, 11, 12, 13, 14, 15, 16, 17, 18, 19, 20, 21], [0, 1, 2, 3, 4, 5, 6, 7, 8, 9, 10, 11, 12, 13, 14, 15, 16, 17, 18, 19, 20, 21, 22], [0, 1, 2, 3, 4, 5, 6, 7, 8, 9, 10, 11, 12, 13, 14, 15, 16, 17, 18, 19, 20, 21, 22, 23], [0, 1, 2, 3, 4, 5, 6, 7, 8, 9, 10, 11, 12, 13, 14, 15, 16, 17, 18, 19, 20, 21, 22, 23, 24], [0, 1, 2, 3, 4, 5, 6, 7, 8, 9, 10, 11, 12, 13, 14, 15, 16, 17, 18, 19, 20, 21, 22, 23, 24, 25], [0, 1, 2, 3, 4, 5, 6, 7, 8, 9, 10, 11, 12, 13, 14, 15, 16, 17, 18, 19, 20, 21, 22, 23, 24, 25, 26], [0, 1, 2, 3, 4, 5, 6, 7, 8, 9, 10, 11, 12, 13, 14, 15, 16, 17, 18, 19, 20, 21, 22, 23, 24, 25], [0, 1, 2, 3, 4, 5, 6, 7, 8, 9, 10, 11, 12, 13, 14, 15, 16, 17, 18, 19, 20, 21, 22, 23, 24, 25, 28], [0, 1, 2, 3, 4, 5, 6, 7, 8, 9, 10, 11, 12, 13, 14, 15, 16, 17, 18, 19, 20, 21, 22, 23, 24, 25, 28, 29], [0, 1, 2, 3, 4, 5, 6, 7, 8, 9, 10, 11, 12, 13, 14, 15, 16, 17, 18, 19, 20, 21, 22, 23, 24, 25, 28, 29, 30], [0, 1, 2, 3, 4, 5, 6, 7, 8, 9, 10, 11, 12, 13, 14, 15, 16, 17, 18, 19, 20, 21, 22, 23, 24, 25, 26, 27, 28, 29, 30, 31], [0, 1, 2, 3, 4, 5, 6, 7, 8, 9, 10, 11, 12, 13, 14, 15, 16, 17, 18, 19, 20, 21, 22, 23, 24, 25, 26, 27, 28, 29, 30, 31, 32], [0, 1, 2, 3, 4, 5, 6, 7, 8, 9, 10, 11, 12, 13, 14, 15, 16, 17, 18, 19, 20, 21, 22, 23, 24, 25, 26, 27, 28, 29, 30, 31, 32, 33], [0, 1, 2, 3, 4, 5, 6, 7, 8, 9, 10, 11, 12, 13, 14, 15, 16, 17, 18, 19, 20, 21, 22, 23, 24, 25, 26, 27, 28, 29, 30, 31, 32, 33, 34], [0, 1, 2, 3, 4, 5, 6, 7, 8, 9, 10, 11, 12, 13, 14, 15, 16, 17, 18, 19, 20, 21, 22, 23, 24, 25, 26, 27, 28, 29, 30, 31, 32, 33, 34, 35], [0, 1, 2, 3, 4, 5, 6, 7, 8, 9, 10, 11, 12, 13, 14, 15, 16, 17, 18, 19, 20, 21, 22, 23, 24, 25, 26, 27, 28, 29, 30, 31, 32, 33, 34], [0, 1, 2, 3, 4, 5, 6, 7, 8, 9, 10, 11, 12, 13, 14, 15, 16, 17, 18, 19, 20, 21, 22, 23, 24, 25, 26, 27, 28, 29, 30, 31, 32, 33, 34, 37], [0, 1, 2, 3, 4, 5, 6, 7, 8, 9, 10, 11, 12, 13, 14, 15, 16, 17, 18, 19, 20, 21, 22, 23, 24, 25, 26, 27, 28, 29, 30, 31, 32, 33, 34, 37, 38], [0, 1, 2, 3, 4, 5, 6, 7, 8, 9, 10, 11, 12, 13, 14, 15, 16, 17, 18, 19, 20, 21, 22, 23, 24, 25, 26, 27, 28, 29, 30, 31, 32, 33, 34, 37, 38, 39], [0, 1, 2, 3, 4, 5, 6, 7, 8, 9, 10, 11, 12, 13, 14, 15, 16, 17, 18, 19, 20, 21, 22, 23, 24, 25, 26, 27, 28, 29, 30, 31, 32, 33, 34, 35, 36, 37, 38, 39, 40], [0, 1, 2, 3, 4, 5, 6, 7, 8, 9, 10, 11, 12, 13, 14, 15, 16, 17, 18, 19, 20, 21, 22, 23, 24, 25, 26, 27, 28, 29, 30, 31, 32, 33, 34, 35, 36, 37, 38, 39, 40, 41]], [0, 0, 0, 0, 0, 0, 0, 0, 0, 0, 0, 0, 0, 0, 0, 0, 0, 0, 0, 0, 0, 0, 0, 0, 0, 0, 0, 0, 0, 0, 0, 0, 0, 0, 0, 0, 0, 0, 0, 0, 0, 0, 0], [4, 9, 15, 21, 27, 36], [[0], [2], [4], [5], [17, 18, 19, 20], [1], [2], [4], [5], [22, 23, 24, 25], [21, 26], [27], [0, 28], [2, 28], [3, 28], [29, 30, 31, 28], [13, 28], [33, 28], [1, 34], [2, 34], [3, 34], [35, 36, 37, 34], [34, 38, 28], [32, 39, 28], [28, 40], [41], [0, 42], [43, 42], [1, 42], [45, 42], [46, 42], [47, 42], [44, 48, 42], [42, 49], [50], [0, 51], [52, 51], [1, 51], [54, 51], [55, 51], [56, 51], [53, 57, 51], [51, 58]], Ob.intro (by kernel_rfl) ?_⟩
  repeat refine same ?_
  refine callH (H := twoH g.length tags g L) c1 [0, 1] rfl ⟨.inl (by rw [renO_rg]; rfl), .inl rfl, True.intro⟩ rfl rfl (H' := twoH g.length tags g L) (by simp only [tabH, renH, renO_rg]; rfl) ?_
  repeat refine same ?_
  refine callH (H := twoH g.length tags g L) c2 [2, 3] rfl ⟨.inl (by rw [renO_rt]; rfl), .inl rfl, True.intro⟩ rfl rfl (H' := twoH g.length tags g L) (by simp only [refH, renH, renO_rt]; rfl) ?_
  repeat refine same ?_
  refine callH (H := twoH g.length tags g L) md [0, 1] rfl ⟨.inl (by rw [renO_rg]; rfl), .inl rfl, True.intro⟩ rfl rfl (H' := twoH g.length tags g L) (by simp only [tabH, renH, renO_rg]; rfl) ?_
  repeat refine same ?_
  skip
  repeat refine same ?_
  refine callH (H := twoH g.length tags g L) tg [0, 1] rfl ⟨.inl (by rw [renO_rg]; rfl), .inl rfl, True.intro⟩ rfl rfl (H' := twoH g.length tags g L) (by simp only [tabH, renH, renO_rg]; rfl) ?_
  repeat refine same ?_
  refine fork (fun h => absurd rfl (bne_iff_ne.1 h)) (fun h => ?_)
  repeat refine same ?_
  refine callH (H := twoH g.length tags g L) pe [0, 1] rfl ⟨.inl (by rw [renO_rg]; rfl), .inl rfl, True.intro⟩ rfl rfl (H' := twoH g.length tags g L) (by simp only [tabH, renH, renO_rg]; rfl) ?_
  repeat refine same ?_
  refine fork (fun h => absurd rfl (bne_iff_ne.1 h)) (fun h => ?_)
  repeat refine same ?_
  refine callH (H := twoH g.length tags g L) pl [0, 1] rfl ⟨.inl (by rw [renO_rg]; rfl), .inl rfl, True.intro⟩ rfl rfl (H' := twoH g.length tags g L) (by simp only [tabH, renH, renO_rg]; rfl) ?_
  refine callH (H := twoH g.length tags g L) mi [0, 1] rfl ⟨.inl (by rw [renO_rg]; rfl), .inl rfl, True.intro⟩ rfl rfl (H' := twoH g.length tags g L) (by simp only [tabH, renH, renO_rg]; rfl) ?_
  refine endH rfl rfl rfl ⟨.inl rfl, .inl rfl, .inl rfl, .inl rfl, True.intro⟩ (Nat.le_refl 4) (belowH_two g.length tags g L) rfl
theorem alikeYes_ok (tags : Nat) (g : Rg) (L : List Rt) (who : Int) (x : Nat) (a l : List Nat) (hg : RgOk g) (hR : Rel tags g L) (hL : L.length < 1000000) (ha : a.length < 1000000) (hl : l.length < 1000000) (hx : x < 18446744073709551616) (hxl : ∀ x ∈ l, x < 18446744073709551616) (ho : oneT g who = true)
    (c d : Bool) (hc : clearT g who a l = c) (hd : decide ((who, x, true) ∈ L) = d) :
    ACalls Try.prog 17 [.ptr 1 0, .ptr 3 0, i64 who, u64 x, us a, us l] (twoH g.length tags g L) (RetH (bo true) (twoH g.length tags g L)) := by
  cases c
  · cases d
    · have h1 : ACalls Try.prog 32 [.ptr 1 0, i64 who] (refH g.length tags L) (RetH (bo (oneT g who)) (refH g.length tags L)) := oneR_ok g.length tags L who
      have c1 := clear_ok tags g who a l hg (by omega) (by omega) hxl
      have c2 := clearR_ok g.length tags L who a l hL (by omega) (by omega) hxl
      rw [show decide (0 ≤ who ∧ who < (g.length : Int)) = oneT g who from rfl, rel_clear hR, hc] at c2
      rw [hc] at c1
      have md := mayDrop_ok tags g who x hg hx
      have hsame := hR.same who x true ho
      unfold hasR at hsame
      rw [hsame, ho, Bool.true_and, hd] at md
      have hr := hasRt_ok g.length tags L who x true (by omega)
      rw [hd] at hr
      rw [ho] at h1
      have tg := tags_ok tags g
      have pe := people_ok tags g
      have pl := plus_ok tags g who hg ho
      have mi := minus_ok tags g who hg ho
      have sp := setL_ok g.length tags L who false hL (by have := hR.tag; omega)
      have sm := setL_ok g.length tags L who true hL (by have := hR.tag; omega)
      rw [set_list hR ho] at sp sm
      have lb : ∀ s, (listS s).length < 9223372036854775807 := fun s => by
        have : (listS s).length ≤ 16 := upto_len (fun x => hasS s x) 16
        omega
      have s1 := sameSelf_ok _ (lb (maskOf g who false))
      have s2 := sameSelf_ok _ (lb (maskOf g who true))
      refine acalls_of_awp hT mixed Try.func17 rfl (by kernel_rfl) (by kernel_rfl) (Nat.le_of_ble_eq_true rfl) ?_
      refine callH (H := twoH g.length tags g L) h1 [2, 3] rfl ⟨.inl (by rw [renO_rt]; rfl), .inl rfl, True.intro⟩ rfl rfl (H' := twoH g.length tags g L) (by simp only [refH, renH, renO_rt]; rfl) ?_
      refine ⟨[0, 0, 0, 0, 1, 0, 0, 0, 0, 2, 2, 2, 2, 2, 2, 3, 2, 3, 3, 3, 3, 4, 4, 4, 4, 4, 4, 5, 4, 4, 4, 4, 5, 5, 5, 5, 6, 5, 5, 5, 5, 6, 6], [[], [], [], [], [0, 1, 2, 3], [], [], [], [], [0, 1, 2, 3, 4, 5, 6, 7, 8], [0, 1, 2, 3, 4, 5, 6, 7, 8, 9], [0, 1, 2, 3, 4, 5, 6, 7, 8, 9, 10], [0, 1, 2, 3, 4, 5, 6, 7, 8, 9, 10, 11], [0, 1, 2, 3, 4, 5, 6, 7, 8, 9, 10, 11], [0, 1, 2, 3, 4, 5, 6, 7, 8, 9, 10, 11], [0, 1, 2, 3, 4, 5, 6, 7, 8, 9, 10, 11, 12, 13, 14], [0, 1, 2, 3, 4, 5, 6, 7, 8, 9, 10, 11], [0, 1, 2, 3, 4, 5, 6, 7, 8, 9, 10, 11, 12, 13, 14, 15, 16], [0, 1, 2, 3, 4, 5, 6, 7, 8, 9, 10, 11, 12, 13, 14, 15, 16, 17], [0, 1, 2, 3, 4, 5, 6, 7, 8, 9, 10, 11, 12, 13, 14, 15, 16, 17], [0, 1, 2, 3, 4, 5, 6, 7, 8, 9, 10, 11, 12, 13, 14, 15, 16, 17], [0, 1, 2, 3, 4, 5, 6, 7, 8, 9, 10, 11, 12, 13, 14, 15, 16, 17, 18, 19, 20], [0, 1, 2, 3, 4, 5, 6, 7, 8, 9, 10, 11, 12, 13, 14, 15, 16, 17, 18, 19, 20, 21], [0, 1, 2, 3, 4, 5, 6, 7, 8, 9, 10, 11, 12, 13, 14, 15, 16, 17, 18, 19, 20, 21, 22], [0, 1, 2, 3, 4, 5, 6, 7, 8, 9, 10, 11, 12, 13, 14, 15, 16, 17, 18, 19, 20, 21, 22, 23], [0, 1, 2, 3, 4, 5, 6, 7, 8, 9, 10, 11, 12, 13, 14, 15, 16, 17, 18, 19, 20, 21, 22, 23, 24], [0, 1, 2, 3, 4, 5, 6, 7, 8, 9, 10, 11, 12, 13, 14, 15, 16, 17, 18, 19, 20, 21, 22, 23, 24, 25], [0, 1, 2, 3, 4, 5, 6, 7, 8, 9, 10, 11, 12, 13, 14, 15, 16, 17, 18, 19, 20, 21, 22, 23, 24, 25, 26], [0, 1, 2, 3, 4, 5, 6, 7, 8, 9, 10, 11, 12, 13, 14, 15, 16, 17, 18, 19, 20, 21, 22, 23, 24, 25], [0, 1, 2, 3, 4, 5, 6, 7, 8, 9, 10, 11, 12, 13, 14, 15, 16, 17, 18, 19, 20, 21, 22, 23, 24, 25, 28], [0, 1, 2, 3, 4, 5, 6, 7, 8, 9, 10, 11, 12, 13, 14, 15, 16, 17, 18, 19, 20, 21, 22, 23, 24, 25, 28, 29], [0, 1, 2, 3, 4, 5, 6, 7, 8, 9, 10, 11, 12, 13, 14, 15, 16, 17, 18, 19, 20, 21, 22, 23, 24, 25, 28, 29, 30], [0, 1, 2, 3, 4, 5, 6, 7, 8, 9, 10, 11, 12, 13, 14, 15, 16, 17, 18, 19, 20, 21, 22, 23, 24, 25, 26, 27, 28, 29, 30, 31], [0, 1, 2, 3, 4, 5, 6, 7, 8, 9, 10, 11, 12, 13, 14, 15, 16, 17, 18, 19, 20, 21, 22, 23, 24, 25, 26, 27, 28, 29, 30, 31, 32], [0, 1, 2, 3, 4, 5, 6, 7, 8, 9, 10, 11, 12, 13, 14, 15, 16, 17, 18, 19, 20, 21, 22, 23, 24, 25, 26, 27, 28, 29, 30, 31, 32, 33], [0, 1, 2, 3, 4, 5, 6, 7, 8, 9, 10, 11, 12, 13, 14, 15, 16, 17, 18, 19, 20, 21, 22, 23, 24, 25, 26, 27, 28, 29, 30, 31, 32, 33, 34], [0, 1, 2, 3, 4, 5, 6, 7, 8, 9, 10, 11, 12, 13, 14, 15, 16, 17, 18, 19, 20, 21, 22, 23, 24, 25, 26, 27, 28, 29, 30, 31, 32, 33, 34, 35], [0, 1, 2, 3, 4, 5, 6, 7, 8, 9, 10, 11, 12, 13, 14, 15, 16, 17, 18, 19, 20, 21, 22, 23, 24, 25, 26, 27, 28, 29, 30, 31, 32, 33, 34], [0, 1, 2, 3, 4, 5, 6, 7, 8, 9, 10, 11, 12, 13, 14, 15, 16, 17, 18, 19, 20, 21, 22, 23, 24, 25, 26, 27, 28, 29, 30, 31, 32, 33, 34, 37], [0, 1, 2, 3, 4, 5, 6, 7, 8, 9, 10, 11, 12, 13, 14, 15, 16, 17, 18, 19, 20, 21, 22, 23, 24, 25, 26, 27, 28, 29, 30, 31, 32, 33, 34, 37, 38], [0, 1, 2, 3, 4, 5, 6, 7, 8, 9, 10, 11, 12, 13, 14, 15, 16, 17, 18, 19, 20, 21, 22, 23, 24, 25, 26, 27, 28, 29, 30, 31, 32, 33, 34, 37, 38, 39], [0, 1, 2, 3, 4, 5, 6, 7, 8, 9, 10, 11, 12, 13, 14, 15, 16, 17, 18, 19, 20, 21, 22, 23, 24, 25, 26, 27, 28, 29, 30, 31, 32, 33, 34, 35, 36, 37, 38, 39, 40], [0, 1, 2, 3, 4, 5, 6, 7, 8, 9, 10, 11, 12, 13, 14, 15, 16, 17, 18, 19, 20, 21, 22, 23, 24, 25, 26, 27, 28, 29, 30, 31, 32, 33, 34, 35, 36, 37, 38, 39, 40, 41]], [0, 0, 0, 0, 0, 0, 0, 0, 0, 0, 0, 0, 0, 0, 0, 0, 0, 0, 0, 0, 0, 0, 0, 0, 0, 0, 0, 0, 0, 0, 0, 0, 0, 0, 0, 0, 0, 0, 0, 0, 0, 0, 0], [4, 9, 15, 21, 27, 36], [[0], [2], [4], [5], [17, 18, 19, 20], [1], [2], [4], [5], [22, 23, 24, 25], [21, 26], [27], [0, 28], [2, 28], [3, 28], [29, 30, 31, 28], [13, 28], [33, 28], [1, 34], [2, 34], [3, 34], [35, 36, 37, 34], [34, 38, 28], [32, 39, 28], [28, 40], [41], [0, 42], [43, 42], [1, 42], [45, 42], [46, 42], [47, 42], [44, 48, 42], [42, 49], [50], [0, 51], [52, 51], [1, 51], [54, 51], [55, 51], [56, 51], [53, 57, 51], [51, 58]], Ob.intro (by kernel_rfl) ?_⟩
      repeat refine same ?_
      refine callH (H := twoH g.length tags g L) c1 [0, 1] rfl ⟨.inl (by rw [renO_rg]; rfl), .inl rfl, True.intro⟩ rfl rfl (H' := twoH g.length tags g L) (by simp only [tabH, renH, renO_rg]; rfl) ?_
      repeat refine same ?_
      refine callH (H := twoH g.length tags g L) c2 [2, 3] rfl ⟨.inl (by rw [renO_rt]; rfl), .inl rfl, True.intro⟩ rfl rfl (H' := twoH g.length tags g L) (by simp only [refH, renH, renO_rt]; rfl) ?_
      repeat refine same ?_
      refine callH (H := twoH g.length tags g L) md [0, 1] rfl ⟨.inl (by rw [renO_rg]; rfl), .inl rfl, True.intro⟩ rfl rfl (H' := twoH g.length tags g L) (by simp only [tabH, renH, renO_rg]; rfl) ?_
      repeat refine same ?_
      refine callH (H := twoH g.length tags g L) hr [2, 3] rfl ⟨.inl (by rw [renO_rt]; rfl), .inl rfl, True.intro⟩ rfl rfl (H' := twoH g.length tags g L) (by simp only [refH, renH, renO_rt]; rfl) ?_
      repeat refine same ?_
      refine callH (H := twoH g.length tags g L) tg [0, 1] rfl ⟨.inl (by rw [renO_rg]; rfl), .inl rfl, True.intro⟩ rfl rfl (H' := twoH g.length tags g L) (by simp only [tabH, renH, renO_rg]; rfl) ?_
      repeat refine same ?_
      refine fork (fun h => absurd rfl (bne_iff_ne.1 h)) (fun h => ?_)
      repeat refine same ?_
      refine callH (H := twoH g.length tags g L) pe [0, 1] rfl ⟨.inl (by rw [renO_rg]; rfl), .inl rfl, True.intro⟩ rfl rfl (H' := twoH g.length tags g L) (by simp only [tabH, renH, renO_rg]; rfl) ?_
      repeat refine same ?_
      refine fork (fun h => absurd rfl (bne_iff_ne.1 h)) (fun h => ?_)
      repeat refine same ?_
      refine callH (H := twoH g.length tags g L) pl [0, 1] rfl ⟨.inl (by rw [renO_rg]; rfl), .inl rfl, True.intro⟩ rfl rfl (H' := twoH g.length tags g L) (by simp only [tabH, renH, renO_rg]; rfl) ?_
      refine callH (H := twoH g.length tags g L) sp [2, 3] rfl ⟨.inl (by rw [renO_rt]; rfl), .inl rfl, True.intro⟩ rfl rfl (H' := twoH g.length tags g L) (by simp only [refH, renH, renO_rt]; rfl) ?_
      refine callP s1 rfl rfl ?_
      refine callH (H := twoH g.length tags g L) mi [0, 1] rfl ⟨.inl (by rw [renO_rg]; rfl), .inl rfl, True.intro⟩ rfl rfl (H' := twoH g.length tags g L) (by simp only [tabH, renH, renO_rg]; rfl) ?_
      refine callH (H := twoH g.length tags g L) sm [2, 3] rfl ⟨.inl (by rw [renO_rt]; rfl), .inl rfl, True.intro⟩ rfl rfl (H' := twoH g.length tags g L) (by simp only [refH, renH, renO_rt]; rfl) ?_
      refine callP s2 rfl rfl ?_
      refine endH rfl rfl rfl ⟨.inl rfl, .inl rfl, .inl rfl, .inl rfl, True.intro⟩ (Nat.le_refl 4) (belowH_two g.length tags g L) rfl
    · have h1 : ACalls Try.prog 32 [.ptr 1 0, i64 who] (refH g.length tags L) (RetH (bo (oneT g who)) (refH g.length tags L)) := oneR_ok g.length tags L who
      have c1 := clear_ok tags g who a l hg (by omega) (by omega) hxl
      have c2 := clearR_ok g.length tags L who a l hL (by omega) (by omega) hxl
      rw [show decide (0 ≤ who ∧ who < (g.length : Int)) = oneT g who from rfl, rel_clear hR, hc] at c2
      rw [hc] at c1
      have md := mayDrop_ok tags g who x hg hx
      have hsame := hR.same who x true ho
      unfold hasR at hsame
      rw [hsame, ho, Bool.true_and, hd] at md
      have hr := hasRt_ok g.length tags L who x true (by omega)
      rw [hd] at hr
      rw [ho] at h1
      have tg := tags_ok tags g
      have pe := people_ok tags g
      have pl := plus_ok tags g who hg ho
      have mi := minus_ok tags g who hg ho
      have sp := setL_ok g.length tags L who false hL (by have := hR.tag; omega)
      have sm := setL_ok g.length tags L who true hL (by have := hR.tag; omega)
      rw [set_list hR ho] at sp sm
      have lb : ∀ s, (listS s).length < 9223372036854775807 := fun s => by
        have : (listS s).length ≤ 16 := upto_len (fun x => hasS s x) 16
        omega
      have s1 := sameSelf_ok _ (lb (maskOf g who false))
      have s2 := sameSelf_ok _ (lb (maskOf g who true))
      refine acalls_of_awp hT mixed Try.func17 rfl (by kernel_rfl) (by kernel_rfl) (Nat.le_of_ble_eq_true rfl) ?_
      refine callH (H := twoH g.length tags g L) h1 [2, 3] rfl ⟨.inl (by rw [renO_rt]; rfl), .inl rfl, True.intro⟩ rfl rfl (H' := twoH g.length tags g L) (by simp only [refH, renH, renO_rt]; rfl) ?_
      refine ⟨[0, 0, 0, 0, 1, 0, 0, 0, 0, 2, 2, 2, 2, 2, 2, 3, 2, 3, 3, 3, 3, 4, 4, 4, 4, 4, 4, 5, 4, 4, 4, 4, 5, 5, 5, 5, 6, 5, 5, 5, 5, 6, 6], [[], [], [], [], [0, 1, 2, 3], [], [], [], [], [0, 1, 2, 3, 4, 5, 6, 7, 8], [0, 1, 2, 3, 4, 5, 6, 7, 8, 9], [0, 1, 2, 3, 4, 5, 6, 7, 8, 9, 10], [0, 1, 2, 3, 4, 5, 6, 7, 8, 9, 10, 11], [0, 1, 2, 3, 4, 5, 6, 7, 8, 9, 10, 11], [0, 1, 2, 3, 4, 5, 6, 7, 8, 9, 10, 11], [0, 1, 2, 3, 4, 5, 6, 7, 8, 9, 10, 11, 12, 13, 14], [0, 1, 2, 3, 4, 5, 6, 7, 8, 9, 10, 11], [0, 1, 2, 3, 4, 5, 6, 7, 8, 9, 10, 11, 12, 13, 14, 15, 16], [0, 1, 2, 3, 4, 5, 6, 7, 8, 9, 10, 11, 12, 13, 14, 15, 16, 17], [0, 1, 2, 3, 4, 5, 6, 7, 8, 9, 10, 11, 12, 13, 14, 15, 16, 17], [0, 1, 2, 3, 4, 5, 6, 7, 8, 9, 10, 11, 12, 13, 14, 15, 16, 17], [0, 1, 2, 3, 4, 5, 6, 7, 8, 9, 10, 11, 12, 13, 14, 15, 16, 17, 18, 19, 20], [0, 1, 2, 3, 4, 5, 6, 7, 8, 9, 10, 11, 12, 13, 14, 15, 16, 17, 18, 19, 20, 21], [0, 1, 2, 3, 4, 5, 6, 7, 8, 9, 10, 11, 12, 13, 14, 15, 16, 17, 18, 19, 20, 21, 22], [0, 1, 2, 3, 4, 5, 6, 7, 8, 9, 10, 11, 12, 13, 14, 15, 16, 17, 18, 19, 20, 21, 22, 23], [0, 1, 2, 3, 4, 5, 6, 7, 8, 9, 10, 11, 12, 13, 14, 15, 16, 17, 18, 19, 20, 21, 22, 23, 24], [0, 1, 2, 3, 4, 5, 6, 7, 8, 9, 10, 11, 12, 13, 14, 15, 16, 17, 18, 19, 20, 21, 22, 23, 24, 25], [0, 1, 2, 3, 4, 5, 6, 7, 8, 9, 10, 11, 12, 13, 14, 15, 16, 17, 18, 19, 20, 21, 22, 23, 24, 25, 26], [0, 1, 2, 3, 4, 5, 6, 7, 8, 9, 10, 11, 12, 13, 14, 15, 16, 17, 18, 19, 20, 21, 22, 23, 24, 25], [0, 1, 2, 3, 4, 5, 6, 7, 8, 9, 10, 11, 12, 13, 14, 15, 16, 17, 18, 19, 20, 21, 22, 23, 24, 25, 28], [0, 1, 2, 3, 4, 5, 6, 7, 8, 9, 10, 11, 12, 13, 14, 15, 16, 17, 18, 19, 20, 21, 22, 23, 24, 25, 28, 29], [0, 1, 2, 3, 4, 5, 6, 7, 8, 9, 10, 11, 12, 13, 14, 15, 16, 17, 18, 19, 20, 21, 22, 23, 24, 25, 28, 29, 30], [0, 1, 2, 3, 4, 5, 6, 7, 8, 9, 10, 11, 12, 13, 14, 15, 16, 17, 18, 19, 20, 21, 22, 23, 24, 25, 26, 27, 28, 29, 30, 31], [0, 1, 2, 3, 4, 5, 6, 7, 8, 9, 10, 11, 12, 13, 14, 15, 16, 17, 18, 19, 20, 21, 22, 23, 24, 25, 26, 27, 28, 29, 30, 31, 32], [0, 1, 2, 3, 4, 5, 6, 7, 8, 9, 10, 11, 12, 13, 14, 15, 16, 17, 18, 19, 20, 21, 22, 23, 24, 25, 26, 27, 28, 29, 30, 31, 32, 33], [0, 1, 2, 3, 4, 5, 6, 7, 8, 9, 10, 11, 12, 13, 14, 15, 16, 17, 18, 19, 20, 21, 22, 23, 24, 25, 26, 27, 28, 29, 30, 31, 32, 33, 34], [0, 1, 2, 3, 4, 5, 6, 7, 8, 9, 10, 11, 12, 13, 14, 15, 16, 17, 18, 19, 20, 21, 22, 23, 24, 25, 26, 27, 28, 29, 30, 31, 32, 33, 34, 35], [0, 1, 2, 3, 4, 5, 6, 7, 8, 9, 10, 11, 12, 13, 14, 15, 16, 17, 18, 19, 20, 21, 22, 23, 24, 25, 26, 27, 28, 29, 30, 31, 32, 33, 34], [0, 1, 2, 3, 4, 5, 6, 7, 8, 9, 10, 11, 12, 13, 14, 15, 16, 17, 18, 19, 20, 21, 22, 23, 24, 25, 26, 27, 28, 29, 30, 31, 32, 33, 34, 37], [0, 1, 2, 3, 4, 5, 6, 7, 8, 9, 10, 11, 12, 13, 14, 15, 16, 17, 18, 19, 20, 21, 22, 23, 24, 25, 26, 27, 28, 29, 30, 31, 32, 33, 34, 37, 38], [0, 1, 2, 3, 4, 5, 6, 7, 8, 9, 10, 11, 12, 13, 14, 15, 16, 17, 18, 19, 20, 21, 22, 23, 24, 25, 26, 27, 28, 29, 30, 31, 32, 33, 34, 37, 38, 39], [0, 1, 2, 3, 4, 5, 6, 7, 8, 9, 10, 11, 12, 13, 14, 15, 16, 17, 18, 19, 20, 21, 22, 23, 24, 25, 26, 27, 28, 29, 30, 31, 32, 33, 34, 35, 36, 37, 38, 39, 40], [0, 1, 2, 3, 4, 5, 6, 7, 8, 9, 10, 11, 12, 13, 14, 15, 16, 17, 18, 19, 20, 21, 22, 23, 24, 25, 26, 27, 28, 29, 30, 31, 32, 33, 34, 35, 36, 37, 38, 39, 40, 41]], [0, 0, 0, 0, 0, 0, 0, 0, 0, 0, 0, 0, 0, 0, 0, 0, 0, 0, 0, 0, 0, 0, 0, 0, 0, 0, 0, 0, 0, 0, 0, 0, 0, 0, 0, 0, 0, 0, 0, 0, 0, 0, 0], [4, 9, 15, 21, 27, 36], [[0], [2], [4], [5], [17, 18, 19, 20], [1], [2], [4], [5], [22, 23, 24, 25], [21, 26], [27], [0, 28], [2, 28], [3, 28], [29, 30, 31, 28], [13, 28], [33, 28], [1, 34], [2, 34], [3, 34], [35, 36, 37, 34], [34, 38, 28], [32, 39, 28], [28, 40], [41], [0, 42], [43, 42], [1, 42], [45, 42], [46, 42], [47, 42], [44, 48, 42], [42, 49], [50], [0, 51], [52, 51], [1, 51], [54, 51], [55, 51], [56, 51], [53, 57, 51], [51, 58]], Ob.intro (by kernel_rfl) ?_⟩
      repeat refine same ?_
      refine callH (H := twoH g.length tags g L) c1 [0, 1] rfl ⟨.inl (by rw [renO_rg]; rfl), .inl rfl, True.intro⟩ rfl rfl (H' := twoH g.length tags g L) (by simp only [tabH, renH, renO_rg]; rfl) ?_
      repeat refine same ?_
      refine callH (H := twoH g.length tags g L) c2 [2, 3] rfl ⟨.inl (by rw [renO_rt]; rfl), .inl rfl, True.intro⟩ rfl rfl (H' := twoH g.length tags g L) (by simp only [refH, renH, renO_rt]; rfl) ?_
      repeat refine same ?_
      refine callH (H := twoH g.length tags g L) md [0, 1] rfl ⟨.inl (by rw [renO_rg]; rfl), .inl rfl, True.intro⟩ rfl rfl (H' := twoH g.length tags g L) (by simp only [tabH, renH, renO_rg]; rfl) ?_
      repeat refine same ?_
      refine callH (H := twoH g.length tags g L) hr [2, 3] rfl ⟨.inl (by rw [renO_rt]; rfl), .inl rfl, True.intro⟩ rfl rfl (H' := twoH g.length tags g L) (by simp only [refH, renH, renO_rt]; rfl) ?_
      repeat refine same ?_
      refine callH (H := twoH g.length tags g L) tg [0, 1] rfl ⟨.inl (by rw [renO_rg]; rfl), .inl rfl, True.intro⟩ rfl rfl (H' := twoH g.length tags g L) (by simp only [tabH, renH, renO_rg]; rfl) ?_
      repeat refine same ?_
      refine fork (fun h => absurd rfl (bne_iff_ne.1 h)) (fun h => ?_)
      repeat refine same ?_
      refine callH (H := twoH g.length tags g L) pe [0, 1] rfl ⟨.inl (by rw [renO_rg]; rfl), .inl rfl, True.intro⟩ rfl rfl (H' := twoH g.length tags g L) (by simp only [tabH, renH, renO_rg]; rfl) ?_
      repeat refine same ?_
      refine fork (fun h => absurd rfl (bne_iff_ne.1 h)) (fun h => ?_)
      repeat refine same ?_
      refine callH (H := twoH g.length tags g L) pl [0, 1] rfl ⟨.inl (by rw [renO_rg]; rfl), .inl rfl, True.intro⟩ rfl rfl (H' := twoH g.length tags g L) (by simp only [tabH, renH, renO_rg]; rfl) ?_
      refine callH (H := twoH g.length tags g L) sp [2, 3] rfl ⟨.inl (by rw [renO_rt]; rfl), .inl rfl, True.intro⟩ rfl rfl (H' := twoH g.length tags g L) (by simp only [refH, renH, renO_rt]; rfl) ?_
      refine callP s1 rfl rfl ?_
      refine callH (H := twoH g.length tags g L) mi [0, 1] rfl ⟨.inl (by rw [renO_rg]; rfl), .inl rfl, True.intro⟩ rfl rfl (H' := twoH g.length tags g L) (by simp only [tabH, renH, renO_rg]; rfl) ?_
      refine callH (H := twoH g.length tags g L) sm [2, 3] rfl ⟨.inl (by rw [renO_rt]; rfl), .inl rfl, True.intro⟩ rfl rfl (H' := twoH g.length tags g L) (by simp only [refH, renH, renO_rt]; rfl) ?_
      refine callP s2 rfl rfl ?_
      refine endH rfl rfl rfl ⟨.inl rfl, .inl rfl, .inl rfl, .inl rfl, True.intro⟩ (Nat.le_refl 4) (belowH_two g.length tags g L) rfl
  · cases d
    · have h1 : ACalls Try.prog 32 [.ptr 1 0, i64 who] (refH g.length tags L) (RetH (bo (oneT g who)) (refH g.length tags L)) := oneR_ok g.length tags L who
      have c1 := clear_ok tags g who a l hg (by omega) (by omega) hxl
      have c2 := clearR_ok g.length tags L who a l hL (by omega) (by omega) hxl
      rw [show decide (0 ≤ who ∧ who < (g.length : Int)) = oneT g who from rfl, rel_clear hR, hc] at c2
      rw [hc] at c1
      have md := mayDrop_ok tags g who x hg hx
      have hsame := hR.same who x true ho
      unfold hasR at hsame
      rw [hsame, ho, Bool.true_and, hd] at md
      have hr := hasRt_ok g.length tags L who x true (by omega)
      rw [hd] at hr
      rw [ho] at h1
      have tg := tags_ok tags g
      have pe := people_ok tags g
      have pl := plus_ok tags g who hg ho
      have mi := minus_ok tags g who hg ho
      have sp := setL_ok g.length tags L who false hL (by have := hR.tag; omega)
      have sm := setL_ok g.length tags L who true hL (by have := hR.tag; omega)
      rw [set_list hR ho] at sp sm
      have lb : ∀ s, (listS s).length < 9223372036854775807 := fun s => by
        have : (listS s).length ≤ 16 := upto_len (fun x => hasS s x) 16
        omega
      have s1 := sameSelf_ok _ (lb (maskOf g who false))
      have s2 := sameSelf_ok _ (lb (maskOf g who true))
      refine acalls_of_awp hT mixed Try.func17 rfl (by kernel_rfl) (by kernel_rfl) (Nat.le_of_ble_eq_true rfl) ?_
      refine callH (H := twoH g.length tags g L) h1 [2, 3] rfl ⟨.inl (by rw [renO_rt]; rfl), .inl rfl, True.intro⟩ rfl rfl (H' := twoH g.length tags g L) (by simp only [refH, renH, renO_rt]; rfl) ?_
      refine ⟨[0, 0, 0, 0, 1, 0, 0, 0, 0, 2, 2, 2, 2, 2, 2, 3, 2, 3, 3, 3, 3, 4, 4, 4, 4, 4, 4, 5, 4, 4, 4, 4, 5, 5, 5, 5, 6, 5, 5, 5, 5, 6, 6], [[], [], [], [], [0, 1, 2, 3], [], [], [], [], [0, 1, 2, 3, 4, 5, 6, 7, 8], [0, 1, 2, 3, 4, 5, 6, 7, 8, 9], [0, 1, 2, 3, 4, 5, 6, 7, 8, 9, 10], [0, 1, 2, 3, 4, 5, 6, 7, 8, 9, 10, 11], [0, 1, 2, 3, 4, 5, 6, 7, 8, 9, 10, 11], [0, 1, 2, 3, 4, 5, 6, 7, 8, 9, 10, 11], [0, 1, 2, 3, 4, 5, 6, 7, 8, 9, 10, 11, 12, 13, 14], [0, 1, 2, 3, 4, 5, 6, 7, 8, 9, 10, 11], [0, 1, 2, 3, 4, 5, 6, 7, 8, 9, 10, 11, 12, 13, 14, 15, 16], [0, 1, 2, 3, 4, 5, 6, 7, 8, 9, 10, 11, 12, 13, 14, 15, 16, 17], [0, 1, 2, 3, 4, 5, 6, 7, 8, 9, 10, 11, 12, 13, 14, 15, 16, 17], [0, 1, 2, 3, 4, 5, 6, 7, 8, 9, 10, 11, 12, 13, 14, 15, 16, 17], [0, 1, 2, 3, 4, 5, 6, 7, 8, 9, 10, 11, 12, 13, 14, 15, 16, 17, 18, 19, 20], [0, 1, 2, 3, 4, 5, 6, 7, 8, 9, 10, 11, 12, 13, 14, 15, 16, 17, 18, 19, 20, 21], [0, 1, 2, 3, 4, 5, 6, 7, 8, 9, 10, 11, 12, 13, 14, 15, 16, 17, 18, 19, 20, 21, 22], [0, 1, 2, 3, 4, 5, 6, 7, 8, 9, 10, 11, 12, 13, 14, 15, 16, 17, 18, 19, 20, 21, 22, 23], [0, 1, 2, 3, 4, 5, 6, 7, 8, 9, 10, 11, 12, 13, 14, 15, 16, 17, 18, 19, 20, 21, 22, 23, 24], [0, 1, 2, 3, 4, 5, 6, 7, 8, 9, 10, 11, 12, 13, 14, 15, 16, 17, 18, 19, 20, 21, 22, 23, 24, 25], [0, 1, 2, 3, 4, 5, 6, 7, 8, 9, 10, 11, 12, 13, 14, 15, 16, 17, 18, 19, 20, 21, 22, 23, 24, 25, 26], [0, 1, 2, 3, 4, 5, 6, 7, 8, 9, 10, 11, 12, 13, 14, 15, 16, 17, 18, 19, 20, 21, 22, 23, 24, 25], [0, 1, 2, 3, 4, 5, 6, 7, 8, 9, 10, 11, 12, 13, 14, 15, 16, 17, 18, 19, 20, 21, 22, 23, 24, 25, 28], [0, 1, 2, 3, 4, 5, 6, 7, 8, 9, 10, 11, 12, 13, 14, 15, 16, 17, 18, 19, 20, 21, 22, 23, 24, 25, 28, 29], [0, 1, 2, 3, 4, 5, 6, 7, 8, 9, 10, 11, 12, 13, 14, 15, 16, 17, 18, 19, 20, 21, 22, 23, 24, 25, 28, 29, 30], [0, 1, 2, 3, 4, 5, 6, 7, 8, 9, 10, 11, 12, 13, 14, 15, 16, 17, 18, 19, 20, 21, 22, 23, 24, 25, 26, 27, 28, 29, 30, 31], [0, 1, 2, 3, 4, 5, 6, 7, 8, 9, 10, 11, 12, 13, 14, 15, 16, 17, 18, 19, 20, 21, 22, 23, 24, 25, 26, 27, 28, 29, 30, 31, 32], [0, 1, 2, 3, 4, 5, 6, 7, 8, 9, 10, 11, 12, 13, 14, 15, 16, 17, 18, 19, 20, 21, 22, 23, 24, 25, 26, 27, 28, 29, 30, 31, 32, 33], [0, 1, 2, 3, 4, 5, 6, 7, 8, 9, 10, 11, 12, 13, 14, 15, 16, 17, 18, 19, 20, 21, 22, 23, 24, 25, 26, 27, 28, 29, 30, 31, 32, 33, 34], [0, 1, 2, 3, 4, 5, 6, 7, 8, 9, 10, 11, 12, 13, 14, 15, 16, 17, 18, 19, 20, 21, 22, 23, 24, 25, 26, 27, 28, 29, 30, 31, 32, 33, 34, 35], [0, 1, 2, 3, 4, 5, 6, 7, 8, 9, 10, 11, 12, 13, 14, 15, 16, 17, 18, 19, 20, 21, 22, 23, 24, 25, 26, 27, 28, 29, 30, 31, 32, 33, 34], [0, 1, 2, 3, 4, 5, 6, 7, 8, 9, 10, 11, 12, 13, 14, 15, 16, 17, 18, 19, 20, 21, 22, 23, 24, 25, 26, 27, 28, 29, 30, 31, 32, 33, 34, 37], [0, 1, 2, 3, 4, 5, 6, 7, 8, 9, 10, 11, 12, 13, 14, 15, 16, 17, 18, 19, 20, 21, 22, 23, 24, 25, 26, 27, 28, 29, 30, 31, 32, 33, 34, 37, 38], [0, 1, 2, 3, 4, 5, 6, 7, 8, 9, 10, 11, 12, 13, 14, 15, 16, 17, 18, 19, 20, 21, 22, 23, 24, 25, 26, 27, 28, 29, 30, 31, 32, 33, 34, 37, 38, 39], [0, 1, 2, 3, 4, 5, 6, 7, 8, 9, 10, 11, 12, 13, 14, 15, 16, 17, 18, 19, 20, 21, 22, 23, 24, 25, 26, 27, 28, 29, 30, 31, 32, 33, 34, 35, 36, 37, 38, 39, 40], [0, 1, 2, 3, 4, 5, 6, 7, 8, 9, 10, 11, 12, 13, 14, 15, 16, 17, 18, 19, 20, 21, 22, 23, 24, 25, 26, 27, 28, 29, 30, 31, 32, 33, 34, 35, 36, 37, 38, 39, 40, 41]], [0, 0, 0, 0, 0, 0, 0, 0, 0, 0, 0, 0, 0, 0, 0, 0, 0, 0, 0, 0, 0, 0, 0, 0, 0, 0, 0, 0, 0, 0, 0, 0, 0, 0, 0, 0, 0, 0, 0, 0, 0, 0, 0], [4, 9, 15, 21, 27, 36], [[0], [2], [4], [5], [17, 18, 19, 20], [1], [2], [4], [5], [22, 23, 24, 25], [21, 26], [27], [0, 28], [2, 28], [3, 28], [29, 30, 31, 28], [13, 28], [33, 28], [1, 34], [2, 34], [3, 34], [35, 36, 37, 34], [34, 38, 28], [32, 39, 28], [28, 40], [41], [0, 42], [43, 42], [1, 42], [45, 42], [46, 42], [47, 42], [44, 48, 42], [42, 49], [50], [0, 51], [52, 51], [1, 51], [54, 51], [55, 51], [56, 51], [53, 57, 51], [51, 58]], Ob.intro (by kernel_rfl) ?_⟩
      repeat refine same ?_
      refine callH (H := twoH g.length tags g L) c1 [0, 1] rfl ⟨.inl (by rw [renO_rg]; rfl), .inl rfl, True.intro⟩ rfl rfl (H' := twoH g.length tags g L) (by simp only [tabH, renH, renO_rg]; rfl) ?_
      repeat refine same ?_
      refine callH (H := twoH g.length tags g L) c2 [2, 3] rfl ⟨.inl (by rw [renO_rt]; rfl), .inl rfl, True.intro⟩ rfl rfl (H' := twoH g.length tags g L) (by simp only [refH, renH, renO_rt]; rfl) ?_
      repeat refine same ?_
      refine callH (H := twoH g.length tags g L) md [0, 1] rfl ⟨.inl (by rw [renO_rg]; rfl), .inl rfl, True.intro⟩ rfl rfl (H' := twoH g.length tags g L) (by simp only [tabH, renH, renO_rg]; rfl) ?_
      repeat refine same ?_
      refine callH (H := twoH g.length tags g L) hr [2, 3] rfl ⟨.inl (by rw [renO_rt]; rfl), .inl rfl, True.intro⟩ rfl rfl (H' := twoH g.length tags g L) (by simp only [refH, renH, renO_rt]; rfl) ?_
      repeat refine same ?_
      refine callH (H := twoH g.length tags g L) tg [0, 1] rfl ⟨.inl (by rw [renO_rg]; rfl), .inl rfl, True.intro⟩ rfl rfl (H' := twoH g.length tags g L) (by simp only [tabH, renH, renO_rg]; rfl) ?_
      repeat refine same ?_
      refine fork (fun h => absurd rfl (bne_iff_ne.1 h)) (fun h => ?_)
      repeat refine same ?_
      refine callH (H := twoH g.length tags g L) pe [0, 1] rfl ⟨.inl (by rw [renO_rg]; rfl), .inl rfl, True.intro⟩ rfl rfl (H' := twoH g.length tags g L) (by simp only [tabH, renH, renO_rg]; rfl) ?_
      repeat refine same ?_
      refine fork (fun h => absurd rfl (bne_iff_ne.1 h)) (fun h => ?_)
      repeat refine same ?_
      refine callH (H := twoH g.length tags g L) pl [0, 1] rfl ⟨.inl (by rw [renO_rg]; rfl), .inl rfl, True.intro⟩ rfl rfl (H' := twoH g.length tags g L) (by simp only [tabH, renH, renO_rg]; rfl) ?_
      refine callH (H := twoH g.length tags g L) sp [2, 3] rfl ⟨.inl (by rw [renO_rt]; rfl), .inl rfl, True.intro⟩ rfl rfl (H' := twoH g.length tags g L) (by simp only [refH, renH, renO_rt]; rfl) ?_
      refine callP s1 rfl rfl ?_
      refine callH (H := twoH g.length tags g L) mi [0, 1] rfl ⟨.inl (by rw [renO_rg]; rfl), .inl rfl, True.intro⟩ rfl rfl (H' := twoH g.length tags g L) (by simp only [tabH, renH, renO_rg]; rfl) ?_
      refine callH (H := twoH g.length tags g L) sm [2, 3] rfl ⟨.inl (by rw [renO_rt]; rfl), .inl rfl, True.intro⟩ rfl rfl (H' := twoH g.length tags g L) (by simp only [refH, renH, renO_rt]; rfl) ?_
      refine callP s2 rfl rfl ?_
      refine endH rfl rfl rfl ⟨.inl rfl, .inl rfl, .inl rfl, .inl rfl, True.intro⟩ (Nat.le_refl 4) (belowH_two g.length tags g L) rfl
    · have h1 : ACalls Try.prog 32 [.ptr 1 0, i64 who] (refH g.length tags L) (RetH (bo (oneT g who)) (refH g.length tags L)) := oneR_ok g.length tags L who
      have c1 := clear_ok tags g who a l hg (by omega) (by omega) hxl
      have c2 := clearR_ok g.length tags L who a l hL (by omega) (by omega) hxl
      rw [show decide (0 ≤ who ∧ who < (g.length : Int)) = oneT g who from rfl, rel_clear hR, hc] at c2
      rw [hc] at c1
      have md := mayDrop_ok tags g who x hg hx
      have hsame := hR.same who x true ho
      unfold hasR at hsame
      rw [hsame, ho, Bool.true_and, hd] at md
      have hr := hasRt_ok g.length tags L who x true (by omega)
      rw [hd] at hr
      rw [ho] at h1
      have tg := tags_ok tags g
      have pe := people_ok tags g
      have pl := plus_ok tags g who hg ho
      have mi := minus_ok tags g who hg ho
      have sp := setL_ok g.length tags L who false hL (by have := hR.tag; omega)
      have sm := setL_ok g.length tags L who true hL (by have := hR.tag; omega)
      rw [set_list hR ho] at sp sm
      have lb : ∀ s, (listS s).length < 9223372036854775807 := fun s => by
        have : (listS s).length ≤ 16 := upto_len (fun x => hasS s x) 16
        omega
      have s1 := sameSelf_ok _ (lb (maskOf g who false))
      have s2 := sameSelf_ok _ (lb (maskOf g who true))
      refine acalls_of_awp hT mixed Try.func17 rfl (by kernel_rfl) (by kernel_rfl) (Nat.le_of_ble_eq_true rfl) ?_
      refine callH (H := twoH g.length tags g L) h1 [2, 3] rfl ⟨.inl (by rw [renO_rt]; rfl), .inl rfl, True.intro⟩ rfl rfl (H' := twoH g.length tags g L) (by simp only [refH, renH, renO_rt]; rfl) ?_
      refine ⟨[0, 0, 0, 0, 1, 0, 0, 0, 0, 2, 2, 2, 2, 2, 2, 3, 2, 3, 3, 3, 3, 4, 4, 4, 4, 4, 4, 5, 4, 4, 4, 4, 5, 5, 5, 5, 6, 5, 5, 5, 5, 6, 6], [[], [], [], [], [0, 1, 2, 3], [], [], [], [], [0, 1, 2, 3, 4, 5, 6, 7, 8], [0, 1, 2, 3, 4, 5, 6, 7, 8, 9], [0, 1, 2, 3, 4, 5, 6, 7, 8, 9, 10], [0, 1, 2, 3, 4, 5, 6, 7, 8, 9, 10, 11], [0, 1, 2, 3, 4, 5, 6, 7, 8, 9, 10, 11], [0, 1, 2, 3, 4, 5, 6, 7, 8, 9, 10, 11], [0, 1, 2, 3, 4, 5, 6, 7, 8, 9, 10, 11, 12, 13, 14], [0, 1, 2, 3, 4, 5, 6, 7, 8, 9, 10, 11], [0, 1, 2, 3, 4, 5, 6, 7, 8, 9, 10, 11, 12, 13, 14, 15, 16], [0, 1, 2, 3, 4, 5, 6, 7, 8, 9, 10, 11, 12, 13, 14, 15, 16, 17], [0, 1, 2, 3, 4, 5, 6, 7, 8, 9, 10, 11, 12, 13, 14, 15, 16, 17], [0, 1, 2, 3, 4, 5, 6, 7, 8, 9, 10, 11, 12, 13, 14, 15, 16, 17], [0, 1, 2, 3, 4, 5, 6, 7, 8, 9, 10, 11, 12, 13, 14, 15, 16, 17, 18, 19, 20], [0, 1, 2, 3, 4, 5, 6, 7, 8, 9, 10, 11, 12, 13, 14, 15, 16, 17, 18, 19, 20, 21], [0, 1, 2, 3, 4, 5, 6, 7, 8, 9, 10, 11, 12, 13, 14, 15, 16, 17, 18, 19, 20, 21, 22], [0, 1, 2, 3, 4, 5, 6, 7, 8, 9, 10, 11, 12, 13, 14, 15, 16, 17, 18, 19, 20, 21, 22, 23], [0, 1, 2, 3, 4, 5, 6, 7, 8, 9, 10, 11, 12, 13, 14, 15, 16, 17, 18, 19, 20, 21, 22, 23, 24], [0, 1, 2, 3, 4, 5, 6, 7, 8, 9, 10, 11, 12, 13, 14, 15, 16, 17, 18, 19, 20, 21, 22, 23, 24, 25], [0, 1, 2, 3, 4, 5, 6, 7, 8, 9, 10, 11, 12, 13, 14, 15, 16, 17, 18, 19, 20, 21, 22, 23, 24, 25, 26], [0, 1, 2, 3, 4, 5, 6, 7, 8, 9, 10, 11, 12, 13, 14, 15, 16, 17, 18, 19, 20, 21, 22, 23, 24, 25], [0, 1, 2, 3, 4, 5, 6, 7, 8, 9, 10, 11, 12, 13, 14, 15, 16, 17, 18, 19, 20, 21, 22, 23, 24, 25, 28], [0, 1, 2, 3, 4, 5, 6, 7, 8, 9, 10, 11, 12, 13, 14, 15, 16, 17, 18, 19, 20, 21, 22, 23, 24, 25, 28, 29], [0, 1, 2, 3, 4, 5, 6, 7, 8, 9, 10, 11, 12, 13, 14, 15, 16, 17, 18, 19, 20, 21, 22, 23, 24, 25, 28, 29, 30], [0, 1, 2, 3, 4, 5, 6, 7, 8, 9, 10, 11, 12, 13, 14, 15, 16, 17, 18, 19, 20, 21, 22, 23, 24, 25, 26, 27, 28, 29, 30, 31], [0, 1, 2, 3, 4, 5, 6, 7, 8, 9, 10, 11, 12, 13, 14, 15, 16, 17, 18, 19, 20, 21, 22, 23, 24, 25, 26, 27, 28, 29, 30, 31, 32], [0, 1, 2, 3, 4, 5, 6, 7, 8, 9, 10, 11, 12, 13, 14, 15, 16, 17, 18, 19, 20, 21, 22, 23, 24, 25, 26, 27, 28, 29, 30, 31, 32, 33], [0, 1, 2, 3, 4, 5, 6, 7, 8, 9, 10, 11, 12, 13, 14, 15, 16, 17, 18, 19, 20, 21, 22, 23, 24, 25, 26, 27, 28, 29, 30, 31, 32, 33, 34], [0, 1, 2, 3, 4, 5, 6, 7, 8, 9, 10, 11, 12, 13, 14, 15, 16, 17, 18, 19, 20, 21, 22, 23, 24, 25, 26, 27, 28, 29, 30, 31, 32, 33, 34, 35], [0, 1, 2, 3, 4, 5, 6, 7, 8, 9, 10, 11, 12, 13, 14, 15, 16, 17, 18, 19, 20, 21, 22, 23, 24, 25, 26, 27, 28, 29, 30, 31, 32, 33, 34], [0, 1, 2, 3, 4, 5, 6, 7, 8, 9, 10, 11, 12, 13, 14, 15, 16, 17, 18, 19, 20, 21, 22, 23, 24, 25, 26, 27, 28, 29, 30, 31, 32, 33, 34, 37], [0, 1, 2, 3, 4, 5, 6, 7, 8, 9, 10, 11, 12, 13, 14, 15, 16, 17, 18, 19, 20, 21, 22, 23, 24, 25, 26, 27, 28, 29, 30, 31, 32, 33, 34, 37, 38], [0, 1, 2, 3, 4, 5, 6, 7, 8, 9, 10, 11, 12, 13, 14, 15, 16, 17, 18, 19, 20, 21, 22, 23, 24, 25, 26, 27, 28, 29, 30, 31, 32, 33, 34, 37, 38, 39], [0, 1, 2, 3, 4, 5, 6, 7, 8, 9, 10, 11, 12, 13, 14, 15, 16, 17, 18, 19, 20, 21, 22, 23, 24, 25, 26, 27, 28, 29, 30, 31, 32, 33, 34, 35, 36, 37, 38, 39, 40], [0, 1, 2, 3, 4, 5, 6, 7, 8, 9, 10, 11, 12, 13, 14, 15, 16, 17, 18, 19, 20, 21, 22, 23, 24, 25, 26, 27, 28, 29, 30, 31, 32, 33, 34, 35, 36, 37, 38, 39, 40, 41]], [0, 0, 0, 0, 0, 0, 0, 0, 0, 0, 0, 0, 0, 0, 0, 0, 0, 0, 0, 0, 0, 0, 0, 0, 0, 0, 0, 0, 0, 0, 0, 0, 0, 0, 0, 0, 0, 0, 0, 0, 0, 0, 0], [4, 9, 15, 21, 27, 36], [[0], [2], [4], [5], [17, 18, 19, 20], [1], [2], [4], [5], [22, 23, 24, 25], [21, 26], [27], [0, 28], [2, 28], [3, 28], [29, 30, 31, 28], [13, 28], [33, 28], [1, 34], [2, 34], [3, 34], [35, 36, 37, 34], [34, 38, 28], [32, 39, 28], [28, 40], [41], [0, 42], [43, 42], [1, 42], [45, 42], [46, 42], [47, 42], [44, 48, 42], [42, 49], [50], [0, 51], [52, 51], [1, 51], [54, 51], [55, 51], [56, 51], [53, 57, 51], [51, 58]], Ob.intro (by kernel_rfl) ?_⟩
      repeat refine same ?_
      refine callH (H := twoH g.length tags g L) c1 [0, 1] rfl ⟨.inl (by rw [renO_rg]; rfl), .inl rfl, True.intro⟩ rfl rfl (H' := twoH g.length tags g L) (by simp only [tabH, renH, renO_rg]; rfl) ?_
      repeat refine same ?_
      refine callH (H := twoH g.length tags g L) c2 [2, 3] rfl ⟨.inl (by rw [renO_rt]; rfl), .inl rfl, True.intro⟩ rfl rfl (H' := twoH g.length tags g L) (by simp only [refH, renH, renO_rt]; rfl) ?_
      repeat refine same ?_
      refine callH (H := twoH g.length tags g L) md [0, 1] rfl ⟨.inl (by rw [renO_rg]; rfl), .inl rfl, True.intro⟩ rfl rfl (H' := twoH g.length tags g L) (by simp only [tabH, renH, renO_rg]; rfl) ?_
      repeat refine same ?_
      refine callH (H := twoH g.length tags g L) hr [2, 3] rfl ⟨.inl (by rw [renO_rt]; rfl), .inl rfl, True.intro⟩ rfl rfl (H' := twoH g.length tags g L) (by simp only [refH, renH, renO_rt]; rfl) ?_
      repeat refine same ?_
      refine callH (H := twoH g.length tags g L) tg [0, 1] rfl ⟨.inl (by rw [renO_rg]; rfl), .inl rfl, True.intro⟩ rfl rfl (H' := twoH g.length tags g L) (by simp only [tabH, renH, renO_rg]; rfl) ?_
      repeat refine same ?_
      refine fork (fun h => absurd rfl (bne_iff_ne.1 h)) (fun h => ?_)
      repeat refine same ?_
      refine callH (H := twoH g.length tags g L) pe [0, 1] rfl ⟨.inl (by rw [renO_rg]; rfl), .inl rfl, True.intro⟩ rfl rfl (H' := twoH g.length tags g L) (by simp only [tabH, renH, renO_rg]; rfl) ?_
      repeat refine same ?_
      refine fork (fun h => absurd rfl (bne_iff_ne.1 h)) (fun h => ?_)
      repeat refine same ?_
      refine callH (H := twoH g.length tags g L) pl [0, 1] rfl ⟨.inl (by rw [renO_rg]; rfl), .inl rfl, True.intro⟩ rfl rfl (H' := twoH g.length tags g L) (by simp only [tabH, renH, renO_rg]; rfl) ?_
      refine callH (H := twoH g.length tags g L) sp [2, 3] rfl ⟨.inl (by rw [renO_rt]; rfl), .inl rfl, True.intro⟩ rfl rfl (H' := twoH g.length tags g L) (by simp only [refH, renH, renO_rt]; rfl) ?_
      refine callP s1 rfl rfl ?_
      refine callH (H := twoH g.length tags g L) mi [0, 1] rfl ⟨.inl (by rw [renO_rg]; rfl), .inl rfl, True.intro⟩ rfl rfl (H' := twoH g.length tags g L) (by simp only [tabH, renH, renO_rg]; rfl) ?_
      refine callH (H := twoH g.length tags g L) sm [2, 3] rfl ⟨.inl (by rw [renO_rt]; rfl), .inl rfl, True.intro⟩ rfl rfl (H' := twoH g.length tags g L) (by simp only [refH, renH, renO_rt]; rfl) ?_
      refine callP s2 rfl rfl ?_
      refine endH rfl rfl rfl ⟨.inl rfl, .inl rfl, .inl rfl, .inl rfl, True.intro⟩ (Nat.le_refl 4) (belowH_two g.length tags g L) rfl
theorem alike_ok (tags : Nat) (g : Rg) (L : List Rt) (who : Int) (x : Nat) (a l : List Nat) (hg : RgOk g) (hR : Rel tags g L) (hL : L.length < 1000000) (ha : a.length < 1000000) (hl : l.length < 1000000) (hx : x < 18446744073709551616) (hxl : ∀ x ∈ l, x < 18446744073709551616) :
    ACalls Try.prog 17 [.ptr 1 0, .ptr 3 0, i64 who, u64 x, us a, us l] (twoH g.length tags g L) (RetH (bo true) (twoH g.length tags g L)) := by
  cases ho : oneT g who with
  | false => exact alikeNo_ok tags g L who x a l hg hR hL ha hl hx hxl ho
  | true => exact alikeYes_ok tags g L who x a l hg hR hL ha hl hx hxl ho _ _ rfl rfl
end Go.Proofs.Ytofinmlloefocaa.A
