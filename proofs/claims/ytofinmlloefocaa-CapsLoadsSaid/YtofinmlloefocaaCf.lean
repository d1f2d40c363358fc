/- The functions of caps: a deed is done. No condition. -/
import Derived.Test.YtofinmlloefocaaCe
namespace Go.Proofs.Ytofinmlloefocaa.A
open Go
set_option linter.unusedVariables false
set_option maxRecDepth 100000
set_option pp.maxSteps 1500

/-- Somebody gets a right. -/
def setR (g : Rg) (who : Int) (m : Bool) (x : Nat) : Rg :=
  match g[who.toNat]? with
  | some r => g.set who.toNat (if m = true then (r.1, r.2 ||| bitS x) else (r.1 ||| bitS x, r.2))
  | none => g
theorem setR_len (g : Rg) (who : Int) (m : Bool) (x : Nat) : (setR g who m x).length = g.length := by
  unfold setR
  split
  · exact List.length_set
  · rfl
theorem setR_ok {g : Rg} (h : RgOk g) (who : Int) (m : Bool) (x : Nat) : RgOk (setR g who m x) := by
  refine ⟨by rw [setR_len]; exact h.1, ?_⟩
  unfold setR
  split
  · rename_i r hr
    have hr := h.2 r (List.mem_of_getElem? hr)
    intro z hz
    rcases List.mem_or_eq_of_mem_set hz with hz | hz
    · exact h.2 z hz
    · subst hz
      have h1 : r.1 ||| bitS x < 2 ^ 64 := Nat.or_lt_two_pow hr.1 (bitS_lt x)
      have h2 : r.2 ||| bitS x < 2 ^ 64 := Nat.or_lt_two_pow hr.2 (bitS_lt x)
      split
      · exact ⟨hr.1, h2⟩
      · exact ⟨h1, hr.2⟩
  · exact h.2
theorem oneT_set (g : Rg) (who v : Int) (m : Bool) (x : Nat) : oneT (setR g who m x) v = oneT g v := by
  unfold oneT
  rw [setR_len]
theorem rgC_set : ∀ (g : Rg) (k : Nat) (r : Nat × Nat) (a : Nat), g[k]? = some r → (rgC g).set (k * 2) (u64 a) = rgC (g.set k (a, r.2)) ∧ (rgC g).set (k * 2 + 1) (u64 a) = rgC (g.set k (r.1, a))
  | [], k, r, a, h => by simp at h
  | z :: g, 0, r, a, h => by
    simp at h
    subst h
    exact ⟨rfl, rfl⟩
  | z :: g, k + 1, r, a, h => by
    have := rgC_set g k r a (by simpa using h)
    constructor
    · show (u64 z.1 :: u64 z.2 :: rgC g).set ((k + 1) * 2) (u64 a) = u64 z.1 :: u64 z.2 :: rgC (g.set k (a, r.2))
      rw [← this.1, show (k + 1) * 2 = k * 2 + 1 + 1 by omega]
      rfl
    · show (u64 z.1 :: u64 z.2 :: rgC g).set ((k + 1) * 2 + 1) (u64 a) = u64 z.1 :: u64 z.2 :: rgC (g.set k (r.1, a))
      rw [← this.2, show (k + 1) * 2 + 1 = k * 2 + 1 + 1 + 1 by omega]
      rfl
theorem wr_rg {g : Rg} {who : Int} {m : Bool} {x : Nat} {v : Int} {G : Heap} (h : oneT g who = true) (hv : v = ((maskOf g who m ||| bitS x : Nat) : Int)) :
    wr (.row (rgC g) :: G) 0 (0 + who.toNat * 2 + (if m = true then 1 else 0)) [u64 v] = some (.row (rgC (setR g who m x)) :: G) := by
  have h := of_decide_eq_true h
  obtain ⟨r, hr⟩ : ∃ r, g[who.toNat]? = some r := ⟨_, List.getElem?_eq_getElem (by omega)⟩
  have hlen := rgC_len g
  rw [wr_eq (cs := rgC g) rfl (by rw [hlen]; show _ + 1 ≤ _; split <;> omega)]
  subst hv
  unfold setR maskOf
  rw [hr]
  show some (.row ((rgC g).set _ _) :: G) = _
  rw [Nat.zero_add]
  cases m
  · exact congrArg (fun c => some (AObj.row c :: G)) (rgC_set g _ r _ hr).1
  · exact congrArg (fun c => some (AObj.row c :: G)) (rgC_set g _ r _ hr).2
theorem check_zero {tags : Nat} {g : Rg} {k w t : Int} {x : Nat} {m : Bool} (h : checkE tags g k w t x m = 0) :
    (k = 1 ∧ t = 0 ∧ x = 0 ∧ m = false ∧ oneT g w = true ∧ tags < 16) ∨ (k = 2 ∧ oneT g w = true ∧ oneT g t = true ∧ 1 ≤ x ∧ x ≤ tags ∧ hasR g w m x = true ∧ hasR g t m x = false) := by
  unfold checkE at h
  split at h
  · rename_i h1
    split at h
    · cases h
    · exact .inl ⟨h1.1, h1.2.1, h1.2.2.1, h1.2.2.2.1, h1.2.2.2.2, by omega⟩
  · split at h
    · cases h
    · rename_i h2
      split at h
      · cases h
      · rename_i h3
        split at h
        · cases h
        · rename_i h4
          split at h
          · cases h
          · rename_i h5
            refine .inr ⟨Decidable.byContradiction fun hh => h2 (.inl hh), ?_, ?_, by omega, by omega, by simpa using h4, by simpa using h5⟩
            · cases hq : oneT g w
              · exact absurd (.inr (.inl hq)) h2
              · rfl
            · cases hq : oneT g t
              · exact absurd (.inr (.inr hq)) h2
              · rfl
theorem check_ok (tags : Nat) (g : Rg) (k w t : Int) (x : Nat) (m : Bool) (hg : RgOk g) (ht : tags < 1000000) (hx : x < 18446744073709551616) :
    ACalls Try.prog 14 [.ptr 1 0, deed k w t x m] (tabH tags g) (RetH (i64 (checkE tags g k w t x m)) (tabH tags g)) := by
  cases m
  · exact check_false tags g k w t x hg ht hx
  · exact check_true tags g k w t x hg ht hx
def doTags (tags : Nat) (e k : Int) : Nat := if e = 0 ∧ k ≠ 2 then tags + 1 else tags
def doG (tags : Nat) (g : Rg) (e k w t : Int) (x : Nat) (m : Bool) : Rg := if e = 0 then (if k = 2 then setR g t m x else setR (setR g w false (tags + 1)) w true (tags + 1)) else g
def doN (tags : Nat) (e k : Int) (x : Nat) : Nat := if e = 0 then (if k = 2 then x else tags + 1) else 0
theorem do_false (tags : Nat) (g : Rg) (k w t : Int) (x : Nat) (e : Int) (he : checkE tags g k w t x false = e) (hg : RgOk g) (ht : tags < 1000000) (hx : x < 18446744073709551616) :
    ACalls Try.prog 11 [.ptr 1 0, deed k w t x false] (tabH tags g) (RetH (.tup [u64 (doN tags e k x), i64 e]) (tabH (doTags tags e k) (doG tags g e k w t x false))) := by
  have hc := check_ok tags g k w t x false hg ht hx
  rw [he] at hc
  have hgo : ∀ (g : Rg) (f : Nat → Nat), renO f (.row (rgC g)) = .row (rgC g) := fun g f => renO_rg f g
  refine acalls_of_awp hT mixed Try.func11 rfl (by kernel_rfl) (by kernel_rfl) (Nat.le_of_ble_eq_true rfl) ?_
  refine callH hc [0, 1] rfl ⟨.inl (by rw [hgo]; rfl), .inl rfl, True.intro⟩ rfl rfl (H' := tabH tags g ++ [.row [i64 k, i64 w, i64 t, u64 x, bo false]]) (by simp only [tabH, renH, hgo]; rfl) ?_
  refine fork (fun h1 => ?_) (fun h1 => ?_)
  · have h1 : ¬ e = 0 := bne_iff_ne.1 h1
    have e1 : doN tags e k x = 0 := if_neg h1
    have e2 : doTags tags e k = tags := if_neg fun hh => h1 hh.1
    have e3 : doG tags g e k w t x false = g := if_neg h1
    rw [e1, e2, e3]
    refine endH rfl rfl rfl ⟨.inl rfl, .inl rfl, True.intro⟩ (Nat.le_refl 2) (belowH_tab tags g) rfl
  · have h1 : e = 0 := bne_eq_false_iff_eq.1 h1
    subst h1
    have hz := check_zero he
    refine fork (fun h2 => ?_) (fun h2 => ?_)
    · have hk : k = 2 := by simpa using h2
      obtain ⟨_, hw1, ht1, hx1, hx2, _, _⟩ : k = 2 ∧ oneT g w = true ∧ oneT g t = true ∧ 1 ≤ x ∧ x ≤ tags ∧ hasR g w false x = true ∧ hasR g t false x = false := by
        rcases hz with hz | hz
        · omega
        · exact hz
      have e1 : doN tags 0 k x = x := by unfold doN; rw [if_pos rfl, if_pos hk]
      have e2 : doTags tags 0 k = tags := if_neg fun hh => hh.2 hk
      have e3 : doG tags g 0 k w t x false = setR g t false x := by unfold doG; rw [if_pos rfl, if_pos hk]
      rw [e1, e2, e3]
      have hto := of_decide_eq_true ht1
      have rt1 : ∀ G : Heap, rd1 (.row (rgC g) :: G) 0 (0 + t.toNat * 2 + (if false = true then 1 else 0)) = some (u64 (maskOf g t false)) := fun G => mask_rd (tags := tags) ht1 false
      refine ⟨[0, 0, 0, 0, 0, 0, 0, 0, 0, 1, 1, 1, 0, 0, 2, 2, 2, 3], [[], [0], [0, 1], [0, 1, 2], [], [4], [0, 1, 2, 3, 4, 5], [], [7], [0, 1, 2, 3, 4, 5, 6, 7, 8], [0, 1, 2, 3, 4, 5, 6, 7, 8, 9], [0, 1, 2, 3, 4, 5, 6, 7, 8, 9, 10], [], [12], [0, 1, 2, 3, 4, 5, 6, 7, 8, 9, 12, 13], [0, 1, 2, 3, 4, 5, 6, 7, 8, 9, 10, 11, 12, 13, 14], [0, 1, 2, 3, 4, 5, 6, 7, 8, 9, 10, 11, 12, 13, 14, 15], [0, 1, 2, 3, 4, 5, 6, 7, 8, 9, 10, 11, 12, 13, 14, 15, 16]], [0, 0, 0, 0, 0, 0, 0, 0, 0, 0, 0, 0, 0, 0, 0, 0, 0, 0], [9, 14, 17], [[0], [17], [18], [19], [3], [21], [20, 22], [3], [24], [23, 25], [26], [27], [3], [29], [30], [28, 31], [26], [33, 32]], Ob.intro (by kernel_rfl) ?_⟩
      repeat first | refine same ?_ | refine Ob.intro hto ?_
      refine callH (H := tabH tags g ++ [.row [i64 k, i64 w, i64 t, u64 x, bo false]]) (at_ok tags g (0 + t.toNat * 2) false) [0, 1] rfl ⟨.inl (by rw [hgo]; rfl), .inl rfl, True.intro⟩ rfl rfl (H' := tabH tags g ++ [.row [i64 k, i64 w, i64 t, u64 x, bo false]]) (by simp only [tabH, renH, hgo]; rfl) ?_
      repeat first | refine same ?_ | refine Ob.intro hto ?_ | refine optK_intro (rt1 _) ?_
      refine callP (bit_ok x hx) rfl rfl ?_
      repeat first | refine same ?_ | refine Ob.intro hto ?_ | refine optK_intro (rt1 _) ?_
      refine optK_intro (wr_rg (g := g) (who := t) (m := false) (x := x) ht1 (or64 (maskOf_lt hg t false) (bitS_lt x))) ?_
      repeat first | refine same ?_ | refine Ob.intro hto ?_
      refine endH rfl rfl rfl ⟨.inl rfl, .inl ?_, True.intro⟩ (Nat.le_refl 2) (belowH_tab tags (setR g t false x)) rfl
      unfold tabO
      rw [setR_len]
    · have hk : ¬ k = 2 := by simpa using h2
      obtain ⟨hk1, ht0, hx0, _, hw1, h16⟩ : k = 1 ∧ t = 0 ∧ x = 0 ∧ false = false ∧ oneT g w = true ∧ tags < 16 := by
        rcases hz with hz | hz
        · exact hz
        · exact absurd hz.1 hk
      have e1 : doN tags 0 k x = tags + 1 := by unfold doN; rw [if_pos rfl, if_neg hk]
      have e2 : doTags tags 0 k = tags + 1 := if_pos ⟨rfl, hk⟩
      have e3 : doG tags g 0 k w t x false = setR (setR g w false (tags + 1)) w true (tags + 1) := by unfold doG; rw [if_pos rfl, if_neg hk]
      rw [e1, e2, e3]
      have hinc : wrp .i64 ((tags : Int) + 1) = ((tags + 1 : Nat) : Int) := by rw [wrpE, wi64]; omega
      have hcv : wrp .u64 ((tags + 1 : Nat) : Int) = ((tags + 1 : Nat) : Int) := by rw [wrpE, wu64]; omega
      have hcc : wrp .u64 (wrp .i64 ((tags : Int) + 1)) = ((tags + 1 : Nat) : Int) := by rw [hinc, hcv]
      have hb := bit_ok (tags + 1) (by omega)
      rw [← hcc] at hb
      have hwo := of_decide_eq_true hw1
      have hg1 := setR_ok hg w false (tags + 1)
      have hw2 : oneT (setR g w false (tags + 1)) w = true := by rw [oneT_set]; exact hw1
      have rw1 : ∀ G : Heap, rd1 (.row (rgC g) :: G) 0 (0 + w.toNat * 2 + (if false = true then 1 else 0)) = some (u64 (maskOf g w false)) := fun G => mask_rd (tags := tags) hw1 false
      have rw2 : ∀ G : Heap, rd1 (.row (rgC (setR g w false (tags + 1))) :: G) 0 (0 + w.toNat * 2 + (if true = true then 1 else 0)) = some (u64 (maskOf (setR g w false (tags + 1)) w true)) := fun G => mask_rd (tags := tags) hw2 true
      refine ⟨[0, 0, 0, 0, 0, 0, 0, 0, 0, 0, 1, 1, 1, 1, 2], [[], [0], [0, 1], [0, 1, 2], [], [4], [0, 1, 2, 3, 4, 5], [0, 1, 2, 3, 4, 5, 6], [0, 1, 2, 3, 4, 5, 6, 7], [], [9], [0, 1, 2, 3, 4, 5, 6, 7, 8, 9, 10], [0, 1, 2, 3, 4, 5, 6, 7, 8, 9, 10, 11], [0, 1, 2, 3, 4, 5, 6, 7, 8, 9, 10, 11, 12], [0, 1, 2, 3, 4, 5, 6, 7, 8, 9, 10, 11, 12, 13]], [0, 0, 0, 0, 0, 0, 0, 0, 0, 0, 0, 0, 0, 0, 0], [10, 14], [[0], [48], [49], [50], [3], [52], [51, 53], [54], [55], [7], [57], [56, 58], [51, 53], [60], [61, 59]], Ob.intro (by kernel_rfl) ?_⟩
      repeat first | refine same ?_ | refine Ob.intro hwo ?_ | refine optK_intro (rw1 _) ?_
      refine callP hb rfl rfl ?_
      repeat first | refine same ?_ | refine Ob.intro hwo ?_ | refine optK_intro (rw1 _) ?_
      refine optK_intro (wr_rg (g := g) (who := w) (m := false) (x := tags + 1) hw1 (or64 (maskOf_lt hg w false) (bitS_lt (tags + 1)))) ?_
      repeat first | refine same ?_ | refine Ob.intro hwo ?_
      refine ⟨[0, 0, 0, 0, 0, 0, 0, 0, 0, 0, 1, 1, 1, 1, 2], [[], [0], [0, 1], [0, 1, 2], [], [4], [0, 1, 2, 3, 4, 5], [0, 1, 2, 3, 4, 5, 6], [0, 1, 2, 3, 4, 5, 6, 7], [], [9], [0, 1, 2, 3, 4, 5, 6, 7, 8, 9, 10], [0, 1, 2, 3, 4, 5, 6, 7, 8, 9, 10, 11], [0, 1, 2, 3, 4, 5, 6, 7, 8, 9, 10, 11, 12], [0, 1, 2, 3, 4, 5, 6, 7, 8, 9, 10, 11, 12, 13]], [0, 0, 0, 0, 0, 0, 0, 0, 0, 0, 0, 0, 0, 0, 0], [10, 14], [[0], [62], [63], [64], [3], [66], [65, 67], [68], [69], [7], [71], [70, 72], [65, 67], [74], [75, 73]], Ob.intro (by kernel_rfl) ?_⟩
      repeat first | refine same ?_ | refine Ob.intro hwo ?_ | refine optK_intro (rw2 _) ?_
      refine callP hb rfl rfl ?_
      repeat first | refine same ?_ | refine Ob.intro hwo ?_ | refine optK_intro (rw2 _) ?_
      refine optK_intro (wr_rg (g := setR g w false (tags + 1)) (who := w) (m := true) (x := tags + 1) hw2 (or64 (maskOf_lt hg1 w true) (bitS_lt (tags + 1)))) ?_
      repeat first | refine same ?_ | refine Ob.intro hwo ?_
      refine endH rfl rfl rfl ⟨.inl rfl, .inl ?_, True.intro⟩ (Nat.le_refl 2) (belowH_tab (tags + 1) (setR (setR g w false (tags + 1)) w true (tags + 1))) ?_
      · unfold tabO
        rw [setR_len, setR_len, ← hinc]
        rfl
      · rw [← hcc]
        rfl

theorem do_true (tags : Nat) (g : Rg) (k w t : Int) (x : Nat) (e : Int) (he : checkE tags g k w t x true = e) (hg : RgOk g) (ht : tags < 1000000) (hx : x < 18446744073709551616) :
    ACalls Try.prog 11 [.ptr 1 0, deed k w t x true] (tabH tags g) (RetH (.tup [u64 (doN tags e k x), i64 e]) (tabH (doTags tags e k) (doG tags g e k w t x true))) := by
  have hc := check_ok tags g k w t x true hg ht hx
  rw [he] at hc
  have hgo : ∀ (g : Rg) (f : Nat → Nat), renO f (.row (rgC g)) = .row (rgC g) := fun g f => renO_rg f g
  refine acalls_of_awp hT mixed Try.func11 rfl (by kernel_rfl) (by kernel_rfl) (Nat.le_of_ble_eq_true rfl) ?_
  refine callH hc [0, 1] rfl ⟨.inl (by rw [hgo]; rfl), .inl rfl, True.intro⟩ rfl rfl (H' := tabH tags g ++ [.row [i64 k, i64 w, i64 t, u64 x, bo true]]) (by simp only [tabH, renH, hgo]; rfl) ?_
  refine fork (fun h1 => ?_) (fun h1 => ?_)
  · have h1 : ¬ e = 0 := bne_iff_ne.1 h1
    have e1 : doN tags e k x = 0 := if_neg h1
    have e2 : doTags tags e k = tags := if_neg fun hh => h1 hh.1
    have e3 : doG tags g e k w t x true = g := if_neg h1
    rw [e1, e2, e3]
    refine endH rfl rfl rfl ⟨.inl rfl, .inl rfl, True.intro⟩ (Nat.le_refl 2) (belowH_tab tags g) rfl
  · have h1 : e = 0 := bne_eq_false_iff_eq.1 h1
    subst h1
    have hz := check_zero he
    refine fork (fun h2 => ?_) (fun h2 => ?_)
    · have hk : k = 2 := by simpa using h2
      obtain ⟨_, hw1, ht1, hx1, hx2, _, _⟩ : k = 2 ∧ oneT g w = true ∧ oneT g t = true ∧ 1 ≤ x ∧ x ≤ tags ∧ hasR g w true x = true ∧ hasR g t true x = false := by
        rcases hz with hz | hz
        · omega
        · exact hz
      have e1 : doN tags 0 k x = x := by unfold doN; rw [if_pos rfl, if_pos hk]
      have e2 : doTags tags 0 k = tags := if_neg fun hh => hh.2 hk
      have e3 : doG tags g 0 k w t x true = setR g t true x := by unfold doG; rw [if_pos rfl, if_pos hk]
      rw [e1, e2, e3]
      have hto := of_decide_eq_true ht1
      have rt1 : ∀ G : Heap, rd1 (.row (rgC g) :: G) 0 (0 + t.toNat * 2 + (if true = true then 1 else 0)) = some (u64 (maskOf g t true)) := fun G => mask_rd (tags := tags) ht1 true
      refine ⟨[0, 0, 0, 0, 0, 0, 0, 0, 0, 1, 1, 1, 0, 0, 2, 2, 2, 3], [[], [0], [0, 1], [0, 1, 2], [], [4], [0, 1, 2, 3, 4, 5], [], [7], [0, 1, 2, 3, 4, 5, 6, 7, 8], [0, 1, 2, 3, 4, 5, 6, 7, 8, 9], [0, 1, 2, 3, 4, 5, 6, 7, 8, 9, 10], [], [12], [0, 1, 2, 3, 4, 5, 6, 7, 8, 9, 12, 13], [0, 1, 2, 3, 4, 5, 6, 7, 8, 9, 10, 11, 12, 13, 14], [0, 1, 2, 3, 4, 5, 6, 7, 8, 9, 10, 11, 12, 13, 14, 15], [0, 1, 2, 3, 4, 5, 6, 7, 8, 9, 10, 11, 12, 13, 14, 15, 16]], [0, 0, 0, 0, 0, 0, 0, 0, 0, 0, 0, 0, 0, 0, 0, 0, 0, 0], [9, 14, 17], [[0], [17], [18], [19], [3], [21], [20, 22], [3], [24], [23, 25], [26], [27], [3], [29], [30], [28, 31], [26], [33, 32]], Ob.intro (by kernel_rfl) ?_⟩
      repeat first | refine same ?_ | refine Ob.intro hto ?_
      refine callH (H := tabH tags g ++ [.row [i64 k, i64 w, i64 t, u64 x, bo true]]) (at_ok tags g (0 + t.toNat * 2) true) [0, 1] rfl ⟨.inl (by rw [hgo]; rfl), .inl rfl, True.intro⟩ rfl rfl (H' := tabH tags g ++ [.row [i64 k, i64 w, i64 t, u64 x, bo true]]) (by simp only [tabH, renH, hgo]; rfl) ?_
      repeat first | refine same ?_ | refine Ob.intro hto ?_ | refine optK_intro (rt1 _) ?_
      refine callP (bit_ok x hx) rfl rfl ?_
      repeat first | refine same ?_ | refine Ob.intro hto ?_ | refine optK_intro (rt1 _) ?_
      refine optK_intro (wr_rg (g := g) (who := t) (m := true) (x := x) ht1 (or64 (maskOf_lt hg t true) (bitS_lt x))) ?_
      repeat first | refine same ?_ | refine Ob.intro hto ?_
      refine endH rfl rfl rfl ⟨.inl rfl, .inl ?_, True.intro⟩ (Nat.le_refl 2) (belowH_tab tags (setR g t true x)) rfl
      unfold tabO
      rw [setR_len]
    · have hk : ¬ k = 2 := by simpa using h2
      rcases hz with hz | hz
      · cases hz.2.2.2.1
      · exact absurd hz.1 hk

end Go.Proofs.Ytofinmlloefocaa.A
