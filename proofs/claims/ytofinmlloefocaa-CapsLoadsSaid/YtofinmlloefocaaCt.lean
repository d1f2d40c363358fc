/- The law CapsPlays, by the functions that it calls. No condition. -/
import Derived.Test.YtofinmlloefocaaCs
namespace Go.Proofs.Ytofinmlloefocaa.A
open Go
set_option linter.unusedVariables false
set_option maxRecDepth 100000
set_option pp.maxSteps 1500

theorem capsPlays_big (people who : Int) (x : Nat) (L : List Dd) (a o : List Nat) (h : ¬ (a.length ≤ 60 ∧ o.length ≤ 60)) :
    ACalls Try.prog 5 [i64 people, .view L.length (ddsC L), i64 who, u64 x, us a, us o] [] (Ret (bo true)) := by
  refine acalls_of_awp hT mixed Try.func5 rfl (by kernel_rfl) (by kernel_rfl) (Nat.le_of_ble_eq_true rfl) ?_
  refine callP awakeC_ok rfl rfl ?_
  refine forkD (fun h1 => end0 rfl rfl rfl rfl) (fun h1 => ?_)
  refine forkD (fun h2 => end0 rfl rfl rfl rfl) (fun h2 => by omega)
theorem capsPlays_none (people who : Int) (x : Nat) (L : List Dd) (a o : List Nat) (h : a.length ≤ 60 ∧ o.length ≤ 60) (hp : people < 1 ∨ 8 < people) :
    ACalls Try.prog 5 [i64 people, .view L.length (ddsC L), i64 who, u64 x, us a, us o] [] (Ret (bo true)) := by
  refine acalls_of_awp hT mixed Try.func5 rfl (by kernel_rfl) (by kernel_rfl) (Nat.le_of_ble_eq_true rfl) ?_
  refine callP awakeC_ok rfl rfl ?_
  refine forkD (fun h1 => by omega) (fun h1 => ?_)
  refine forkD (fun h2 => by omega) (fun h2 => ?_)
  refine callP (newBad_ok people hp) rfl rfl ?_
  refine forkD (fun h3 => end0 rfl rfl rfl rfl) (fun h3 => ?_)
  refine forkD (fun h4 => end0 rfl rfl rfl rfl) (fun h4 => by omega)
theorem dd_field {L : List Dd} {k : Nat} {r : Dd} (h : L[k]? = some r) (off : Nat) (ho : off < 5) {v : AV} (hv : (ddC r)[off]? = some v) : nth (List.drop off ((ddsC L).drop ((k : Int).toNat * 5))) 0 = some v := by
  rw [Int.toNat_natCast, ddsC_drop L k r h, nth_eq, List.getElem?_drop, Nat.add_zero, List.getElem?_append_left (by show off < 5; exact ho)]
  exact hv
def PlaySt (n : Nat) : Type := { z : Nat × Nat × Rg × List Rt // z.1 ≤ 120 ∧ z.2.1 ≤ z.1 ∧ RgOk z.2.2.1 ∧ z.2.2.1.length = n ∧ Rel z.2.1 z.2.2.1 z.2.2.2 ∧ z.2.2.2.length ≤ 2 * z.1 }
theorem rel_new (n : Nat) : Rel 0 (nobody n) [] := by
  refine ⟨fun w x m hw => ?_, fun r hr => (by cases hr), by decide⟩
  have : maskOf (nobody n) w m = 0 := by
    unfold maskOf nobody
    rw [List.getElem?_replicate]
    cases m
    · by_cases hq : w.toNat < n
      · rw [if_pos hq]; rfl
      · rw [if_neg hq]; rfl
    · by_cases hq : w.toNat < n
      · rw [if_pos hq]; rfl
      · rw [if_neg hq]; rfl
  unfold hasR hasS
  rw [this, Nat.zero_and]
  simp
theorem doL_len {tags : Nat} {L : List Rt} {e k w t : Int} {x : Nat} {m : Bool} : (doL tags L e k w t x m).length ≤ L.length + 2 := by
  unfold doL
  split
  · split <;> simp
  · omega
theorem capsPlays_ok (n : Nat) (who : Int) (x : Nat) (L : List Dd) (a o : List Nat) (h : a.length ≤ 60 ∧ o.length ≤ 60) (hp1 : 1 ≤ n) (hp8 : n ≤ 8) (hd : ∀ d ∈ L, d.x < 18446744073709551616) (ho : ∀ x ∈ o, x < 18446744073709551616) (hx : x < 18446744073709551616) :
    ACalls Try.prog 5 [i64 n, .view L.length (ddsC L), i64 who, u64 x, us a, us o] [] (Ret (bo true)) := by
  refine acalls_of_awp hT mixed Try.func5 rfl (by kernel_rfl) (by kernel_rfl) (Nat.le_of_ble_eq_true rfl) ?_
  refine callP awakeC_ok rfl rfl ?_
  refine forkD (fun h1 => by omega) (fun h1 => ?_)
  refine forkD (fun h2 => by omega) (fun h2 => ?_)
  refine callH (new_ok n hp1 hp8) [] rfl True.intro rfl rfl (H' := tabH 0 (nobody n)) (by simp only [tabH, renH, renO_rg]; rfl) ?_
  refine forkD (fun h3 => by omega) (fun h3 => ?_)
  refine forkD (fun h4 => by omega) (fun h4 => ?_)
  refine loopG (α := PlaySt n) (fun z => [(1, .view L.length (ddsC L)), (2, i64 who), (3, u64 x), (4, us a), (5, us o), (13, .ptr 1 0), (15, .ptr 3 0), (16, i64 (z.val.1 : Nat))])
    (fun z => twoH n z.val.2.1 z.val.2.2.1 z.val.2.2.2) [] (fun z => 120 - z.val.1)
    ⟨(0, 0, nobody n, []), Nat.zero_le _, Nat.le_refl _, ⟨by rw [nobody_len]; exact hp8, fun r hr => by rw [List.eq_of_mem_replicate hr]; decide⟩, nobody_len n, rel_new n, Nat.le_refl _⟩ [.cell 2 2 3] [0, 1, 3, 2]
    ⟨⟨rfl, rfl, rfl, rfl, rfl, rfl, rfl, rfl, True.intro⟩, ⟨.inl (by rw [renO_rg]; rfl), .inl rfl, .inl rfl, .inl rfl, True.intro⟩, rfl, rfl, rfl⟩ ?_
  rintro ⟨⟨i, tags, g, R⟩, hst⟩ K hK
  replace hst : i ≤ 120 ∧ tags ≤ i ∧ RgOk g ∧ g.length = n ∧ Rel tags g R ∧ R.length ≤ 2 * i := hst
  obtain ⟨hi, hti, hg, hgn, hR, hRl⟩ := hst
  have hinc : wrp .i64 ((i : Int) + 1) = ((i + 1 : Nat) : Int) := by rw [wrpE, wi64]; omega
  have al0 : ACalls Try.prog 17 [.ptr 1 0, .ptr 3 0, i64 who, u64 x, us a, us o] (twoH n tags g R) (RetH (bo true) (twoH n tags g R)) := hgn ▸ alike_ok tags g R who x a o hg hR (by omega) (by omega) (by omega) hx ho
  refine forkD (fun h1 => ?_) (fun h1 => ?_)
  · refine forkD (fun h2 => ?_) (fun h2 => ?_)
    · have h1' : i < L.length := by have : (i : Int) < (L.length : Int) := h1; omega
      obtain ⟨⟨k, w, t, xx, m⟩, hdd⟩ : ∃ d, L[i]? = some d := ⟨_, List.getElem?_eq_getElem h1'⟩
      obtain ⟨e, he⟩ : ∃ e, checkE tags g k w t xx m = e := ⟨_, rfl⟩
      have hdx : xx < 18446744073709551616 := hd ⟨k, w, t, xx, m⟩ (List.mem_of_getElem? hdd)
      have hck := check_ok tags g k w t xx m hg (by omega) hdx
      have hckR := checkR_ok tags g R k w t xx m hR (by omega)
      have hdo := doB_ok tags g k w t xx m e he hg (by omega) hdx
      rw [he] at hck hckR
      rw [hgn] at hckR
      have hrel := rel_do hR he
      have htl := doTags_le (tags := tags) (e := e) (k := k)
      have hgl := doG_len tags g e k w t xx m
      have hgo := doG_ok hg tags e k w t xx m
      have hll := doL_len (tags := tags) (L := R) (e := e) (k := k) (w := w) (t := t) (x := xx) (m := m)
      have hb := (show (0 : Int) ≤ (i : Nat) ∧ ((i : Nat) : Int) < (L.length : Nat) by omega)
      refine Ob.intro hb ?_
      refine optK_intro (dd_take hdd) ?_
      refine callH (H := twoH n tags g R) hck [0, 1] rfl ⟨.inl (by rw [renO_rg]; rfl), .inl rfl, True.intro⟩ rfl rfl (H' := twoH n tags g R) (by simp only [tabH, renH, renO_rg]; rfl) ?_
      refine Ob.intro hb ?_
      refine optK_intro (dd_take hdd) ?_
      have hgl' : (doG tags g e k w t xx m).length = n := by rw [hgl, hgn]
      have al1 : ∀ (z : Int) (y : Nat), y < 18446744073709551616 → ACalls Try.prog 17 [.ptr 1 0, .ptr 3 0, i64 z, u64 y, us a, us o] (twoH n (doTags tags e k) (doG tags g e k w t xx m) (doL tags R e k w t xx m)) (RetH (bo true) (twoH n (doTags tags e k) (doG tags g e k w t xx m) (doL tags R e k w t xx m))) := fun z y hy => by
        have := alike_ok (doTags tags e k) (doG tags g e k w t xx m) (doL tags R e k w t xx m) z y a o hgo hrel (by omega) (by omega) (by omega) hy ho
        rw [hgl'] at this
        exact this
      by_cases h0 : e = 0
      · rcases check_zero (h0 ▸ he) with ⟨hk, ht, hxx, hm, how, htag⟩ | ⟨hk, how, hot, hx1, hx2, hhas, hno⟩
        · subst h0 hk ht hxx hm
          have hT' : doTags tags 0 1 = tags + 1 := rfl
          have hL' : doL tags R 0 1 w 0 0 false = R ++ [(w, tags + 1, false), (w, tags + 1, true)] := rfl
          have hmd := doMake_ok tags g R w he hR (by omega)
          rw [hgn] at hmd
          generalize hg' : doG tags g 0 _ _ _ _ _ = g' at *
          rw [hT', hL'] at *
          refine callH (H := twoH n tags g R) hdo [0, 1] rfl ⟨.inl (by rw [renO_rg]; rfl), .inl rfl, True.intro⟩ rfl rfl (H' := [.row (rgC g'), tabO (tags + 1) g', .row (flat rtC R), .row [i64 n, i64 tags, .slc 2 0 R.length 3]]) (by simp only [tabH, renH, renO_rg]; rfl) ?_
          refine Ob.intro hb ?_
          refine optK_intro (dd_take hdd) ?_
          refine callH (H := [.row (rgC g'), tabO (tags + 1) g', .row (flat rtC R), .row [i64 n, i64 tags, .slc 2 0 R.length 3]]) hckR [2, 3] rfl ⟨.inl (by rw [renO_rt]; rfl), .inl rfl, True.intro⟩ rfl rfl (H' := [.row (rgC g'), tabO (tags + 1) g', .row (flat rtC R), .row [i64 n, i64 tags, .slc 2 0 R.length 3]]) (by simp only [refH, renH, renO_rt]; rfl) ?_
          refine Ob.intro hb ?_
          refine optK_intro (dd_take hdd) ?_
          refine callH (H := [.row (rgC g'), tabO (tags + 1) g', .row (flat rtC R), .row [i64 n, i64 tags, .slc 2 0 R.length 3]]) hmd [2, 3] rfl ⟨.inl (by rw [renO_rt]; rfl), .inl rfl, True.intro⟩ rfl rfl (H' := [.row (rgC g'), tabO (tags + 1) g', .dead, .row [i64 n, i64 (tags + 1 : Nat), .slc 6 0 (R ++ [(w, tags + 1, false), (w, tags + 1, true)]).length 3], .dead, .dead, .row (flat rtC (R ++ [(w, tags + 1, false), (w, tags + 1, true)]))]) (by simp only [refH4, renH, renO_rt]; rfl) ?_
          refine ⟨[0, 0, 0, 0, 0, 0, 0, 0, 0, 0, 0, 0, 0, 0, 0, 0, 0, 0, 0, 0, 1, 1, 1, 1, 1, 1, 1, 1, 1, 1, 1, 1, 1, 1, 1, 1, 1, 1, 2, 2, 2], [[], [], [0, 1], [0, 1, 2], [0, 1, 2, 3], [0, 1, 2, 3], [0, 1, 2, 3, 4, 5], [0, 1, 2, 3, 4, 5, 6], [0, 1, 2, 3, 4, 5, 6, 7], [0, 1, 2, 3, 4, 5, 6, 7, 8], [0, 1, 2, 3, 4, 5, 6, 7, 8], [0, 1, 2, 3, 4, 5, 6, 7, 8, 9, 10], [0, 1, 2, 3, 4, 5, 6, 7, 8, 9, 10, 11], [0, 1, 2, 3, 4, 5, 6, 7, 8, 9, 10, 11, 12], [0, 1, 2, 3, 4, 5, 6, 7, 8, 9, 10, 11, 12, 13], [0, 1, 2, 3, 4, 5, 6, 7, 8, 9, 10, 11, 12, 13], [0, 1, 2, 3, 4, 5, 6, 7, 8, 9, 10, 11, 12, 13], [0, 1, 2, 3, 4, 5, 6, 7, 8, 9, 10, 11, 12, 13], [0, 1, 2, 3, 4, 5, 6, 7, 8, 9, 10, 11, 12, 13], [0, 1, 2, 3, 4, 5, 6, 7, 8, 9, 10, 11, 12, 13], [0, 1, 2, 3, 4, 5, 6, 7, 8, 9, 10, 11, 12, 13, 14, 15, 16, 17, 18, 19], [0, 1, 2, 3, 4, 5, 6, 7, 8, 9, 10, 11, 12, 13, 14, 15, 16, 17, 18, 19, 20], [0, 1, 2, 3, 4, 5, 6, 7, 8, 9, 10, 11, 12, 13, 14, 15, 16, 17, 18, 19, 20, 21], [0, 1, 2, 3, 4, 5, 6, 7, 8, 9, 10, 11, 12, 13, 14, 15, 16, 17, 18, 19, 20, 21, 22], [0, 1, 2, 3, 4, 5, 6, 7, 8, 9, 10, 11, 12, 13, 14, 15, 16, 17, 18, 19, 20, 21, 22, 23], [0, 1, 2, 3, 4, 5, 6, 7, 8, 9, 10, 11, 12, 13, 14, 15, 16, 17, 18, 19, 20, 21, 22, 23], [0, 1, 2, 3, 4, 5, 6, 7, 8, 9, 10, 11, 12, 13, 14, 15, 16, 17, 18, 19, 20, 21, 22, 23], [0, 1, 2, 3, 4, 5, 6, 7, 8, 9, 10, 11, 12, 13, 14, 15, 16, 17, 18, 19, 20, 21, 22, 23], [0, 1, 2, 3, 4, 5, 6, 7, 8, 9, 10, 11, 12, 13, 14, 15, 16, 17, 18, 19, 20, 21, 22, 23, 26, 27], [0, 1, 2, 3, 4, 5, 6, 7, 8, 9, 10, 11, 12, 13, 14, 15, 16, 17, 18, 19, 20, 21, 22, 23, 26, 27, 28], [0, 1, 2, 3, 4, 5, 6, 7, 8, 9, 10, 11, 12, 13, 14, 15, 16, 17, 18, 19, 20, 21, 22, 23, 26, 27, 28, 29], [0, 1, 2, 3, 4, 5, 6, 7, 8, 9, 10, 11, 12, 13, 14, 15, 16, 17, 18, 19, 20, 21, 22, 23], [0, 1, 2, 3, 4, 5, 6, 7, 8, 9, 10, 11, 12, 13, 14, 15, 16, 17, 18, 19, 20, 21, 22, 23], [0, 1, 2, 3, 4, 5, 6, 7, 8, 9, 10, 11, 12, 13, 14, 15, 16, 17, 18, 19, 20, 21, 22, 23, 31, 32], [0, 1, 2, 3, 4, 5, 6, 7, 8, 9, 10, 11, 12, 13, 14, 15, 16, 17, 18, 19, 20, 21, 22, 23, 31, 32, 33], [0, 1, 2, 3, 4, 5, 6, 7, 8, 9, 10, 11, 12, 13, 14, 15, 16, 17, 18, 19, 20, 21, 22, 23, 31, 32, 33, 34], [0, 1, 2, 3, 4, 5, 6, 7, 8, 9, 10, 11, 12, 13, 14, 15, 16, 17, 18, 19, 20, 21, 22, 23], [0, 1, 2, 3, 4, 5, 6, 7, 8, 9, 10, 11, 12, 13, 14, 15, 16, 17, 18, 19, 20, 21, 22, 23], [0, 1, 2, 3, 4, 5, 6, 7, 8, 9, 10, 11, 12, 13, 14, 15, 16, 17, 18, 19, 20, 21, 22, 23, 24, 25, 26, 27, 28, 29, 30, 31, 32, 33, 34, 35, 36, 37], [0, 1, 2, 3, 4, 5, 6, 7, 8, 9, 10, 11, 12, 13, 14, 15, 16, 17, 18, 19, 20, 21, 22, 23, 24, 25, 26, 27, 28, 29, 30, 31, 32, 33, 34, 35, 36, 37, 38], [0, 1, 2, 3, 4, 5, 6, 7, 8, 9, 10, 11, 12, 13, 14, 15, 16, 17, 18, 19, 20, 21, 22, 23, 24, 25, 26, 27, 28, 29, 30, 31, 32, 33, 34, 35, 36, 37, 38, 39]], [0, 0, 0, 0, 0, 0, 0, 0, 0, 0, 0, 0, 0, 0, 0, 0, 0, 0, 0, 0, 0, 0, 0, 0, 0, 0, 0, 0, 0, 0, 0, 0, 0, 0, 0, 0, 0, 0, 0, 0, 0], [20, 38], [[17], [20], [93, 94], [95], [18, 96], [21, 96], [97, 98, 96], [96, 99], [100], [19, 101], [22, 101], [102, 103, 101], [101, 104], [105], [13, 106], [15, 106], [2, 106], [3, 106], [4, 106], [5, 106], [107, 108, 109, 110, 111, 112, 106], [113, 106], [106, 114], [115], [13, 116], [15, 116], [1, 116], [16, 116], [119, 120, 116], [121, 116], [122, 116], [1, 116], [16, 116], [124, 125, 116], [126, 116], [127, 116], [4, 116], [5, 116], [117, 118, 123, 128, 129, 130, 116], [131, 116], [116, 132]], Ob.intro (by kernel_rfl) ?_⟩
          refine fork (fun h => absurd rfl (bne_iff_ne.1 h)) (fun h => ?_)
          repeat refine same ?_
          refine callH (H := [.row (rgC g'), tabO (tags + 1) g', .dead, .row [i64 n, i64 (tags + 1 : Nat), .slc 6 0 (R ++ [(w, tags + 1, false), (w, tags + 1, true)]).length 3], .dead, .dead, .row (flat rtC (R ++ [(w, tags + 1, false), (w, tags + 1, true)]))]) (al1 who x hx) [0, 1, 6, 3] rfl ⟨.inl (by rw [renO_rg]; rfl), .inl rfl, .inl (by rw [renO_rt]; rfl), .inl rfl, True.intro⟩ rfl rfl (H' := [.row (rgC g'), tabO (tags + 1) g', .dead, .row [i64 n, i64 (tags + 1 : Nat), .slc 6 0 (R ++ [(w, tags + 1, false), (w, tags + 1, true)]).length 3], .dead, .dead, .row (flat rtC (R ++ [(w, tags + 1, false), (w, tags + 1, true)]))]) (by simp only [twoH, renH, renO_rg, renO_rt]; rfl) ?_
          repeat refine same ?_
          refine Ob.intro hb ?_
          refine optK_intro (dd_field hdd 2 (by decide) rfl) ?_
          refine Ob.intro hb ?_
          refine optK_intro (dd_field hdd 3 (by decide) rfl) ?_
          refine optK_intro (dd_field hdd 2 (by decide) rfl) ?_
          refine same ?_
          refine optK_intro (dd_field hdd 3 (by decide) rfl) ?_
          refine same ?_
          refine callH (H := [.row (rgC g'), tabO (tags + 1) g', .dead, .row [i64 n, i64 (tags + 1 : Nat), .slc 6 0 (R ++ [(w, tags + 1, false), (w, tags + 1, true)]).length 3], .dead, .dead, .row (flat rtC (R ++ [(w, tags + 1, false), (w, tags + 1, true)]))]) (al1 0 0 hdx) [0, 1, 6, 3] rfl ⟨.inl (by rw [renO_rg]; rfl), .inl rfl, .inl (by rw [renO_rt]; rfl), .inl rfl, True.intro⟩ rfl rfl (H' := [.row (rgC g'), tabO (tags + 1) g', .dead, .row [i64 n, i64 (tags + 1 : Nat), .slc 6 0 (R ++ [(w, tags + 1, false), (w, tags + 1, true)]).length 3], .dead, .dead, .row (flat rtC (R ++ [(w, tags + 1, false), (w, tags + 1, true)]))]) (by simp only [twoH, renH, renO_rg, renO_rt]; rfl) ?_
          repeat refine same ?_
          refine hK ⟨(i + 1, (tags + 1), g', (R ++ [(w, tags + 1, false), (w, tags + 1, true)])), by show i + 1 ≤ 120; have : ((i : Nat) : Int) < 120 := h2; omega, by show (tags + 1) ≤ i + 1; omega, hgo, hgl', hrel, by show ((R ++ [(w, tags + 1, false), (w, tags + 1, true)])).length ≤ 2 * (i + 1); rw [List.length_append]; show R.length + 2 ≤ _; omega⟩ [] [0, 1, 6, 3] _ (show 120 - i = 120 - (i + 1) + 1 by have : ((i : Nat) : Int) < 120 := h2; omega) ⟨⟨rfl, rfl, rfl, rfl, rfl, rfl, rfl, congrArg i64 hinc, True.intro⟩, ⟨.inl (by rw [renO_rg]; rfl), .inl rfl, .inl (by rw [renO_rt]; rfl), .inl rfl, True.intro⟩, rfl, rfl, rfl⟩
        · subst h0 hk
          have hT' : doTags tags 0 2 = tags := rfl
          have hL' : doL tags R 0 2 w t xx m = R ++ [(t, xx, m)] := rfl
          have hmd := doGive_ok tags g R w t xx m he hR (by omega)
          rw [hgn] at hmd
          generalize hg' : doG tags g 0 _ _ _ _ _ = g' at *
          rw [hT', hL'] at *
          refine callH (H := twoH n tags g R) hdo [0, 1] rfl ⟨.inl (by rw [renO_rg]; rfl), .inl rfl, True.intro⟩ rfl rfl (H' := [.row (rgC g'), tabO tags g', .row (flat rtC R), .row [i64 n, i64 tags, .slc 2 0 R.length 3]]) (by simp only [tabH, renH, renO_rg]; rfl) ?_
          refine Ob.intro hb ?_
          refine optK_intro (dd_take hdd) ?_
          refine callH (H := [.row (rgC g'), tabO tags g', .row (flat rtC R), .row [i64 n, i64 tags, .slc 2 0 R.length 3]]) hckR [2, 3] rfl ⟨.inl (by rw [renO_rt]; rfl), .inl rfl, True.intro⟩ rfl rfl (H' := [.row (rgC g'), tabO tags g', .row (flat rtC R), .row [i64 n, i64 tags, .slc 2 0 R.length 3]]) (by simp only [refH, renH, renO_rt]; rfl) ?_
          refine Ob.intro hb ?_
          refine optK_intro (dd_take hdd) ?_
          refine callH (H := [.row (rgC g'), tabO tags g', .row (flat rtC R), .row [i64 n, i64 tags, .slc 2 0 R.length 3]]) hmd [2, 3] rfl ⟨.inl (by rw [renO_rt]; rfl), .inl rfl, True.intro⟩ rfl rfl (H' := [.row (rgC g'), tabO tags g', .dead, .row [i64 n, i64 tags, .slc 6 0 (R ++ [(t, xx, m)]).length 3], .dead, .dead, .row (flat rtC (R ++ [(t, xx, m)]))]) (by simp only [refH4, renH, renO_rt]; rfl) ?_
          refine ⟨[0, 0, 0, 0, 0, 0, 0, 0, 0, 0, 0, 0, 0, 0, 0, 0, 0, 0, 0, 0, 1, 1, 1, 1, 1, 1, 1, 1, 1, 1, 1, 1, 1, 1, 1, 1, 1, 1, 2, 2, 2], [[], [], [0, 1], [0, 1, 2], [0, 1, 2, 3], [0, 1, 2, 3], [0, 1, 2, 3, 4, 5], [0, 1, 2, 3, 4, 5, 6], [0, 1, 2, 3, 4, 5, 6, 7], [0, 1, 2, 3, 4, 5, 6, 7, 8], [0, 1, 2, 3, 4, 5, 6, 7, 8], [0, 1, 2, 3, 4, 5, 6, 7, 8, 9, 10], [0, 1, 2, 3, 4, 5, 6, 7, 8, 9, 10, 11], [0, 1, 2, 3, 4, 5, 6, 7, 8, 9, 10, 11, 12], [0, 1, 2, 3, 4, 5, 6, 7, 8, 9, 10, 11, 12, 13], [0, 1, 2, 3, 4, 5, 6, 7, 8, 9, 10, 11, 12, 13], [0, 1, 2, 3, 4, 5, 6, 7, 8, 9, 10, 11, 12, 13], [0, 1, 2, 3, 4, 5, 6, 7, 8, 9, 10, 11, 12, 13], [0, 1, 2, 3, 4, 5, 6, 7, 8, 9, 10, 11, 12, 13], [0, 1, 2, 3, 4, 5, 6, 7, 8, 9, 10, 11, 12, 13], [0, 1, 2, 3, 4, 5, 6, 7, 8, 9, 10, 11, 12, 13, 14, 15, 16, 17, 18, 19], [0, 1, 2, 3, 4, 5, 6, 7, 8, 9, 10, 11, 12, 13, 14, 15, 16, 17, 18, 19, 20], [0, 1, 2, 3, 4, 5, 6, 7, 8, 9, 10, 11, 12, 13, 14, 15, 16, 17, 18, 19, 20, 21], [0, 1, 2, 3, 4, 5, 6, 7, 8, 9, 10, 11, 12, 13, 14, 15, 16, 17, 18, 19, 20, 21, 22], [0, 1, 2, 3, 4, 5, 6, 7, 8, 9, 10, 11, 12, 13, 14, 15, 16, 17, 18, 19, 20, 21, 22, 23], [0, 1, 2, 3, 4, 5, 6, 7, 8, 9, 10, 11, 12, 13, 14, 15, 16, 17, 18, 19, 20, 21, 22, 23], [0, 1, 2, 3, 4, 5, 6, 7, 8, 9, 10, 11, 12, 13, 14, 15, 16, 17, 18, 19, 20, 21, 22, 23], [0, 1, 2, 3, 4, 5, 6, 7, 8, 9, 10, 11, 12, 13, 14, 15, 16, 17, 18, 19, 20, 21, 22, 23], [0, 1, 2, 3, 4, 5, 6, 7, 8, 9, 10, 11, 12, 13, 14, 15, 16, 17, 18, 19, 20, 21, 22, 23, 26, 27], [0, 1, 2, 3, 4, 5, 6, 7, 8, 9, 10, 11, 12, 13, 14, 15, 16, 17, 18, 19, 20, 21, 22, 23, 26, 27, 28], [0, 1, 2, 3, 4, 5, 6, 7, 8, 9, 10, 11, 12, 13, 14, 15, 16, 17, 18, 19, 20, 21, 22, 23, 26, 27, 28, 29], [0, 1, 2, 3, 4, 5, 6, 7, 8, 9, 10, 11, 12, 13, 14, 15, 16, 17, 18, 19, 20, 21, 22, 23], [0, 1, 2, 3, 4, 5, 6, 7, 8, 9, 10, 11, 12, 13, 14, 15, 16, 17, 18, 19, 20, 21, 22, 23], [0, 1, 2, 3, 4, 5, 6, 7, 8, 9, 10, 11, 12, 13, 14, 15, 16, 17, 18, 19, 20, 21, 22, 23, 31, 32], [0, 1, 2, 3, 4, 5, 6, 7, 8, 9, 10, 11, 12, 13, 14, 15, 16, 17, 18, 19, 20, 21, 22, 23, 31, 32, 33], [0, 1, 2, 3, 4, 5, 6, 7, 8, 9, 10, 11, 12, 13, 14, 15, 16, 17, 18, 19, 20, 21, 22, 23, 31, 32, 33, 34], [0, 1, 2, 3, 4, 5, 6, 7, 8, 9, 10, 11, 12, 13, 14, 15, 16, 17, 18, 19, 20, 21, 22, 23], [0, 1, 2, 3, 4, 5, 6, 7, 8, 9, 10, 11, 12, 13, 14, 15, 16, 17, 18, 19, 20, 21, 22, 23], [0, 1, 2, 3, 4, 5, 6, 7, 8, 9, 10, 11, 12, 13, 14, 15, 16, 17, 18, 19, 20, 21, 22, 23, 24, 25, 26, 27, 28, 29, 30, 31, 32, 33, 34, 35, 36, 37], [0, 1, 2, 3, 4, 5, 6, 7, 8, 9, 10, 11, 12, 13, 14, 15, 16, 17, 18, 19, 20, 21, 22, 23, 24, 25, 26, 27, 28, 29, 30, 31, 32, 33, 34, 35, 36, 37, 38], [0, 1, 2, 3, 4, 5, 6, 7, 8, 9, 10, 11, 12, 13, 14, 15, 16, 17, 18, 19, 20, 21, 22, 23, 24, 25, 26, 27, 28, 29, 30, 31, 32, 33, 34, 35, 36, 37, 38, 39]], [0, 0, 0, 0, 0, 0, 0, 0, 0, 0, 0, 0, 0, 0, 0, 0, 0, 0, 0, 0, 0, 0, 0, 0, 0, 0, 0, 0, 0, 0, 0, 0, 0, 0, 0, 0, 0, 0, 0, 0, 0], [20, 38], [[17], [20], [93, 94], [95], [18, 96], [21, 96], [97, 98, 96], [96, 99], [100], [19, 101], [22, 101], [102, 103, 101], [101, 104], [105], [13, 106], [15, 106], [2, 106], [3, 106], [4, 106], [5, 106], [107, 108, 109, 110, 111, 112, 106], [113, 106], [106, 114], [115], [13, 116], [15, 116], [1, 116], [16, 116], [119, 120, 116], [121, 116], [122, 116], [1, 116], [16, 116], [124, 125, 116], [126, 116], [127, 116], [4, 116], [5, 116], [117, 118, 123, 128, 129, 130, 116], [131, 116], [116, 132]], Ob.intro (by kernel_rfl) ?_⟩
          refine fork (fun h => absurd rfl (bne_iff_ne.1 h)) (fun h => ?_)
          repeat refine same ?_
          refine callH (H := [.row (rgC g'), tabO tags g', .dead, .row [i64 n, i64 tags, .slc 6 0 (R ++ [(t, xx, m)]).length 3], .dead, .dead, .row (flat rtC (R ++ [(t, xx, m)]))]) (al1 who x hx) [0, 1, 6, 3] rfl ⟨.inl (by rw [renO_rg]; rfl), .inl rfl, .inl (by rw [renO_rt]; rfl), .inl rfl, True.intro⟩ rfl rfl (H' := [.row (rgC g'), tabO tags g', .dead, .row [i64 n, i64 tags, .slc 6 0 (R ++ [(t, xx, m)]).length 3], .dead, .dead, .row (flat rtC (R ++ [(t, xx, m)]))]) (by simp only [twoH, renH, renO_rg, renO_rt]; rfl) ?_
          repeat refine same ?_
          refine Ob.intro hb ?_
          refine optK_intro (dd_field hdd 2 (by decide) rfl) ?_
          refine Ob.intro hb ?_
          refine optK_intro (dd_field hdd 3 (by decide) rfl) ?_
          refine optK_intro (dd_field hdd 2 (by decide) rfl) ?_
          refine same ?_
          refine optK_intro (dd_field hdd 3 (by decide) rfl) ?_
          refine same ?_
          refine callH (H := [.row (rgC g'), tabO tags g', .dead, .row [i64 n, i64 tags, .slc 6 0 (R ++ [(t, xx, m)]).length 3], .dead, .dead, .row (flat rtC (R ++ [(t, xx, m)]))]) (al1 t xx hdx) [0, 1, 6, 3] rfl ⟨.inl (by rw [renO_rg]; rfl), .inl rfl, .inl (by rw [renO_rt]; rfl), .inl rfl, True.intro⟩ rfl rfl (H' := [.row (rgC g'), tabO tags g', .dead, .row [i64 n, i64 tags, .slc 6 0 (R ++ [(t, xx, m)]).length 3], .dead, .dead, .row (flat rtC (R ++ [(t, xx, m)]))]) (by simp only [twoH, renH, renO_rg, renO_rt]; rfl) ?_
          repeat refine same ?_
          refine hK ⟨(i + 1, tags, g', (R ++ [(t, xx, m)])), by show i + 1 ≤ 120; have : ((i : Nat) : Int) < 120 := h2; omega, by show tags ≤ i + 1; omega, hgo, hgl', hrel, by show ((R ++ [(t, xx, m)])).length ≤ 2 * (i + 1); rw [List.length_append]; show R.length + 1 ≤ _; omega⟩ [] [0, 1, 6, 3] _ (show 120 - i = 120 - (i + 1) + 1 by have : ((i : Nat) : Int) < 120 := h2; omega) ⟨⟨rfl, rfl, rfl, rfl, rfl, rfl, rfl, congrArg i64 hinc, True.intro⟩, ⟨.inl (by rw [renO_rg]; rfl), .inl rfl, .inl (by rw [renO_rt]; rfl), .inl rfl, True.intro⟩, rfl, rfl, rfl⟩
      · have hT' : doTags tags e k = tags := if_neg (fun hh => h0 hh.1)
        have hG' : doG tags g e k w t xx m = g := if_neg h0
        have hN' : doN tags e k xx = 0 := if_neg h0
        have hmd := doRerr_ok tags g R k w t xx m e he h0 hR (by omega)
        rw [hgn] at hmd
        rw [hT', hG', hN'] at hdo
        have al2 : ∀ (z : Int) (y : Nat), y < 18446744073709551616 → ACalls Try.prog 17 [.ptr 1 0, .ptr 3 0, i64 z, u64 y, us a, us o] (twoH n tags g R) (RetH (bo true) (twoH n tags g R)) := fun z y hy => hgn ▸ alike_ok tags g R z y a o hg hR (by omega) (by omega) (by omega) hy ho
        refine callH (H := twoH n tags g R) hdo [0, 1] rfl ⟨.inl (by rw [renO_rg]; rfl), .inl rfl, True.intro⟩ rfl rfl (H' := twoH n tags g R) (by simp only [tabH, renH, renO_rg]; rfl) ?_
        refine Ob.intro hb ?_
        refine optK_intro (dd_take hdd) ?_
        refine callH (H := twoH n tags g R) hckR [2, 3] rfl ⟨.inl (by rw [renO_rt]; rfl), .inl rfl, True.intro⟩ rfl rfl (H' := twoH n tags g R) (by simp only [refH, renH, renO_rt]; rfl) ?_
        refine Ob.intro hb ?_
        refine optK_intro (dd_take hdd) ?_
        refine callH (H := twoH n tags g R) hmd [2, 3] rfl ⟨.inl (by rw [renO_rt]; rfl), .inl rfl, True.intro⟩ rfl rfl (H' := twoH n tags g R) (by simp only [refH, renH, renO_rt]; rfl) ?_
        refine ⟨[0, 0, 0, 0, 0, 0, 0, 0, 0, 0, 0, 0, 0, 0, 0, 0, 0, 0, 0, 0, 1, 1, 1, 1, 1, 1, 1, 1, 1, 1, 1, 1, 1, 1, 1, 1, 1, 1, 2, 2, 2], [[], [], [0, 1], [0, 1, 2], [0, 1, 2, 3], [0, 1, 2, 3], [0, 1, 2, 3, 4, 5], [0, 1, 2, 3, 4, 5, 6], [0, 1, 2, 3, 4, 5, 6, 7], [0, 1, 2, 3, 4, 5, 6, 7, 8], [0, 1, 2, 3, 4, 5, 6, 7, 8], [0, 1, 2, 3, 4, 5, 6, 7, 8, 9, 10], [0, 1, 2, 3, 4, 5, 6, 7, 8, 9, 10, 11], [0, 1, 2, 3, 4, 5, 6, 7, 8, 9, 10, 11, 12], [0, 1, 2, 3, 4, 5, 6, 7, 8, 9, 10, 11, 12, 13], [0, 1, 2, 3, 4, 5, 6, 7, 8, 9, 10, 11, 12, 13], [0, 1, 2, 3, 4, 5, 6, 7, 8, 9, 10, 11, 12, 13], [0, 1, 2, 3, 4, 5, 6, 7, 8, 9, 10, 11, 12, 13], [0, 1, 2, 3, 4, 5, 6, 7, 8, 9, 10, 11, 12, 13], [0, 1, 2, 3, 4, 5, 6, 7, 8, 9, 10, 11, 12, 13], [0, 1, 2, 3, 4, 5, 6, 7, 8, 9, 10, 11, 12, 13, 14, 15, 16, 17, 18, 19], [0, 1, 2, 3, 4, 5, 6, 7, 8, 9, 10, 11, 12, 13, 14, 15, 16, 17, 18, 19, 20], [0, 1, 2, 3, 4, 5, 6, 7, 8, 9, 10, 11, 12, 13, 14, 15, 16, 17, 18, 19, 20, 21], [0, 1, 2, 3, 4, 5, 6, 7, 8, 9, 10, 11, 12, 13, 14, 15, 16, 17, 18, 19, 20, 21, 22], [0, 1, 2, 3, 4, 5, 6, 7, 8, 9, 10, 11, 12, 13, 14, 15, 16, 17, 18, 19, 20, 21, 22, 23], [0, 1, 2, 3, 4, 5, 6, 7, 8, 9, 10, 11, 12, 13, 14, 15, 16, 17, 18, 19, 20, 21, 22, 23], [0, 1, 2, 3, 4, 5, 6, 7, 8, 9, 10, 11, 12, 13, 14, 15, 16, 17, 18, 19, 20, 21, 22, 23], [0, 1, 2, 3, 4, 5, 6, 7, 8, 9, 10, 11, 12, 13, 14, 15, 16, 17, 18, 19, 20, 21, 22, 23], [0, 1, 2, 3, 4, 5, 6, 7, 8, 9, 10, 11, 12, 13, 14, 15, 16, 17, 18, 19, 20, 21, 22, 23, 26, 27], [0, 1, 2, 3, 4, 5, 6, 7, 8, 9, 10, 11, 12, 13, 14, 15, 16, 17, 18, 19, 20, 21, 22, 23, 26, 27, 28], [0, 1, 2, 3, 4, 5, 6, 7, 8, 9, 10, 11, 12, 13, 14, 15, 16, 17, 18, 19, 20, 21, 22, 23, 26, 27, 28, 29], [0, 1, 2, 3, 4, 5, 6, 7, 8, 9, 10, 11, 12, 13, 14, 15, 16, 17, 18, 19, 20, 21, 22, 23], [0, 1, 2, 3, 4, 5, 6, 7, 8, 9, 10, 11, 12, 13, 14, 15, 16, 17, 18, 19, 20, 21, 22, 23], [0, 1, 2, 3, 4, 5, 6, 7, 8, 9, 10, 11, 12, 13, 14, 15, 16, 17, 18, 19, 20, 21, 22, 23, 31, 32], [0, 1, 2, 3, 4, 5, 6, 7, 8, 9, 10, 11, 12, 13, 14, 15, 16, 17, 18, 19, 20, 21, 22, 23, 31, 32, 33], [0, 1, 2, 3, 4, 5, 6, 7, 8, 9, 10, 11, 12, 13, 14, 15, 16, 17, 18, 19, 20, 21, 22, 23, 31, 32, 33, 34], [0, 1, 2, 3, 4, 5, 6, 7, 8, 9, 10, 11, 12, 13, 14, 15, 16, 17, 18, 19, 20, 21, 22, 23], [0, 1, 2, 3, 4, 5, 6, 7, 8, 9, 10, 11, 12, 13, 14, 15, 16, 17, 18, 19, 20, 21, 22, 23], [0, 1, 2, 3, 4, 5, 6, 7, 8, 9, 10, 11, 12, 13, 14, 15, 16, 17, 18, 19, 20, 21, 22, 23, 24, 25, 26, 27, 28, 29, 30, 31, 32, 33, 34, 35, 36, 37], [0, 1, 2, 3, 4, 5, 6, 7, 8, 9, 10, 11, 12, 13, 14, 15, 16, 17, 18, 19, 20, 21, 22, 23, 24, 25, 26, 27, 28, 29, 30, 31, 32, 33, 34, 35, 36, 37, 38], [0, 1, 2, 3, 4, 5, 6, 7, 8, 9, 10, 11, 12, 13, 14, 15, 16, 17, 18, 19, 20, 21, 22, 23, 24, 25, 26, 27, 28, 29, 30, 31, 32, 33, 34, 35, 36, 37, 38, 39]], [0, 0, 0, 0, 0, 0, 0, 0, 0, 0, 0, 0, 0, 0, 0, 0, 0, 0, 0, 0, 0, 0, 0, 0, 0, 0, 0, 0, 0, 0, 0, 0, 0, 0, 0, 0, 0, 0, 0, 0, 0], [20, 38], [[17], [20], [93, 94], [95], [18, 96], [21, 96], [97, 98, 96], [96, 99], [100], [19, 101], [22, 101], [102, 103, 101], [101, 104], [105], [13, 106], [15, 106], [2, 106], [3, 106], [4, 106], [5, 106], [107, 108, 109, 110, 111, 112, 106], [113, 106], [106, 114], [115], [13, 116], [15, 116], [1, 116], [16, 116], [119, 120, 116], [121, 116], [122, 116], [1, 116], [16, 116], [124, 125, 116], [126, 116], [127, 116], [4, 116], [5, 116], [117, 118, 123, 128, 129, 130, 116], [131, 116], [116, 132]], Ob.intro (by kernel_rfl) ?_⟩
        refine fork (fun h => absurd rfl (bne_iff_ne.1 h)) (fun h => ?_)
        refine fork (fun h => absurd rfl (bne_iff_ne.1 h)) (fun h => ?_)
        repeat refine same ?_
        refine callH (H := twoH n tags g R) (al2 who x hx) [0, 1, 2, 3] rfl ⟨.inl (by rw [renO_rg]; rfl), .inl rfl, .inl (by rw [renO_rt]; rfl), .inl rfl, True.intro⟩ rfl rfl (H' := twoH n tags g R) (by simp only [twoH, renH, renO_rg, renO_rt]; rfl) ?_
        repeat refine same ?_
        refine Ob.intro hb ?_
        refine optK_intro (dd_field hdd 2 (by decide) rfl) ?_
        refine Ob.intro hb ?_
        refine optK_intro (dd_field hdd 3 (by decide) rfl) ?_
        refine optK_intro (dd_field hdd 2 (by decide) rfl) ?_
        refine same ?_
        refine optK_intro (dd_field hdd 3 (by decide) rfl) ?_
        refine same ?_
        refine callH (H := twoH n tags g R) (al2 t xx hdx) [0, 1, 2, 3] rfl ⟨.inl (by rw [renO_rg]; rfl), .inl rfl, .inl (by rw [renO_rt]; rfl), .inl rfl, True.intro⟩ rfl rfl (H' := twoH n tags g R) (by simp only [twoH, renH, renO_rg, renO_rt]; rfl) ?_
        repeat refine same ?_
        refine hK ⟨(i + 1, tags, g, R), by show i + 1 ≤ 120; have : ((i : Nat) : Int) < 120 := h2; omega, by show tags ≤ i + 1; omega, hg, hgn, hR, by show R.length ≤ 2 * (i + 1); omega⟩ [] [0, 1, 2, 3] _ (show 120 - i = 120 - (i + 1) + 1 by have : ((i : Nat) : Int) < 120 := h2; omega) ⟨⟨rfl, rfl, rfl, rfl, rfl, rfl, rfl, congrArg i64 hinc, True.intro⟩, ⟨.inl (by rw [renO_rg]; rfl), .inl rfl, .inl (by rw [renO_rt]; rfl), .inl rfl, True.intro⟩, rfl, rfl, rfl⟩
    · refine callH (H := twoH n tags g R) al0 [0, 1, 2, 3] rfl ⟨.inl (by rw [renO_rg]; rfl), .inl rfl, .inl (by rw [renO_rt]; rfl), .inl rfl, True.intro⟩ rfl rfl (H' := twoH n tags g R) (by simp only [twoH, renH, renO_rg, renO_rt]; rfl) ?_
      refine end0 rfl rfl rfl rfl
  · refine callH (H := twoH n tags g R) al0 [0, 1, 2, 3] rfl ⟨.inl (by rw [renO_rg]; rfl), .inl rfl, .inl (by rw [renO_rt]; rfl), .inl rfl, True.intro⟩ rfl rfl (H' := twoH n tags g R) (by simp only [twoH, renH, renO_rg, renO_rt]; rfl) ?_
    refine end0 rfl rfl rfl rfl
theorem capsPlays_law (l0 : List AV) (w0 : Wf (.int .i64) l0) (l1 : List AV) (w1 : Wf (.slice (.strct (.cons (.int .i64) (.cons (.int .i64) (.cons (.int .i64) (.cons (.int .u64) (.cons .bool .none))))))) l1) (l2 : List AV) (w2 : Wf (.int .i64) l2) (l3 : List AV) (w3 : Wf (.int .u64) l3) (l4 : List AV) (w4 : Wf (.slice (.int .u64)) l4) (l5 : List AV) (w5 : Wf (.slice (.int .u64)) l5) :
    ACalls Try.prog 5 [argA (.int .i64) l0, argA (.slice (.strct (.cons (.int .i64) (.cons (.int .i64) (.cons (.int .i64) (.cons (.int .u64) (.cons .bool .none))))))) l1, argA (.int .i64) l2, argA (.int .u64) l3, argA (.slice (.int .u64)) l4, argA (.slice (.int .u64)) l5] [] (Ret (.sc (.bool true))) := by
  obtain ⟨people, rfl, _⟩ := w0
  obtain ⟨L, rfl, hd, hL⟩ := wf_deeds w1
  obtain ⟨who, rfl, _⟩ := w2
  obtain ⟨x, rfl, hx⟩ := wf_nat w3
  obtain ⟨a, rfl, _⟩ := wf_nats w4
  obtain ⟨o, rfl, ho, _⟩ := wf_nats w5
  by_cases h : a.length ≤ 60 ∧ o.length ≤ 60
  · by_cases hp : people < 1 ∨ 8 < people
    · exact capsPlays_none people who x L a o h hp
    · obtain ⟨n, rfl⟩ : ∃ n : Nat, people = n := ⟨people.toNat, by omega⟩
      exact capsPlays_ok n who x L a o h (by omega) (by omega) hd ho hx
  · exact capsPlays_big people who x L a o h
end Go.Proofs.Ytofinmlloefocaa.A
