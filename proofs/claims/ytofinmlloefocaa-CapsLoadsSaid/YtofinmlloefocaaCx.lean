/- The law CapsLoads, by the functions that it calls. No condition. -/
import Derived.Test.YtofinmlloefocaaCw
namespace Go.Proofs.Ytofinmlloefocaa.A
open Go
set_option linter.unusedVariables false
set_option maxRecDepth 100000
set_option pp.maxSteps 1500

theorem capsLoads_big (tags who : Int) (p m : List Nat) (L : List Dd) (h : ¬ (p.length ≤ 60 ∧ m.length ≤ 60)) : ACalls Try.prog 7 [i64 tags, us p, us m, .view L.length (ddsC L), i64 who] [] (Ret (bo true)) := by
  refine acalls_of_awp hT mixed Try.func7 rfl (by kernel_rfl) (by kernel_rfl) (Nat.le_of_ble_eq_true rfl) ?_
  refine callP awakeC_ok rfl rfl ?_
  refine forkD (fun h1 => end0 rfl rfl rfl rfl) (fun h1 => ?_)
  refine forkD (fun h2 => end0 rfl rfl rfl rfl) (fun h2 => by omega)
theorem capsLoads_bad (tags who : Int) (p m : List Nat) (L : List Dd) (h : p.length ≤ 60 ∧ m.length ≤ 60) (hp : ∀ x ∈ p, x < 18446744073709551616) (hm : ∀ x ∈ m, x < 18446744073709551616) (hb : ¬ Loads tags p m) : ACalls Try.prog 7 [i64 tags, us p, us m, .view L.length (ddsC L), i64 who] [] (Ret (bo true)) := by
  have b1 := loadBad_ok tags p m (by omega) (by omega) hb
  have b2 : ACalls Try.prog 23 [i64 tags, us p, us m] [] (Ret (.tup [.sc (.pointer none), bo false])) := (loadM_ok tags p m hp hm (by omega) (by omega)).mono fun E G hr => by
    rcases hr with ⟨hl, _⟩ | ⟨_, h3, h4⟩
    · exact absurd hl hb
    · exact ⟨h3, h4⟩
  refine acalls_of_awp hT mixed Try.func7 rfl (by kernel_rfl) (by kernel_rfl) (Nat.le_of_ble_eq_true rfl) ?_
  refine callP awakeC_ok rfl rfl ?_
  refine forkD (fun h1 => by omega) (fun h1 => ?_)
  refine forkD (fun h2 => by omega) (fun h2 => ?_)
  refine callP b1 rfl rfl ?_
  refine callP b2 rfl rfl ?_
  refine end0 rfl rfl rfl rfl
structure LoSt (t n : Nat) : Type where
  i : Nat
  tags : Nat
  g : Rg
  R : List Rt
  hi : i ≤ 120
  hg : RgOk g
  hgn : g.length = n
  hR : Rel tags g R
  hM : MT tags g
  len : R.length ≤ 256 + 2 * i
theorem VL_nil5 {X : Ctx} {a b c d e : AV} {vs : List Value} (h : VL X [a, b, c, d, nilS, e] vs) : VL X [a, b, c, d, us [], e] vs := by
  match vs with
  | [] => simp [VL] at h
  | [_] => simp [VL] at h
  | [_, _] => simp [VL] at h
  | [_, _, _] => simp [VL] at h
  | [_, _, _, _] => simp [VL] at h
  | [_, _, _, _, _] => simp [VL] at h
  | [x, y, z, t, u, v] =>
    simp only [VL] at h ⊢
    exact ⟨h.1, h.2.1, h.2.2.1, h.2.2.2.1, VR_nilView h.2.2.2.2.1, h.2.2.2.2.2⟩
  | _ :: _ :: _ :: _ :: _ :: _ :: _ :: _ => simp [VL] at h
theorem capsLoads_ok (t n : Nat) (who : Int) (p m : List Nat) (L : List Dd) (hn : p.length = n) (h : p.length ≤ 60 ∧ m.length ≤ 60) (hp : ∀ x ∈ p, x < 18446744073709551616) (hm : ∀ x ∈ m, x < 18446744073709551616) (hl : Loads t p m) (hd : ∀ d ∈ L, d.x < 18446744073709551616) :
    ACalls Try.prog 7 [i64 t, us p, us m, .view L.length (ddsC L), i64 who] [] (Ret (bo true)) := by
  have c1 := load_ok t p m hl
  have c2 := loadM_ok t p m hp hm (by omega) (by omega)
  refine acalls_of_awp hT mixed Try.func7 rfl (by kernel_rfl) (by kernel_rfl) (Nat.le_of_ble_eq_true rfl) ?_
  refine callP awakeC_ok rfl rfl ?_
  refine forkD (fun h1 => by omega) (fun h1 => ?_)
  refine forkD (fun h2 => by omega) (fun h2 => ?_)
  refine callH c1 [] rfl True.intro rfl rfl (H' := ldH t (p.zip m)) (by simp only [ldH, renH, renO_rg]; rfl) ?_
  refine callS c2 [] True.intro rfl ?_
  rintro E G (⟨_, R, hmade, hRl, rfl, rfl⟩ | ⟨hbad, _⟩) _
  · rw [Int.toNat_natCast] at hmade hRl
    obtain ⟨hrel, hmt, hlen⟩ := rel_load hl hmade
    refine ⟨_, _, rfl, (by simp only [refH, renH, renO_rt]; rfl : merge (ldH t (p.zip m)) [] (renH (rn [] 3) (refH p.length t R)) = ldH t (p.zip m) ++ [.row (flat rtC R), .row [i64 p.length, i64 t, .slc 3 0 R.length 3]]), ?_⟩
    rw [hn] at hlen
    have hn1 : 1 ≤ n := by have := hl.1; omega
    have hn8 : n ≤ 8 := by have := hl.2.1; omega
    have ht16 := hrel.tag
    have hRl2 : R.length ≤ 256 := Nat.le_trans hRl (Nat.le_trans (Nat.mul_le_mul (Nat.mul_le_mul_left 2 ht16) (show p.length ≤ 8 by omega)) (by decide))
    have hgok : RgOk (p.zip m) := ⟨by omega, fun r hr => by
      have := hmt r hr
      have h16 : 2 ^ t ≤ 2 ^ 16 := Nat.pow_le_pow_right (by decide) ht16
      omega⟩
    generalize hg0 : p.zip m = g0 at *
    refine loopG (α := LoSt t n) (fun z => [(3, .view L.length (ddsC L)), (4, i64 who), (11, .ptr 1 0), (13, .ptr 3 0), (15, i64 (z.i : Nat))])
      (fun z => twoH n z.tags z.g z.R) [] (fun z => 120 - z.i) ⟨0, t, g0, R, Nat.zero_le _, hgok, hlen, hrel, hmt, by omega⟩ [] [1, 2, 3, 4]
      ⟨⟨rfl, rfl, rfl, rfl, rfl, True.intro⟩, ⟨.inl (by rw [renO_rg]; rfl), .inl rfl, .inl (by rw [renO_rt]; rfl), .inl (congrArg (fun z : Nat => some (AObj.row [i64 z, i64 t, .slc 3 0 R.length 3])) hn), True.intro⟩, rfl, rfl, rfl⟩ ?_
    rintro ⟨i, tags, g, R, hi, hg, hgn, hR, hM, hRl⟩ K hK
    have hinc : wrp .i64 ((i : Int) + 1) = ((i + 1 : Nat) : Int) := by rw [wrpE, wi64]; omega
    have hdec : 120 - i = 120 - (i + 1) + 1 → True := fun _ => True.intro
    have hti := hR.tag
    clear hmade hrel hmt hgok hlen
    have fin : ∀ (fr : Fr), True := fun _ => True.intro
    refine forkD (fun h1 => ?_) (fun h1 => ?_)
    · refine forkD (fun h2 => ?_) (fun h2 => ?_)
      · have h1' : i < L.length := by have : (i : Int) < (L.length : Int) := h1; omega
        have h2' : i < 120 := by have : (i : Int) < 120 := h2; omega
        obtain ⟨⟨k, w, t', xx, m'⟩, hdd⟩ : ∃ d, L[i]? = some d := ⟨_, List.getElem?_eq_getElem h1'⟩
        obtain ⟨e, he⟩ : ∃ e, checkE tags g k w t' xx m' = e := ⟨_, rfl⟩
        have hdx : xx < 18446744073709551616 := hd ⟨k, w, t', xx, m'⟩ (List.mem_of_getElem? hdd)
        have hdo := doB_ok tags g k w t' xx m' e he hg (by omega) hdx
        have hrel := rel_do hR he
        have hmt := mt_do hM he
        have hgl := doG_len tags g e k w t' xx m'
        have hgo := doG_ok hg tags e k w t' xx m'
        have hgl' : (doG tags g e k w t' xx m').length = n := by rw [hgl, hgn]
        have hb := (show (0 : Int) ≤ (i : Nat) ∧ ((i : Nat) : Int) < (L.length : Nat) by omega)
        refine Ob.intro hb ?_
        refine optK_intro (dd_take hdd) ?_
        by_cases h0 : e = 0
        · rcases check_zero (h0 ▸ he) with ⟨hk, ht, hxx, hm, how, htag⟩ | ⟨hk, how, hot, hx1, hx2, hhas, hno⟩
          · subst h0 hk ht hxx hm
            have hT' : doTags tags 0 1 = tags + 1 := rfl
            have hL' : doL tags R 0 1 w 0 0 false = R ++ [(w, tags + 1, false), (w, tags + 1, true)] := rfl
            have hmd := doMake_ok tags g R w he hR (by omega)
            rw [hgn] at hmd
            generalize hg' : doG tags g 0 _ _ _ _ _ = g' at *
            rw [hT'] at hdo hrel hmt
            rw [hL'] at hrel
            refine callH (H := twoH n tags g R) hdo [0, 1] rfl ⟨.inl (by rw [renO_rg]; rfl), .inl rfl, True.intro⟩ rfl rfl (H' := [.row (rgC g'), tabO (tags + 1) g', .row (flat rtC R), .row [i64 n, i64 tags, .slc 2 0 R.length 3]]) (by simp only [tabH, renH, renO_rg]; rfl) ?_
            refine Ob.intro hb ?_
            refine optK_intro (dd_take hdd) ?_
            refine callH (H := [.row (rgC g'), tabO (tags + 1) g', .row (flat rtC R), .row [i64 n, i64 tags, .slc 2 0 R.length 3]]) hmd [2, 3] rfl ⟨.inl (by rw [renO_rt]; rfl), .inl rfl, True.intro⟩ rfl rfl (H' := [.row (rgC g'), tabO (tags + 1) g', .dead, .row [i64 n, i64 ((tags + 1) : Nat), .slc 6 0 ((R ++ [(w, tags + 1, false), (w, tags + 1, true)])).length 3], .dead, .dead, .row (flat rtC (R ++ [(w, tags + 1, false), (w, tags + 1, true)]))]) (by simp only [refH4, renH, renO_rt]; rfl) ?_
            refine fork (fun h => absurd rfl (bne_iff_ne.1 h)) (fun h => ?_)
            refine hK ⟨i + 1, (tags + 1), g', (R ++ [(w, tags + 1, false), (w, tags + 1, true)]), by omega, hgo, hgl', hrel, hmt, by rw [List.length_append]; show R.length + 2 ≤ _; omega⟩ [] [0, 1, 6, 3] _ (show 120 - i = 120 - (i + 1) + 1 by omega) ⟨⟨rfl, rfl, rfl, rfl, congrArg i64 hinc, True.intro⟩, ⟨.inl (by rw [renO_rg]; rfl), .inl rfl, .inl (by rw [renO_rt]; rfl), .inl rfl, True.intro⟩, rfl, rfl, rfl⟩
          · subst h0 hk
            have hT' : doTags tags 0 2 = tags := rfl
            have hL' : doL tags R 0 2 w t' xx m' = R ++ [(t', xx, m')] := rfl
            have hmd := doGive_ok tags g R w t' xx m' he hR (by omega)
            rw [hgn] at hmd
            generalize hg' : doG tags g 0 _ _ _ _ _ = g' at *
            rw [hT'] at hdo hrel hmt
            rw [hL'] at hrel
            refine callH (H := twoH n tags g R) hdo [0, 1] rfl ⟨.inl (by rw [renO_rg]; rfl), .inl rfl, True.intro⟩ rfl rfl (H' := [.row (rgC g'), tabO tags g', .row (flat rtC R), .row [i64 n, i64 tags, .slc 2 0 R.length 3]]) (by simp only [tabH, renH, renO_rg]; rfl) ?_
            refine Ob.intro hb ?_
            refine optK_intro (dd_take hdd) ?_
            refine callH (H := [.row (rgC g'), tabO tags g', .row (flat rtC R), .row [i64 n, i64 tags, .slc 2 0 R.length 3]]) hmd [2, 3] rfl ⟨.inl (by rw [renO_rt]; rfl), .inl rfl, True.intro⟩ rfl rfl (H' := [.row (rgC g'), tabO tags g', .dead, .row [i64 n, i64 (tags : Nat), .slc 6 0 ((R ++ [(t', xx, m')])).length 3], .dead, .dead, .row (flat rtC (R ++ [(t', xx, m')]))]) (by simp only [refH4, renH, renO_rt]; rfl) ?_
            refine fork (fun h => absurd rfl (bne_iff_ne.1 h)) (fun h => ?_)
            refine hK ⟨i + 1, tags, g', (R ++ [(t', xx, m')]), by omega, hgo, hgl', hrel, hmt, by rw [List.length_append]; show R.length + 1 ≤ _; omega⟩ [] [0, 1, 6, 3] _ (show 120 - i = 120 - (i + 1) + 1 by omega) ⟨⟨rfl, rfl, rfl, rfl, congrArg i64 hinc, True.intro⟩, ⟨.inl (by rw [renO_rg]; rfl), .inl rfl, .inl (by rw [renO_rt]; rfl), .inl rfl, True.intro⟩, rfl, rfl, rfl⟩
        · have hT' : doTags tags e k = tags := if_neg (fun hh => h0 hh.1)
          have hG' : doG tags g e k w t' xx m' = g := if_neg h0
          have hN' : doN tags e k xx = 0 := if_neg h0
          have hmd := doRerr_ok tags g R k w t' xx m' e he h0 hR (by omega)
          rw [hgn] at hmd
          rw [hT', hG', hN'] at hdo
          refine callH (H := twoH n tags g R) hdo [0, 1] rfl ⟨.inl (by rw [renO_rg]; rfl), .inl rfl, True.intro⟩ rfl rfl (H' := twoH n tags g R) (by simp only [tabH, renH, renO_rg]; rfl) ?_
          refine Ob.intro hb ?_
          refine optK_intro (dd_take hdd) ?_
          refine callH (H := twoH n tags g R) hmd [2, 3] rfl ⟨.inl (by rw [renO_rt]; rfl), .inl rfl, True.intro⟩ rfl rfl (H' := twoH n tags g R) (by simp only [refH, renH, renO_rt]; rfl) ?_
          refine fork (fun h => absurd rfl (bne_iff_ne.1 h)) (fun h => ?_)
          refine hK ⟨i + 1, tags, g, R, by omega, hg, hgn, hR, hM, by omega⟩ [] [0, 1, 2, 3] _ (show 120 - i = 120 - (i + 1) + 1 by omega) ⟨⟨rfl, rfl, rfl, rfl, congrArg i64 hinc, True.intro⟩, ⟨.inl (by rw [renO_rg]; rfl), .inl rfl, .inl (by rw [renO_rt]; rfl), .inl rfl, True.intro⟩, rfl, rfl, rfl⟩
      · have ld := load_ok tags (plusL g) (minusL g) (loads_masks hM (by omega) hg.1 hti)
        rw [zip_masks] at ld
        refine callH (H := twoH n tags g R) (masks_ok tags g (by omega) hg.1) [0, 1] rfl ⟨.inl (by rw [renO_rg]; rfl), .inl rfl, True.intro⟩ rfl rfl (H' := twoH n tags g R) (by simp only [tabH, renH, renO_rg]; rfl) ?_
        refine callH (H := twoH n tags g R) (tags_ok tags g) [0, 1] rfl ⟨.inl (by rw [renO_rg]; rfl), .inl rfl, True.intro⟩ rfl rfl (H' := twoH n tags g R) (by simp only [tabH, renH, renO_rg]; rfl) ?_
        refine callH (H := twoH n tags g R) ld [] rfl True.intro rfl rfl (H' := twoH n tags g R ++ [.dead, .row (rgC g), .row [i64 tags, .slc 5 0 g.length 2]]) (by simp only [ldH, renH, renO_rg]; rfl) ?_
        have pln := plusL_len g
        have mln := minusL_len g
        refine loopI (α := { k : Nat // k ≤ n }) (fun k => [(4, i64 who), (11, .ptr 1 0), (13, .ptr 3 0), (20, us (plusL g)), (21, us (minusL g)), (22, .ptr 5 0), (23, i64 0), (24, i64 (k.val : Nat))]) (fun _ => twoH n tags g R ++ [AObj.row (rgC g), AObj.row [i64 tags, .slc 4 0 g.length 2]]) (fun k => n - k.val) ⟨0, Nat.zero_le _⟩ [0, 1, 2, 3, 5, 6] ⟨⟨rfl, rfl, rfl, rfl, rfl, rfl, rfl, rfl, True.intro⟩, ⟨.inl (by rw [renO_rg]; rfl), .inl rfl, .inl (by rw [renO_rt]; rfl), .inl rfl, .inl (by rw [renO_rg]; rfl), .inl rfl, True.intro⟩, rfl, rfl, rfl⟩ ?_
        rintro ⟨j, hj⟩ K2 hK2
        have hincJ : wrp .i64 ((j : Int) + 1) = ((j + 1 : Nat) : Int) := by rw [wrpE, wi64]; omega
        refine forkD (fun h3 => ?_) (fun h3 => ?_)
        · have h3' : j < n := by have : (j : Int) < (n : Int) := h3; omega
          obtain ⟨r, hr⟩ : ∃ r, g[j]? = some r := ⟨_, List.getElem?_eq_getElem (by omega)⟩
          have hr1 : (plusL g)[j]? = some r.1 := by rw [plusL, List.getElem?_map, hr]; rfl
          have hr2 : (minusL g)[j]? = some r.2 := by rw [minusL, List.getElem?_map, hr]; rfl
          have bp := (show (0 : Int) ≤ (j : Nat) ∧ ((j : Nat) : Int) < ((plusL g).length : Nat) by omega)
          have bm := (show (0 : Int) ≤ (j : Nat) ∧ ((j : Nat) : Int) < ((minusL g).length : Nat) by omega)
          have hrm := hM r (List.mem_of_getElem? hr)
          have h16 : 2 ^ tags ≤ 2 ^ 16 := Nat.pow_le_pow_right (by decide) hti
          have hone : oneT g (j : Int) = true := decide_eq_true ⟨by omega, by omega⟩
          have hmo : ∀ c, maskOf g (j : Int) c = if c = true then r.2 else r.1 := fun c => by
            unfold maskOf
            rw [Int.toNat_natCast, hr]
            rfl
          have hbits : ∀ c k, k < 16 → decide (((j : Int), k + 1, c) ∈ R) = (if c = true then r.2 else r.1).testBit k := fun c k hk => by
            rw [← hR.same (j : Int) (k + 1) c hone]
            unfold hasR
            rw [hasS_bit, hmo, decide_eq_true (by omega), Bool.true_and, Nat.add_sub_cancel]
          have m1 := mask_ok n tags R (j : Int) false r.1 (by omega) (by omega) (hbits false)
          have m2 := mask_ok n tags R (j : Int) true r.2 (by omega) (by omega) (hbits true)
          refine ⟨[0, 0, 0, 0, 0, 0, 1, 1, 1, 1, 1, 1, 1, 1, 1, 2, 2, 2], [[], [], [0, 1], [0, 1, 2], [], [], [4, 5], [0, 1, 2, 3, 4, 5, 6], [0, 1, 2, 3, 4, 5, 6, 7], [0, 1, 2, 3, 4, 5, 6, 7, 8], [0, 1, 2, 3, 4, 5, 6, 7, 8], [0, 1, 2, 3, 4, 5, 6, 7, 8, 9, 10], [0, 1, 2, 3, 4, 5, 6, 7, 8, 9, 10, 11], [0, 1, 2, 3, 4, 5, 6, 7, 8], [0, 1, 2, 3, 4, 5, 6, 7, 8], [0, 1, 2, 3, 4, 5, 6, 7, 8, 13, 14], [0, 1, 2, 3, 4, 5, 6, 7, 8, 9, 10, 11, 12, 13, 14, 15], [0, 1, 2, 3, 4, 5, 6, 7, 8, 9, 10, 11, 12, 13, 14, 15, 16]], [0, 0, 0, 0, 0, 0, 0, 0, 0, 0, 0, 0, 0, 0, 0, 0, 0, 0], [6, 15], [[20], [24], [116, 117], [118], [13], [24], [120, 121], [119, 122], [123], [21, 124], [24, 124], [125, 126, 124], [127, 124], [13, 124], [24, 124], [129, 130, 124], [128, 131, 124], [124, 132]], Ob.intro (by kernel_rfl) ?_⟩
          refine Ob.intro bp ?_
          refine optK_intro (nth_map hr1) ?_
          refine optK_intro (nth_map hr1) ?_
          refine same ?_
          refine callH (H := twoH n tags g R ++ [AObj.row (rgC g), AObj.row [i64 tags, .slc 4 0 g.length 2]]) m1 [2, 3] rfl ⟨.inl (by rw [renO_rt]; rfl), .inl rfl, True.intro⟩ rfl rfl (H' := twoH n tags g R ++ [AObj.row (rgC g), AObj.row [i64 tags, .slc 4 0 g.length 2]]) (by simp only [refH, renH, renO_rt]; rfl) ?_
          refine fork (fun h => absurd rfl (bne_iff_ne.1 h)) (fun h => ?_)
          refine Ob.intro bm ?_
          refine optK_intro (nth_map hr2) ?_
          repeat first | refine same ?_ | refine optK_intro (nth_map hr1) ?_ | refine optK_intro (nth_map hr2) ?_
          refine callH (H := twoH n tags g R ++ [AObj.row (rgC g), AObj.row [i64 tags, .slc 4 0 g.length 2]]) m2 [2, 3] rfl ⟨.inl (by rw [renO_rt]; rfl), .inl rfl, True.intro⟩ rfl rfl (H' := twoH n tags g R ++ [AObj.row (rgC g), AObj.row [i64 tags, .slc 4 0 g.length 2]]) (by simp only [refH, renH, renO_rt]; rfl) ?_
          refine fork (fun h => absurd rfl (bne_iff_ne.1 h)) (fun h => ?_)
          repeat first | refine same ?_ | refine optK_intro (nth_map hr1) ?_ | refine optK_intro (nth_map hr2) ?_
          refine hK2 ⟨j + 1, h3'⟩ [0, 1, 2, 3, 4, 5] _ (show n - j = n - (j + 1) + 1 by omega) ⟨⟨rfl, rfl, rfl, rfl, rfl, rfl, rfl, congrArg i64 hincJ, True.intro⟩, ⟨.inl (by rw [renO_rg]; rfl), .inl rfl, .inl (by rw [renO_rt]; rfl), .inl rfl, .inl (by rw [renO_rg]; rfl), .inl rfl, True.intro⟩, rfl, rfl, rfl⟩
        · refine fork (fun h5 => ?_) (fun h5 => absurd (show (((plusL g).length : Nat) : Int) = (n : Nat) by omega) (by simpa using h5))
          have al : ACalls Try.prog 17 [.ptr 1 0, .ptr 3 0, i64 who, u64 1, nilS, us [1]] (twoH n tags g R) (RetH (bo true) (twoH n tags g R)) := by
            have := alike_ok tags g R who 1 [] [1] hg hR (by omega) (by decide) (by decide) (by decide) (by decide)
            rw [hgn] at this
            exact this.weaken fun X vs hv => VL_nil5 hv
          have al1 : ACalls Try.prog 17 [.ptr 1 0, .ptr 3 0, i64 who, u64 1, nilS, us [1]] (deadFrom (twoH n tags g R ++ [AObj.row (rgC g), AObj.row [i64 tags, .slc 4 0 g.length 2], AObj.row [u64 1]]) 6) (RetH (bo true) (deadFrom (twoH n tags g R ++ [AObj.row (rgC g), AObj.row [i64 tags, .slc 4 0 g.length 2], AObj.row [u64 1]]) 6)) :=
            callHR al [0, 1, 2, 3] rfl ⟨.inl (by rw [renO_rg]; rfl), .inl rfl, .inl (by rw [renO_rt]; rfl), .inl rfl, True.intro⟩ rfl rfl (by simp only [twoH, renH, renO_rg, renO_rt]; rfl)
          have al2 : ACalls Try.prog 17 [.ptr 5 0, .ptr 3 0, i64 who, u64 1, nilS, us [1]] (deadFrom (twoH n tags g R ++ [AObj.row (rgC g), AObj.row [i64 tags, .slc 4 0 g.length 2], AObj.row [u64 1], AObj.row [u64 1]]) 6) (RetH (bo true) (deadFrom (twoH n tags g R ++ [AObj.row (rgC g), AObj.row [i64 tags, .slc 4 0 g.length 2], AObj.row [u64 1], AObj.row [u64 1]]) 6)) :=
            callHR al [4, 5, 2, 3] rfl ⟨.inl (by rw [renO_rg]; rfl), .inl rfl, .inl (by rw [renO_rt]; rfl), .inl rfl, True.intro⟩ rfl rfl (by simp only [twoH, renH, renO_rg, renO_rt]; rfl)
          have nv : ∀ T, noViewH T = true → noViewH (twoH n tags g R ++ [AObj.row (rgC g), AObj.row [i64 tags, .slc 4 0 g.length 2]] ++ T) = true := fun T hT => by
            show (bif noViewL (rgC g) then (bif true then (bif noViewL (flat rtC R) then (bif true then (bif noViewL (rgC g) then (bif true then noViewH T else false) else false) else false) else false) else false) else false) = true
            rw [noView_rg, noViewL_flat (fun _ => rfl), hT]
            rfl
          refine callK (H := (twoH n tags g R ++ [AObj.row (rgC g), AObj.row [i64 tags, .slc 4 0 g.length 2], AObj.row [u64 1]])) 6 rfl al1 rfl (nv _ rfl) ?_
          refine callK (H := (twoH n tags g R ++ [AObj.row (rgC g), AObj.row [i64 tags, .slc 4 0 g.length 2], AObj.row [u64 1], AObj.row [u64 1]])) 6 rfl al2 rfl (nv _ rfl) ?_
          refine end0 rfl rfl rfl rfl
    · have ld := load_ok tags (plusL g) (minusL g) (loads_masks hM (by omega) hg.1 hti)
      rw [zip_masks] at ld
      refine callH (H := twoH n tags g R) (masks_ok tags g (by omega) hg.1) [0, 1] rfl ⟨.inl (by rw [renO_rg]; rfl), .inl rfl, True.intro⟩ rfl rfl (H' := twoH n tags g R) (by simp only [tabH, renH, renO_rg]; rfl) ?_
      refine callH (H := twoH n tags g R) (tags_ok tags g) [0, 1] rfl ⟨.inl (by rw [renO_rg]; rfl), .inl rfl, True.intro⟩ rfl rfl (H' := twoH n tags g R) (by simp only [tabH, renH, renO_rg]; rfl) ?_
      refine callH (H := twoH n tags g R) ld [] rfl True.intro rfl rfl (H' := twoH n tags g R ++ [.dead, .row (rgC g), .row [i64 tags, .slc 5 0 g.length 2]]) (by simp only [ldH, renH, renO_rg]; rfl) ?_
      have pln := plusL_len g
      have mln := minusL_len g
      refine loopI (α := { k : Nat // k ≤ n }) (fun k => [(4, i64 who), (11, .ptr 1 0), (13, .ptr 3 0), (20, us (plusL g)), (21, us (minusL g)), (22, .ptr 5 0), (23, i64 0), (24, i64 (k.val : Nat))]) (fun _ => twoH n tags g R ++ [AObj.row (rgC g), AObj.row [i64 tags, .slc 4 0 g.length 2]]) (fun k => n - k.val) ⟨0, Nat.zero_le _⟩ [0, 1, 2, 3, 5, 6] ⟨⟨rfl, rfl, rfl, rfl, rfl, rfl, rfl, rfl, True.intro⟩, ⟨.inl (by rw [renO_rg]; rfl), .inl rfl, .inl (by rw [renO_rt]; rfl), .inl rfl, .inl (by rw [renO_rg]; rfl), .inl rfl, True.intro⟩, rfl, rfl, rfl⟩ ?_
      rintro ⟨j, hj⟩ K2 hK2
      have hincJ : wrp .i64 ((j : Int) + 1) = ((j + 1 : Nat) : Int) := by rw [wrpE, wi64]; omega
      refine forkD (fun h3 => ?_) (fun h3 => ?_)
      · have h3' : j < n := by have : (j : Int) < (n : Int) := h3; omega
        obtain ⟨r, hr⟩ : ∃ r, g[j]? = some r := ⟨_, List.getElem?_eq_getElem (by omega)⟩
        have hr1 : (plusL g)[j]? = some r.1 := by rw [plusL, List.getElem?_map, hr]; rfl
        have hr2 : (minusL g)[j]? = some r.2 := by rw [minusL, List.getElem?_map, hr]; rfl
        have bp := (show (0 : Int) ≤ (j : Nat) ∧ ((j : Nat) : Int) < ((plusL g).length : Nat) by omega)
        have bm := (show (0 : Int) ≤ (j : Nat) ∧ ((j : Nat) : Int) < ((minusL g).length : Nat) by omega)
        have hrm := hM r (List.mem_of_getElem? hr)
        have h16 : 2 ^ tags ≤ 2 ^ 16 := Nat.pow_le_pow_right (by decide) hti
        have hone : oneT g (j : Int) = true := decide_eq_true ⟨by omega, by omega⟩
        have hmo : ∀ c, maskOf g (j : Int) c = if c = true then r.2 else r.1 := fun c => by
          unfold maskOf
          rw [Int.toNat_natCast, hr]
          rfl
        have hbits : ∀ c k, k < 16 → decide (((j : Int), k + 1, c) ∈ R) = (if c = true then r.2 else r.1).testBit k := fun c k hk => by
          rw [← hR.same (j : Int) (k + 1) c hone]
          unfold hasR
          rw [hasS_bit, hmo, decide_eq_true (by omega), Bool.true_and, Nat.add_sub_cancel]
        have m1 := mask_ok n tags R (j : Int) false r.1 (by omega) (by omega) (hbits false)
        have m2 := mask_ok n tags R (j : Int) true r.2 (by omega) (by omega) (hbits true)
        refine ⟨[0, 0, 0, 0, 0, 0, 1, 1, 1, 1, 1, 1, 1, 1, 1, 2, 2, 2], [[], [], [0, 1], [0, 1, 2], [], [], [4, 5], [0, 1, 2, 3, 4, 5, 6], [0, 1, 2, 3, 4, 5, 6, 7], [0, 1, 2, 3, 4, 5, 6, 7, 8], [0, 1, 2, 3, 4, 5, 6, 7, 8], [0, 1, 2, 3, 4, 5, 6, 7, 8, 9, 10], [0, 1, 2, 3, 4, 5, 6, 7, 8, 9, 10, 11], [0, 1, 2, 3, 4, 5, 6, 7, 8], [0, 1, 2, 3, 4, 5, 6, 7, 8], [0, 1, 2, 3, 4, 5, 6, 7, 8, 13, 14], [0, 1, 2, 3, 4, 5, 6, 7, 8, 9, 10, 11, 12, 13, 14, 15], [0, 1, 2, 3, 4, 5, 6, 7, 8, 9, 10, 11, 12, 13, 14, 15, 16]], [0, 0, 0, 0, 0, 0, 0, 0, 0, 0, 0, 0, 0, 0, 0, 0, 0, 0], [6, 15], [[20], [24], [116, 117], [118], [13], [24], [120, 121], [119, 122], [123], [21, 124], [24, 124], [125, 126, 124], [127, 124], [13, 124], [24, 124], [129, 130, 124], [128, 131, 124], [124, 132]], Ob.intro (by kernel_rfl) ?_⟩
        refine Ob.intro bp ?_
        refine optK_intro (nth_map hr1) ?_
        refine optK_intro (nth_map hr1) ?_
        refine same ?_
        refine callH (H := twoH n tags g R ++ [AObj.row (rgC g), AObj.row [i64 tags, .slc 4 0 g.length 2]]) m1 [2, 3] rfl ⟨.inl (by rw [renO_rt]; rfl), .inl rfl, True.intro⟩ rfl rfl (H' := twoH n tags g R ++ [AObj.row (rgC g), AObj.row [i64 tags, .slc 4 0 g.length 2]]) (by simp only [refH, renH, renO_rt]; rfl) ?_
        refine fork (fun h => absurd rfl (bne_iff_ne.1 h)) (fun h => ?_)
        refine Ob.intro bm ?_
        refine optK_intro (nth_map hr2) ?_
        repeat first | refine same ?_ | refine optK_intro (nth_map hr1) ?_ | refine optK_intro (nth_map hr2) ?_
        refine callH (H := twoH n tags g R ++ [AObj.row (rgC g), AObj.row [i64 tags, .slc 4 0 g.length 2]]) m2 [2, 3] rfl ⟨.inl (by rw [renO_rt]; rfl), .inl rfl, True.intro⟩ rfl rfl (H' := twoH n tags g R ++ [AObj.row (rgC g), AObj.row [i64 tags, .slc 4 0 g.length 2]]) (by simp only [refH, renH, renO_rt]; rfl) ?_
        refine fork (fun h => absurd rfl (bne_iff_ne.1 h)) (fun h => ?_)
        repeat first | refine same ?_ | refine optK_intro (nth_map hr1) ?_ | refine optK_intro (nth_map hr2) ?_
        refine hK2 ⟨j + 1, h3'⟩ [0, 1, 2, 3, 4, 5] _ (show n - j = n - (j + 1) + 1 by omega) ⟨⟨rfl, rfl, rfl, rfl, rfl, rfl, rfl, congrArg i64 hincJ, True.intro⟩, ⟨.inl (by rw [renO_rg]; rfl), .inl rfl, .inl (by rw [renO_rt]; rfl), .inl rfl, .inl (by rw [renO_rg]; rfl), .inl rfl, True.intro⟩, rfl, rfl, rfl⟩
      · refine fork (fun h5 => ?_) (fun h5 => absurd (show (((plusL g).length : Nat) : Int) = (n : Nat) by omega) (by simpa using h5))
        have al : ACalls Try.prog 17 [.ptr 1 0, .ptr 3 0, i64 who, u64 1, nilS, us [1]] (twoH n tags g R) (RetH (bo true) (twoH n tags g R)) := by
          have := alike_ok tags g R who 1 [] [1] hg hR (by omega) (by decide) (by decide) (by decide) (by decide)
          rw [hgn] at this
          exact this.weaken fun X vs hv => VL_nil5 hv
        have al1 : ACalls Try.prog 17 [.ptr 1 0, .ptr 3 0, i64 who, u64 1, nilS, us [1]] (deadFrom (twoH n tags g R ++ [AObj.row (rgC g), AObj.row [i64 tags, .slc 4 0 g.length 2], AObj.row [u64 1]]) 6) (RetH (bo true) (deadFrom (twoH n tags g R ++ [AObj.row (rgC g), AObj.row [i64 tags, .slc 4 0 g.length 2], AObj.row [u64 1]]) 6)) :=
          callHR al [0, 1, 2, 3] rfl ⟨.inl (by rw [renO_rg]; rfl), .inl rfl, .inl (by rw [renO_rt]; rfl), .inl rfl, True.intro⟩ rfl rfl (by simp only [twoH, renH, renO_rg, renO_rt]; rfl)
        have al2 : ACalls Try.prog 17 [.ptr 5 0, .ptr 3 0, i64 who, u64 1, nilS, us [1]] (deadFrom (twoH n tags g R ++ [AObj.row (rgC g), AObj.row [i64 tags, .slc 4 0 g.length 2], AObj.row [u64 1], AObj.row [u64 1]]) 6) (RetH (bo true) (deadFrom (twoH n tags g R ++ [AObj.row (rgC g), AObj.row [i64 tags, .slc 4 0 g.length 2], AObj.row [u64 1], AObj.row [u64 1]]) 6)) :=
          callHR al [4, 5, 2, 3] rfl ⟨.inl (by rw [renO_rg]; rfl), .inl rfl, .inl (by rw [renO_rt]; rfl), .inl rfl, True.intro⟩ rfl rfl (by simp only [twoH, renH, renO_rg, renO_rt]; rfl)
        have nv : ∀ T, noViewH T = true → noViewH (twoH n tags g R ++ [AObj.row (rgC g), AObj.row [i64 tags, .slc 4 0 g.length 2]] ++ T) = true := fun T hT => by
          show (bif noViewL (rgC g) then (bif true then (bif noViewL (flat rtC R) then (bif true then (bif noViewL (rgC g) then (bif true then noViewH T else false) else false) else false) else false) else false) else false) = true
          rw [noView_rg, noViewL_flat (fun _ => rfl), hT]
          rfl
        refine callK (H := (twoH n tags g R ++ [AObj.row (rgC g), AObj.row [i64 tags, .slc 4 0 g.length 2], AObj.row [u64 1]])) 6 rfl al1 rfl (nv _ rfl) ?_
        refine callK (H := (twoH n tags g R ++ [AObj.row (rgC g), AObj.row [i64 tags, .slc 4 0 g.length 2], AObj.row [u64 1], AObj.row [u64 1]])) 6 rfl al2 rfl (nv _ rfl) ?_
        refine end0 rfl rfl rfl rfl
  · exact absurd hl hbad
theorem capsLoads_law (l0 : List AV) (w0 : Wf (.int .i64) l0) (l1 : List AV) (w1 : Wf (.slice (.int .u64)) l1) (l2 : List AV) (w2 : Wf (.slice (.int .u64)) l2) (l3 : List AV) (w3 : Wf (.slice (.strct (.cons (.int .i64) (.cons (.int .i64) (.cons (.int .i64) (.cons (.int .u64) (.cons .bool .none))))))) l3) (l4 : List AV) (w4 : Wf (.int .i64) l4) :
    ACalls Try.prog 7 [argA (.int .i64) l0, argA (.slice (.int .u64)) l1, argA (.slice (.int .u64)) l2, argA (.slice (.strct (.cons (.int .i64) (.cons (.int .i64) (.cons (.int .i64) (.cons (.int .u64) (.cons .bool .none))))))) l3, argA (.int .i64) l4] [] (Ret (.sc (.bool true))) := by
  obtain ⟨tags, rfl, _⟩ := w0
  obtain ⟨p, rfl, hp, _⟩ := wf_nats w1
  obtain ⟨m, rfl, hm, _⟩ := wf_nats w2
  obtain ⟨L, rfl, hd, hL⟩ := wf_deeds w3
  obtain ⟨who, rfl, _⟩ := w4
  by_cases h : p.length ≤ 60 ∧ m.length ≤ 60
  · by_cases hl : Loads tags p m
    · obtain ⟨t, rfl⟩ : ∃ t : Nat, tags = t := ⟨tags.toNat, by have := hl.2.2.2.1; omega⟩
      exact capsLoads_ok t p.length who p m L rfl h hp hm hl hd
    · exact capsLoads_bad tags who p m L h hp hm hl
  · exact capsLoads_big tags who p m L h
end Go.Proofs.Ytofinmlloefocaa.A
