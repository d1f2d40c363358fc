/- record: RecordRights. No condition. -/
import Derived.Test.YtkbpddejafdmdaaRs
import Derived.Test.YtkbpddejafdmdaaRn
namespace Go.Proofs.Ytkbpddejafdmdaa.A
open Go
set_option linter.unusedVariables false
set_option linter.unusedSimpArgs false
set_option maxRecDepth 100000
set_option pp.maxSteps 400

theorem unr_inv {tags : Nat} {g : Rg} (ht : tags ≤ 16) (h1 : 1 ≤ g.length) (hg : RgOk g) (hM : MT tags g) : unrP (BA (rgB tags g)) = some (tags, g) := by
  have e : BA (rgB tags g) = BA (5 :: numN tags) ++ BA (g.flatMap prB) := by rw [BA_append]; rfl
  unfold unrP
  rw [e, hd_inv (by decide) (by omega)]
  dsimp only
  rw [rest_append, many_invR g hg.2 _ (Nat.le_refl _)]
  show (if loadsB tags g = true then some (tags, g) else none) = _
  rw [if_pos (show loadsB tags g = true from @decide_eq_true _ (Classical.propDecidable _) (loads_masks hM h1 hg.1 ht))]
structure RtSt17 (n : Nat) : Type where
  i : Nat
  tags : Nat
  g : Rg
  R : List Rt
  hi : i ≤ 100
  hg : RgOk g
  hgn : g.length = n
  hR : Rel tags g R
  hM : MT tags g
  len : R.length ≤ 256 + 2 * i
theorem mt_new (n : Nat) : MT 0 (nobody n) := fun r hr => by
  rw [List.eq_of_mem_replicate hr]
  exact ⟨by decide, by decide⟩
theorem rights_none (people : Int) (L : List Dd) (hp : people < 1 ∨ 8 < people) (z : ByteArray) (hz : strEq z ⟨#[]⟩ = true) (h1 : ACalls Try.prog 23 [.sc (.pointer none)] [] (Ret (.tup [str z, i64 2]))) : ACalls Try.prog 6 [i64 people, .view L.length (ddsC L)] [] (Ret (bo true)) := by
  refine acalls_of_awp hT mixed Try.func6 rfl (by kernel_rfl) (by kernel_rfl) (Nat.le_of_ble_eq_true rfl) ?_
  refine callP awakeR_ok rfl rfl ?_
  refine callP (newBad_ok people hp) rfl rfl ?_
  refine callP h1 rfl rfl ?_
  refine fork (fun _ => ?_) (fun g => absurd hz (by rw [g]; decide))
  refine end0 rfl rfl rfl rfl
set_option maxHeartbeats 2000000 in
theorem recordRights_ok (n : Nat) (L : List Dd) (hp1 : 1 ≤ n) (hp8 : n ≤ 8) (hd : ∀ d ∈ L, d.x < 18446744073709551616) : ACalls Try.prog 6 [i64 (n : Nat), .view L.length (ddsC L)] [] (Ret (bo true)) := by
  refine acalls_of_awp hT mixed Try.func6 rfl (by kernel_rfl) (by kernel_rfl) (Nat.le_of_ble_eq_true rfl) ?_
  refine callP awakeR_ok rfl rfl ?_
  refine callH (new_ok n hp1 hp8) [] rfl True.intro rfl rfl (H' := tabH 0 (nobody n)) (by simp only [tabH, renH, renO_rg]; rfl) ?_
  refine loopG (α := RtSt17 n) (fun z => [(0, i64 (n : Nat)), (1, .view L.length (ddsC L)), (5, .ptr 1 0), (9, .ptr 3 0), (10, i64 (z.i : Nat))])
    (fun z => twoH n z.tags z.g z.R) [] (fun z => 100 - z.i)
    ⟨0, 0, nobody n, [], Nat.zero_le _, ⟨by rw [nobody_len]; exact hp8, fun r hr => by rw [List.eq_of_mem_replicate hr]; decide⟩, nobody_len n, rel_new n, mt_new n, by simp⟩ [.cell 2 2 3] [0, 1, 3, 2]
    ⟨⟨rfl, rfl, rfl, rfl, rfl, True.intro⟩, ⟨.inl (by rw [renO_rg]; rfl), .inl rfl, .inl rfl, .inl rfl, True.intro⟩, rfl, rfl, rfl⟩ ?_
  rintro ⟨i, tags, g, R, hi, hg, hgn, hR, hM, hRl⟩ K hK
  have hinc : wrp .i64 ((i : Int) + 1) = ((i + 1 : Nat) : Int) := by rw [wrpE, wi64]; omega
  have hti := hR.tag
  refine forkD (fun h1 => ?_) (fun h1 => ?_)
  · refine forkD (fun h2 => ?_) (fun h2 => ?_)
    · have h1' : i < L.length := by have : (i : Int) < (L.length : Int) := h1; omega
      have h2' : i < 100 := by have : (i : Int) < 100 := h2; omega
      obtain ⟨⟨k, w, t', xx, m'⟩, hdd⟩ : ∃ d, L[i]? = some d := ⟨_, List.getElem?_eq_getElem h1'⟩
      obtain ⟨e, he⟩ : ∃ e, checkE tags g k w t' xx m' = e := ⟨_, rfl⟩
      have hdx : xx < 18446744073709551616 := hd ⟨k, w, t', xx, m'⟩ (List.mem_of_getElem? hdd)
      have hdo := doB_ok tags g k w t' xx m' e he hg (by omega) hdx
      have hrel := rel_do hR he
      have hmt := mt_do hM he
      have hgl := doG_len tags g e k w t' xx m'
      have hgo := doG_ok hg tags e k w t' xx m'
      have hgl' : (doG tags g e k w t' xx m').length = n := by rw [hgl, hgn]
      have hb := (show (0 : Int) ≤ (i : Nat) ∧ ((i : Nat) : Int) < (L.length : Nat) by omega)
      refine Ob.intro hb ?_
      refine optK_intro (dd_take hdd) ?_
      by_cases h0 : e = 0
      · rcases check_zero (h0 ▸ he) with ⟨hk, ht, hxx, hm, how, htag⟩ | ⟨hk, how, hot, hx1, hx2, hhas, hno⟩
        · subst h0 hk ht hxx hm
          have hT' : doTags tags 0 1 = tags + 1 := rfl
          have hL' : doL tags R 0 1 w 0 0 false = R ++ [(w, tags + 1, false), (w, tags + 1, true)] := rfl
          have hmd := doMake_ok tags g R w he hR (by omega)
          rw [hgn] at hmd
          generalize hg' : doG tags g 0 _ _ _ _ _ = g' at *
          rw [hT'] at hdo hrel hmt
          rw [hL'] at hrel
          refine callH (H := twoH n tags g R) hdo [0, 1] rfl ⟨.inl (by rw [renO_rg]; rfl), .inl rfl, True.intro⟩ rfl rfl (H' := [.row (rgC g'), tabO (tags + 1) g', .row (flat rtC R), .row [i64 n, i64 tags, .slc 2 0 R.length 3]]) (by simp only [tabH, renH, renO_rg]; rfl) ?_
          refine Ob.intro hb ?_
          refine optK_intro (dd_take hdd) ?_
          refine callH (H := [.row (rgC g'), tabO (tags + 1) g', .row (flat rtC R), .row [i64 n, i64 tags, .slc 2 0 R.length 3]]) hmd [2, 3] rfl ⟨.inl (by rw [renO_rt]; rfl), .inl rfl, True.intro⟩ rfl rfl (H' := [.row (rgC g'), tabO (tags + 1) g', .dead, .row [i64 n, i64 ((tags + 1) : Nat), .slc 6 0 ((R ++ [(w, tags + 1, false), (w, tags + 1, true)])).length 3], .dead, .dead, .row (flat rtC (R ++ [(w, tags + 1, false), (w, tags + 1, true)]))]) (by simp only [refH4, renH, renO_rt]; rfl) ?_
          refine hK ⟨i + 1, (tags + 1), g', (R ++ [(w, tags + 1, false), (w, tags + 1, true)]), by omega, hgo, hgl', hrel, hmt, by rw [List.length_append]; show R.length + 2 ≤ _; omega⟩ [] [0, 1, 6, 3] _ (show 100 - i = 100 - (i + 1) + 1 by omega) ⟨⟨rfl, rfl, rfl, rfl, congrArg i64 hinc, True.intro⟩, ⟨.inl (by rw [renO_rg]; rfl), .inl rfl, .inl (by rw [renO_rt]; rfl), .inl rfl, True.intro⟩, rfl, rfl, rfl⟩
        · subst h0 hk
          have hT' : doTags tags 0 2 = tags := rfl
          have hL' : doL tags R 0 2 w t' xx m' = R ++ [(t', xx, m')] := rfl
          have hmd := doGive_ok tags g R w t' xx m' he hR (by omega)
          rw [hgn] at hmd
          generalize hg' : doG tags g 0 _ _ _ _ _ = g' at *
          rw [hT'] at hdo hrel hmt
          rw [hL'] at hrel
          refine callH (H := twoH n tags g R) hdo [0, 1] rfl ⟨.inl (by rw [renO_rg]; rfl), .inl rfl, True.intro⟩ rfl rfl (H' := [.row (rgC g'), tabO tags g', .row (flat rtC R), .row [i64 n, i64 tags, .slc 2 0 R.length 3]]) (by simp only [tabH, renH, renO_rg]; rfl) ?_
          refine Ob.intro hb ?_
          refine optK_intro (dd_take hdd) ?_
          refine callH (H := [.row (rgC g'), tabO tags g', .row (flat rtC R), .row [i64 n, i64 tags, .slc 2 0 R.length 3]]) hmd [2, 3] rfl ⟨.inl (by rw [renO_rt]; rfl), .inl rfl, True.intro⟩ rfl rfl (H' := [.row (rgC g'), tabO tags g', .dead, .row [i64 n, i64 (tags : Nat), .slc 6 0 ((R ++ [(t', xx, m')])).length 3], .dead, .dead, .row (flat rtC (R ++ [(t', xx, m')]))]) (by simp only [refH4, renH, renO_rt]; rfl) ?_
          refine hK ⟨i + 1, tags, g', (R ++ [(t', xx, m')]), by omega, hgo, hgl', hrel, hmt, by rw [List.length_append]; show R.length + 1 ≤ _; omega⟩ [] [0, 1, 6, 3] _ (show 100 - i = 100 - (i + 1) + 1 by omega) ⟨⟨rfl, rfl, rfl, rfl, congrArg i64 hinc, True.intro⟩, ⟨.inl (by rw [renO_rg]; rfl), .inl rfl, .inl (by rw [renO_rt]; rfl), .inl rfl, True.intro⟩, rfl, rfl, rfl⟩
      · have hT' : doTags tags e k = tags := if_neg (fun hh => h0 hh.1)
        have hG' : doG tags g e k w t' xx m' = g := if_neg h0
        have hN' : doN tags e k xx = 0 := if_neg h0
        have hmd := doRerr_ok tags g R k w t' xx m' e he h0 hR (by omega)
        rw [hgn] at hmd
        rw [hT', hG', hN'] at hdo
        refine callH (H := twoH n tags g R) hdo [0, 1] rfl ⟨.inl (by rw [renO_rg]; rfl), .inl rfl, True.intro⟩ rfl rfl (H' := twoH n tags g R) (by simp only [tabH, renH, renO_rg]; rfl) ?_
        refine Ob.intro hb ?_
        refine optK_intro (dd_take hdd) ?_
        refine callH (H := twoH n tags g R) hmd [2, 3] rfl ⟨.inl (by rw [renO_rt]; rfl), .inl rfl, True.intro⟩ rfl rfl (H' := twoH n tags g R) (by simp only [refH, renH, renO_rt]; rfl) ?_
        refine hK ⟨i + 1, tags, g, R, by omega, hg, hgn, hR, hM, by omega⟩ [] [0, 1, 2, 3] _ (show 100 - i = 100 - (i + 1) + 1 by omega) ⟨⟨rfl, rfl, rfl, rfl, congrArg i64 hinc, True.intro⟩, ⟨.inl (by rw [renO_rg]; rfl), .inl rfl, .inl (by rw [renO_rt]; rfl), .inl rfl, True.intro⟩, rfl, rfl, rfl⟩
    · have h16 : 2 ^ tags ≤ 2 ^ 16 := Nat.pow_le_pow_right (by decide) hti
      have hrt := rights_ok tags g hg (by omega) (by omega)
      have hlen := rgB_len (tags := tags) (by omega) hg.2
      have hur := unrightsU_ok (BA (rgB tags g)) (by rw [BA_size]; have := hg.1; omega)
      rw [unr_inv hti (by omega) hg hM] at hur
      have hur2 : ACalls Try.prog 26 [str (BA (rgB tags g))] [] (RetH (.tup [.ptr 6 0, i64 0]) (unrH tags g)) := hur
      have hbits : ∀ (j : Nat) (r : Nat × Nat), g[j]? = some r → ∀ c k, k < 16 → decide (((j : Int), k + 1, c) ∈ R) = (if c = true then r.2 else r.1).testBit k := fun j r hr c k hk => by
        have hone : oneT g (j : Int) = true := decide_eq_true ⟨by omega, by have := (List.getElem?_eq_some_iff.1 hr).1; omega⟩
        have hmo : maskOf g (j : Int) c = if c = true then r.2 else r.1 := by
          unfold maskOf
          rw [Int.toNat_natCast, hr]
          rfl
        rw [← hR.same (j : Int) (k + 1) c hone]
        unfold hasR
        rw [hasS_bit, hmo, decide_eq_true (by omega), Bool.true_and, Nat.add_sub_cancel]
      have hmk : ∀ (j : Nat) (r : Nat × Nat), g[j]? = some r → ∀ c, ACalls Try.prog 54 [.ptr 1 0, i64 (j : Nat), bo c] (refH g.length tags R) (RetH (u64n (if c = true then r.2 else r.1)) (refH g.length tags R)) := fun j r hr c => by
        have hrm := hM r (List.mem_of_getElem? hr)
        exact mask_ok g.length tags R (j : Int) c _ (by omega) (by cases c; exact Nat.lt_of_lt_of_le hrm.1 h16; exact Nat.lt_of_lt_of_le hrm.2 h16) (hbits j r hr c)
      have hrr := rrights_ok tags g R hg (by omega) hmk
      rw [hgn] at hrr
      generalize BA (rgB tags g) = X at *
      refine callH (H := twoH n tags g R) hrt [0, 1] rfl ⟨.inl (by rw [renO_rg]; rfl), .inl rfl, True.intro⟩ rfl rfl (H' := twoH n tags g R) (by simp only [tabH, renH, renO_rg]; rfl) ?_
      refine callH (H := twoH n tags g R) hur2 [] rfl True.intro rfl rfl (H' := (twoH n tags g R ++ [.dead, .dead, .dead, .dead, .dead, .row (rgC g), .row [i64 (tags : Nat), .slc 9 0 g.length 2]])) (by simp only [unrH, renH, renO_rg]; rfl) ?_
      refine callH (H := (twoH n tags g R ++ [.dead, .dead, .dead, .dead, .dead, .row (rgC g), .row [i64 (tags : Nat), .slc 9 0 g.length 2]])) hrt [9, 10] rfl ⟨.inl (by rw [renO_rg]; rfl), .inl rfl, True.intro⟩ rfl rfl (H' := (twoH n tags g R ++ [.dead, .dead, .dead, .dead, .dead, .row (rgC g), .row [i64 (tags : Nat), .slc 9 0 g.length 2]])) (by simp only [tabH, renH, renO_rg]; rfl) ?_
      refine ⟨[0, 0, 1, 1, 1, 1, 1, 1, 1, 1, 1, 1, 1, 1, 1, 1, 1, 1, 1, 1, 1, 1, 1, 2, 1, 2, 2, 2, 2, 3, 2, 2, 2, 2, 3, 3, 3], [[], [], [1], [0, 1, 2], [0, 1, 2, 3], [0, 1, 2, 3, 4], [0, 1, 2, 3, 4, 5], [0, 1, 2, 3, 4, 5, 6], [0, 1, 2, 3, 4, 5, 6, 7], [0, 1, 2, 3, 4, 5, 6, 7, 8], [0, 1, 2, 3, 4, 5, 6, 7, 8, 9], [0, 1, 2, 3, 4, 5, 6, 7, 8, 9, 10], [0, 1, 2, 3, 4, 5, 6, 7, 8, 9, 10, 11], [0, 1, 2, 3, 4, 5, 6, 7, 8, 9, 10, 11, 12], [0, 1, 2, 3, 4, 5, 6, 7, 8, 9, 10, 11, 12], [0, 1, 2, 3, 4, 5, 6, 7, 8, 9, 10, 11, 12, 13, 14], [0, 1, 2, 3, 4, 5, 6, 7, 8, 9, 10, 11, 12, 13, 14, 15], [0, 1, 2, 3, 4, 5, 6, 7, 8, 9, 10, 11, 12, 13, 14, 15, 16], [0, 1, 2, 3, 4, 5, 6, 7, 8, 9, 10, 11, 12, 13, 14, 15, 16, 17], [0, 1, 2, 3, 4, 5, 6, 7, 8, 9, 10, 11, 12, 13, 14, 15, 16, 17, 18], [0, 1, 2, 3, 4, 5, 6, 7, 8, 9, 10, 11, 12, 13, 14, 15, 16, 17, 18, 19], [0, 1, 2, 3, 4, 5, 6, 7, 8, 9, 10, 11, 12, 13, 14, 15, 16, 17, 18, 19, 20], [0, 1, 2, 3, 4, 5, 6, 7, 8, 9, 10, 11, 12, 13, 14, 15, 16, 17, 18, 19, 20, 21], [0, 1, 2, 3, 4, 5, 6, 7, 8, 9, 10, 11, 12, 13, 14, 15, 16, 17, 18, 19, 20, 21, 22], [0, 1, 2, 3, 4, 5, 6, 7, 8, 9, 10, 11, 12, 13, 14, 15, 16, 17, 18, 19, 20, 21], [0, 1, 2, 3, 4, 5, 6, 7, 8, 9, 10, 11, 12, 13, 14, 15, 16, 17, 18, 19, 20, 21, 22, 23, 24], [0, 1, 2, 3, 4, 5, 6, 7, 8, 9, 10, 11, 12, 13, 14, 15, 16, 17, 18, 19, 20, 21, 22, 23, 24, 25], [0, 1, 2, 3, 4, 5, 6, 7, 8, 9, 10, 11, 12, 13, 14, 15, 16, 17, 18, 19, 20, 21, 22, 23, 24, 25, 26], [0, 1, 2, 3, 4, 5, 6, 7, 8, 9, 10, 11, 12, 13, 14, 15, 16, 17, 18, 19, 20, 21, 22, 23, 24, 25, 26, 27], [0, 1, 2, 3, 4, 5, 6, 7, 8, 9, 10, 11, 12, 13, 14, 15, 16, 17, 18, 19, 20, 21, 22, 23, 24, 25, 26, 27, 28], [0, 1, 2, 3, 4, 5, 6, 7, 8, 9, 10, 11, 12, 13, 14, 15, 16, 17, 18, 19, 20, 21, 22, 23, 24, 25, 26, 27], [0, 1, 2, 3, 4, 5, 6, 7, 8, 9, 10, 11, 12, 13, 14, 15, 16, 17, 18, 19, 20, 21, 22, 23, 24, 25, 26, 27, 30], [0, 1, 2, 3, 4, 5, 6, 7, 8, 9, 10, 11, 12, 13, 14, 15, 16, 17, 18, 19, 20, 21, 22, 23, 24, 25, 26, 27, 30, 31], [0, 1, 2, 3, 4, 5, 6, 7, 8, 9, 10, 11, 12, 13, 14, 15, 16, 17, 18, 19, 20, 21, 22, 23, 24, 25, 26, 27, 30, 31, 32], [0, 1, 2, 3, 4, 5, 6, 7, 8, 9, 10, 11, 12, 13, 14, 15, 16, 17, 18, 19, 20, 21, 22, 23, 24, 25, 26, 27, 28, 29, 30, 31, 32, 33], [0, 1, 2, 3, 4, 5, 6, 7, 8, 9, 10, 11, 12, 13, 14, 15, 16, 17, 18, 19, 20, 21, 22, 23, 24, 25, 26, 27, 28, 29, 30, 31, 32, 33, 34], [0, 1, 2, 3, 4, 5, 6, 7, 8, 9, 10, 11, 12, 13, 14, 15, 16, 17, 18, 19, 20, 21, 22, 23, 24, 25, 26, 27, 28, 29, 30, 31, 32, 33, 34, 35]], [0, 0, 0, 0, 0, 0, 0, 0, 0, 0, 0, 0, 0, 0, 0, 0, 0, 0, 0, 0, 0, 0, 0, 0, 0, 0, 0, 0, 0, 0, 0, 0, 0, 0, 0, 0, 0], [2, 23, 29], [[11], [9], [78], [77, 79], [80], [12, 81], [82, 81], [81, 83], [84], [14, 85], [86, 85], [85, 87], [88], [15, 89], [11, 89], [90, 91, 89], [89, 92], [93], [16, 94], [95, 94], [94, 96], [97], [13, 98], [99, 98], [0, 98], [100, 101, 98], [98, 102], [103], [13, 104], [105, 104], [9, 104], [107, 104], [108, 104], [109, 104], [106, 110, 104], [104, 111], [112]], Ob.intro (by kernel_rfl) ?_⟩
      repeat refine same ?_
      refine callH (H := (twoH n tags g R ++ [.dead, .dead, .dead, .dead, .dead, .row (rgC g), .row [i64 (tags : Nat), .slc 9 0 g.length 2]])) hrr [2, 3] rfl ⟨.inl (by rw [renO_rt]; rfl), .inl rfl, True.intro⟩ rfl rfl (H' := (twoH n tags g R ++ [.dead, .dead, .dead, .dead, .dead, .row (rgC g), .row [i64 (tags : Nat), .slc 9 0 g.length 2]])) (by simp only [refH, renH, renO_rt]; rfl) ?_
      repeat refine same ?_
      refine fork (fun _ => ?_) (fun g => absurd (strEq_iff.2 rfl) (by rw [g]; decide))
      repeat refine same ?_
      refine fork (fun _ => ?_) (fun g => absurd (strEq_iff.2 rfl) (by rw [g]; decide))
      repeat refine same ?_
      refine callH (H := (twoH n tags g R ++ [.dead, .dead, .dead, .dead, .dead, .row (rgC g), .row [i64 (tags : Nat), .slc 9 0 g.length 2]])) (people_ok tags g) [9, 10] rfl ⟨.inl (by rw [renO_rg]; rfl), .inl rfl, True.intro⟩ rfl rfl (H' := (twoH n tags g R ++ [.dead, .dead, .dead, .dead, .dead, .row (rgC g), .row [i64 (tags : Nat), .slc 9 0 g.length 2]])) (by simp only [tabH, renH, renO_rg]; rfl) ?_
      repeat refine same ?_
      refine fork (fun _ => ?_) (fun h => absurd (show ((g.length : Nat) : Int) = (n : Nat) by omega) (beq_eq_false_iff_ne.1 h))
      repeat refine same ?_
      refine callH (H := (twoH n tags g R ++ [.dead, .dead, .dead, .dead, .dead, .row (rgC g), .row [i64 (tags : Nat), .slc 9 0 g.length 2]])) (tags_ok tags g) [9, 10] rfl ⟨.inl (by rw [renO_rg]; rfl), .inl rfl, True.intro⟩ rfl rfl (H' := (twoH n tags g R ++ [.dead, .dead, .dead, .dead, .dead, .row (rgC g), .row [i64 (tags : Nat), .slc 9 0 g.length 2]])) (by simp only [tabH, renH, renO_rg]; rfl) ?_
      repeat refine same ?_
      refine fork (fun _ => ?_) (fun h => absurd rfl (beq_eq_false_iff_ne.1 h))
      repeat refine same ?_
      refine end0 rfl rfl rfl rfl
  · have h16 : 2 ^ tags ≤ 2 ^ 16 := Nat.pow_le_pow_right (by decide) hti
    have hrt := rights_ok tags g hg (by omega) (by omega)
    have hlen := rgB_len (tags := tags) (by omega) hg.2
    have hur := unrightsU_ok (BA (rgB tags g)) (by rw [BA_size]; have := hg.1; omega)
    rw [unr_inv hti (by omega) hg hM] at hur
    have hur2 : ACalls Try.prog 26 [str (BA (rgB tags g))] [] (RetH (.tup [.ptr 6 0, i64 0]) (unrH tags g)) := hur
    have hbits : ∀ (j : Nat) (r : Nat × Nat), g[j]? = some r → ∀ c k, k < 16 → decide (((j : Int), k + 1, c) ∈ R) = (if c = true then r.2 else r.1).testBit k := fun j r hr c k hk => by
      have hone : oneT g (j : Int) = true := decide_eq_true ⟨by omega, by have := (List.getElem?_eq_some_iff.1 hr).1; omega⟩
      have hmo : maskOf g (j : Int) c = if c = true then r.2 else r.1 := by
        unfold maskOf
        rw [Int.toNat_natCast, hr]
        rfl
      rw [← hR.same (j : Int) (k + 1) c hone]
      unfold hasR
      rw [hasS_bit, hmo, decide_eq_true (by omega), Bool.true_and, Nat.add_sub_cancel]
    have hmk : ∀ (j : Nat) (r : Nat × Nat), g[j]? = some r → ∀ c, ACalls Try.prog 54 [.ptr 1 0, i64 (j : Nat), bo c] (refH g.length tags R) (RetH (u64n (if c = true then r.2 else r.1)) (refH g.length tags R)) := fun j r hr c => by
      have hrm := hM r (List.mem_of_getElem? hr)
      exact mask_ok g.length tags R (j : Int) c _ (by omega) (by cases c; exact Nat.lt_of_lt_of_le hrm.1 h16; exact Nat.lt_of_lt_of_le hrm.2 h16) (hbits j r hr c)
    have hrr := rrights_ok tags g R hg (by omega) hmk
    rw [hgn] at hrr
    generalize BA (rgB tags g) = X at *
    refine callH (H := twoH n tags g R) hrt [0, 1] rfl ⟨.inl (by rw [renO_rg]; rfl), .inl rfl, True.intro⟩ rfl rfl (H' := twoH n tags g R) (by simp only [tabH, renH, renO_rg]; rfl) ?_
    refine callH (H := twoH n tags g R) hur2 [] rfl True.intro rfl rfl (H' := (twoH n tags g R ++ [.dead, .dead, .dead, .dead, .dead, .row (rgC g), .row [i64 (tags : Nat), .slc 9 0 g.length 2]])) (by simp only [unrH, renH, renO_rg]; rfl) ?_
    refine callH (H := (twoH n tags g R ++ [.dead, .dead, .dead, .dead, .dead, .row (rgC g), .row [i64 (tags : Nat), .slc 9 0 g.length 2]])) hrt [9, 10] rfl ⟨.inl (by rw [renO_rg]; rfl), .inl rfl, True.intro⟩ rfl rfl (H' := (twoH n tags g R ++ [.dead, .dead, .dead, .dead, .dead, .row (rgC g), .row [i64 (tags : Nat), .slc 9 0 g.length 2]])) (by simp only [tabH, renH, renO_rg]; rfl) ?_
    refine ⟨[0, 0, 1, 1, 1, 1, 1, 1, 1, 1, 1, 1, 1, 1, 1, 1, 1, 1, 1, 1, 1, 1, 1, 2, 1, 2, 2, 2, 2, 3, 2, 2, 2, 2, 3, 3, 3], [[], [], [1], [0, 1, 2], [0, 1, 2, 3], [0, 1, 2, 3, 4], [0, 1, 2, 3, 4, 5], [0, 1, 2, 3, 4, 5, 6], [0, 1, 2, 3, 4, 5, 6, 7], [0, 1, 2, 3, 4, 5, 6, 7, 8], [0, 1, 2, 3, 4, 5, 6, 7, 8, 9], [0, 1, 2, 3, 4, 5, 6, 7, 8, 9, 10], [0, 1, 2, 3, 4, 5, 6, 7, 8, 9, 10, 11], [0, 1, 2, 3, 4, 5, 6, 7, 8, 9, 10, 11, 12], [0, 1, 2, 3, 4, 5, 6, 7, 8, 9, 10, 11, 12], [0, 1, 2, 3, 4, 5, 6, 7, 8, 9, 10, 11, 12, 13, 14], [0, 1, 2, 3, 4, 5, 6, 7, 8, 9, 10, 11, 12, 13, 14, 15], [0, 1, 2, 3, 4, 5, 6, 7, 8, 9, 10, 11, 12, 13, 14, 15, 16], [0, 1, 2, 3, 4, 5, 6, 7, 8, 9, 10, 11, 12, 13, 14, 15, 16, 17], [0, 1, 2, 3, 4, 5, 6, 7, 8, 9, 10, 11, 12, 13, 14, 15, 16, 17, 18], [0, 1, 2, 3, 4, 5, 6, 7, 8, 9, 10, 11, 12, 13, 14, 15, 16, 17, 18, 19], [0, 1, 2, 3, 4, 5, 6, 7, 8, 9, 10, 11, 12, 13, 14, 15, 16, 17, 18, 19, 20], [0, 1, 2, 3, 4, 5, 6, 7, 8, 9, 10, 11, 12, 13, 14, 15, 16, 17, 18, 19, 20, 21], [0, 1, 2, 3, 4, 5, 6, 7, 8, 9, 10, 11, 12, 13, 14, 15, 16, 17, 18, 19, 20, 21, 22], [0, 1, 2, 3, 4, 5, 6, 7, 8, 9, 10, 11, 12, 13, 14, 15, 16, 17, 18, 19, 20, 21], [0, 1, 2, 3, 4, 5, 6, 7, 8, 9, 10, 11, 12, 13, 14, 15, 16, 17, 18, 19, 20, 21, 22, 23, 24], [0, 1, 2, 3, 4, 5, 6, 7, 8, 9, 10, 11, 12, 13, 14, 15, 16, 17, 18, 19, 20, 21, 22, 23, 24, 25], [0, 1, 2, 3, 4, 5, 6, 7, 8, 9, 10, 11, 12, 13, 14, 15, 16, 17, 18, 19, 20, 21, 22, 23, 24, 25, 26], [0, 1, 2, 3, 4, 5, 6, 7, 8, 9, 10, 11, 12, 13, 14, 15, 16, 17, 18, 19, 20, 21, 22, 23, 24, 25, 26, 27], [0, 1, 2, 3, 4, 5, 6, 7, 8, 9, 10, 11, 12, 13, 14, 15, 16, 17, 18, 19, 20, 21, 22, 23, 24, 25, 26, 27, 28], [0, 1, 2, 3, 4, 5, 6, 7, 8, 9, 10, 11, 12, 13, 14, 15, 16, 17, 18, 19, 20, 21, 22, 23, 24, 25, 26, 27], [0, 1, 2, 3, 4, 5, 6, 7, 8, 9, 10, 11, 12, 13, 14, 15, 16, 17, 18, 19, 20, 21, 22, 23, 24, 25, 26, 27, 30], [0, 1, 2, 3, 4, 5, 6, 7, 8, 9, 10, 11, 12, 13, 14, 15, 16, 17, 18, 19, 20, 21, 22, 23, 24, 25, 26, 27, 30, 31], [0, 1, 2, 3, 4, 5, 6, 7, 8, 9, 10, 11, 12, 13, 14, 15, 16, 17, 18, 19, 20, 21, 22, 23, 24, 25, 26, 27, 30, 31, 32], [0, 1, 2, 3, 4, 5, 6, 7, 8, 9, 10, 11, 12, 13, 14, 15, 16, 17, 18, 19, 20, 21, 22, 23, 24, 25, 26, 27, 28, 29, 30, 31, 32, 33], [0, 1, 2, 3, 4, 5, 6, 7, 8, 9, 10, 11, 12, 13, 14, 15, 16, 17, 18, 19, 20, 21, 22, 23, 24, 25, 26, 27, 28, 29, 30, 31, 32, 33, 34], [0, 1, 2, 3, 4, 5, 6, 7, 8, 9, 10, 11, 12, 13, 14, 15, 16, 17, 18, 19, 20, 21, 22, 23, 24, 25, 26, 27, 28, 29, 30, 31, 32, 33, 34, 35]], [0, 0, 0, 0, 0, 0, 0, 0, 0, 0, 0, 0, 0, 0, 0, 0, 0, 0, 0, 0, 0, 0, 0, 0, 0, 0, 0, 0, 0, 0, 0, 0, 0, 0, 0, 0, 0], [2, 23, 29], [[11], [9], [78], [77, 79], [80], [12, 81], [82, 81], [81, 83], [84], [14, 85], [86, 85], [85, 87], [88], [15, 89], [11, 89], [90, 91, 89], [89, 92], [93], [16, 94], [95, 94], [94, 96], [97], [13, 98], [99, 98], [0, 98], [100, 101, 98], [98, 102], [103], [13, 104], [105, 104], [9, 104], [107, 104], [108, 104], [109, 104], [106, 110, 104], [104, 111], [112]], Ob.intro (by kernel_rfl) ?_⟩
    repeat refine same ?_
    refine callH (H := (twoH n tags g R ++ [.dead, .dead, .dead, .dead, .dead, .row (rgC g), .row [i64 (tags : Nat), .slc 9 0 g.length 2]])) hrr [2, 3] rfl ⟨.inl (by rw [renO_rt]; rfl), .inl rfl, True.intro⟩ rfl rfl (H' := (twoH n tags g R ++ [.dead, .dead, .dead, .dead, .dead, .row (rgC g), .row [i64 (tags : Nat), .slc 9 0 g.length 2]])) (by simp only [refH, renH, renO_rt]; rfl) ?_
    repeat refine same ?_
    refine fork (fun _ => ?_) (fun g => absurd (strEq_iff.2 rfl) (by rw [g]; decide))
    repeat refine same ?_
    refine fork (fun _ => ?_) (fun g => absurd (strEq_iff.2 rfl) (by rw [g]; decide))
    repeat refine same ?_
    refine callH (H := (twoH n tags g R ++ [.dead, .dead, .dead, .dead, .dead, .row (rgC g), .row [i64 (tags : Nat), .slc 9 0 g.length 2]])) (people_ok tags g) [9, 10] rfl ⟨.inl (by rw [renO_rg]; rfl), .inl rfl, True.intro⟩ rfl rfl (H' := (twoH n tags g R ++ [.dead, .dead, .dead, .dead, .dead, .row (rgC g), .row [i64 (tags : Nat), .slc 9 0 g.length 2]])) (by simp only [tabH, renH, renO_rg]; rfl) ?_
    repeat refine same ?_
    refine fork (fun _ => ?_) (fun h => absurd (show ((g.length : Nat) : Int) = (n : Nat) by omega) (beq_eq_false_iff_ne.1 h))
    repeat refine same ?_
    refine callH (H := (twoH n tags g R ++ [.dead, .dead, .dead, .dead, .dead, .row (rgC g), .row [i64 (tags : Nat), .slc 9 0 g.length 2]])) (tags_ok tags g) [9, 10] rfl ⟨.inl (by rw [renO_rg]; rfl), .inl rfl, True.intro⟩ rfl rfl (H' := (twoH n tags g R ++ [.dead, .dead, .dead, .dead, .dead, .row (rgC g), .row [i64 (tags : Nat), .slc 9 0 g.length 2]])) (by simp only [tabH, renH, renO_rg]; rfl) ?_
    repeat refine same ?_
    refine fork (fun _ => ?_) (fun h => absurd rfl (beq_eq_false_iff_ne.1 h))
    repeat refine same ?_
    refine end0 rfl rfl rfl rfl
theorem recordRights_law (l0 : List AV) (w0 : Wf (.int .i64) l0) (l1 : List AV) (w1 : Wf (.slice (.strct (.cons (.int .i64) (.cons (.int .i64) (.cons (.int .i64) (.cons (.int .u64) (.cons .bool .none))))))) l1) : ACalls Try.prog 6 [argA (.int .i64) l0, argA (.slice (.strct (.cons (.int .i64) (.cons (.int .i64) (.cons (.int .i64) (.cons (.int .u64) (.cons .bool .none))))))) l1] [] (Ret (.sc (.bool true))) := by
  obtain ⟨p, rfl, _⟩ := w0
  obtain ⟨L, rfl, hd, hL⟩ := wf_deeds w1
  by_cases h : 1 ≤ p ∧ p ≤ 8
  · obtain ⟨n, rfl⟩ : ∃ n : Nat, p = (n : Int) := ⟨p.toNat, by omega⟩
    exact recordRights_ok n L (by omega) (by omega) hd
  · exact rights_none p L (by omega) emp (strEq_iff.2 rfl) rightsNil_ok
end Go.Proofs.Ytkbpddejafdmdaa.A
