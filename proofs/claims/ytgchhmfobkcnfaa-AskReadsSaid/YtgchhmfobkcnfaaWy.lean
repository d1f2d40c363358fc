/- ref03: Begin. No condition. -/
import Derived.Test.YtgchhmfobkcnfaaWv
namespace Go.Proofs.Ytgchhmfobkcnfaa.A
open Go
set_option linter.unusedVariables false
set_option linter.unusedSimpArgs false
set_option maxRecDepth 100000
set_option pp.maxSteps 600

structure RbSt (b : List Nat) (L : List (Nat × Bool)) (s : ByteArray) where
  i : Nat
  k : Nat
  l : List It
  m : Nat
  hi : i ≤ b.length
  hk : k ≤ L.length
  hL : parL false (b.drop i) = some (L.drop k)
  hl : begN L s k = .ok l m
set_option maxHeartbeats 0 in
theorem rbegin_ok (b s : ByteArray) (hn : b.size ≤ 60) (hs : s.size ≤ 1000000) : ACalls Try.prog 41 [str b, str s] [] (Ret (bgA (begP (byL b) s))) := by
  refine bgW ?_
  have hr := rwright_ok b hn
  cases hsh : shP (byL b) with
  | none =>
    have hp : begP (byL b) s = .err 1 := by unfold begP; rw [hsh]
    rw [hp]
    rw [hsh] at hr
    refine acalls_of_awp hT mixed Try.func41 rfl (by kernel_rfl) (by kernel_rfl) (Nat.le_of_ble_eq_true rfl) ?_
    refine callP hr rfl rfl ?_
    exact ⟨rfl, [], .tup [nilS, i64 0, i64 1], ⟨⟨_, rfl, rfl⟩, True.intro, Nat.zero_le _, rfl⟩, rfl, rfl⟩
  | some L =>
    have hp : begP (byL b) s = begN L s L.length := by unfold begP; rw [hsh]
    rw [hp]
    rw [hsh] at hr
    have h40 : parL false (byL b) = some L := by
      unfold shP at hsh
      split at hsh
      · exact hsh
      · cases hsh
    have hLl := shP_len hsh
    refine acalls_of_awp hT mixed Try.func41 rfl (by kernel_rfl) (by kernel_rfl) (Nat.le_of_ble_eq_true rfl) ?_
    refine callP hr rfl rfl ?_
    refine loopF (α := RbSt (byL b) L s) (fun z => [(0, str b), (1, str s), (7, .slc 0 0 z.l.length 4), (8, i64 (z.m : Nat)), (9, i64 (z.i : Nat))]) (fun z => [.row (flat itC z.l)]) [] (fun z => L.length - z.k) ⟨0, 0, [], 0, Nat.zero_le _, Nat.zero_le _, h40, rfl⟩ [] [0] (.inl ⟨⟨rfl, rfl, rfl, rfl, rfl, True.intro⟩, ⟨.inl rfl, True.intro⟩, rfl, rfl, rfl⟩) ?_
    rintro ⟨i, k, l, m, hi, hk, hL, hl⟩ K hK
    rw [byL_len] at hi
    obtain ⟨hms, hll⟩ := begN_le hk hl
    have hinci : wrp .i64 ((i : Int) + 1) = ((i + 1 : Nat) : Int) := by rw [wrpE, wi64]; omega
    refine forkD (fun h => ?_) (fun h => ?_)
    · have his : i < b.size := by have : (i : Int) < (b.size : Int) := h; omega
      have hd := List.drop_eq_getElem_cons (l := byL b) (i := i) (by rw [byL_len]; exact his)
      have hgi : (byL b)[i]'(by rw [byL_len]; exact his) = octB b i := by
        have := byL_at his
        rw [List.getElem?_eq_getElem (by rw [byL_len]; exact his)] at this
        exact Option.some.inj this
      rw [hd, hgi] at hL
      have hbi : (0 : Int) ≤ (i : Nat) ∧ ((i : Nat) : Int) < (b.size : Int) := by omega
      have hsl : (0 : Int) ≤ (m : Nat) ∧ ((m : Nat) : Int) ≤ (s.size : Int) ∧ (s.size : Int) ≤ (s.size : Int) := by omega
      have hzz : ∀ (p : Nat × Bool) (M : List (Nat × Bool)), L.drop k = p :: M → L[k]? = some p ∧ k < L.length ∧ L.drop (k + 1) = M := fun p M e => by
        have hkL : k < L.length := Nat.lt_of_not_le fun hh => by
          rw [List.drop_eq_nil_of_le hh] at e
          cases e
        rw [List.drop_eq_getElem_cons hkL] at e
        injection e with e1 e2
        exact ⟨by rw [List.getElem?_eq_getElem hkL, e1], hkL, e2⟩
      have hbad : ∀ p e, L[k]? = some p → k < L.length → rd1P p (rest s m) = .err e → begN L s L.length = .err e ∧ 0 < e := fun p e hz hkL he => by
        have h1 : begN L s (k + 1) = .err e := by rw [begN_ok hl hz, he]
        have h2 := begN_err h1 (L.length - (k + 1))
        rw [show k + 1 + (L.length - (k + 1)) = L.length by omega] at h2
        exact ⟨h2, rd1P_e he⟩
      refine Ob.intro hbi ?_
      rcases par_cons hL with ⟨hc42, hcl, M', hM, hM2⟩ | ⟨hc42, d, r', M', hr', hdl, hM, hM2⟩
      · obtain ⟨hz, hkL, hdr⟩ := hzz _ _ hM
        refine fork (fun q => ?_) (fun q => absurd (show octB b i = 42 by have : ((octB b i : Nat) : Int) = 42 := bne_eq_false_iff_eq.1 q; omega) hc42)
        have h1 := rread_ok (octB b i) (rest s m) hcl (by rw [rest_size]; omega)
        cases ho : rdP (octB b i) (rest s m) with
        | err e =>
          rw [ho] at h1
          obtain ⟨hb1, hb2⟩ := hbad _ e hz hkL ho
          rw [hb1]
          refine ⟨[0, 0, 0, 0, 0, 0, 1, 1, 1, 1, 1, 0, 2, 2, 2], [[], [], [0, 1], [], [], [3, 4], [0, 1, 2, 3, 4, 5], [0, 1, 2, 3, 4, 5, 6], [0, 1, 2, 3, 4, 5, 6, 7], [0, 1, 2, 3, 4, 5, 6, 7], [0, 1, 2, 3, 4, 5, 6, 7], [], [0, 1, 2, 3, 4, 5, 6, 7, 8, 11], [0, 1, 2, 3, 4, 5, 6, 7, 8, 9, 11, 12], [0, 1, 2, 3, 4, 5, 6, 7, 8, 9, 10, 11, 12, 13]], [0, 0, 0, 0, 0, 0, 0, 0, 0, 0, 0, 0, 1, 1, 1], [6, 12], [[0], [9], [36, 37], [1], [8], [39, 40], [38, 41], [42], [35], [35], [35], [], [10, 43], [44], [45]], Ob.intro (by kernel_rfl) ?_⟩
          repeat first | refine same ?_ | refine Ob.intro (by first | exact hbi | exact hsl) ?_
          refine callP h1 rfl rfl ?_
          repeat first | refine same ?_ | refine Ob.intro (by first | exact hbi | exact hsl) ?_
          refine fork (fun g => ?_) (fun g => absurd (bne_eq_false_iff_eq.1 g) (by omega))
          exact ⟨rfl, [], .tup [nilS, i64 0, i64 e], ⟨⟨_, rfl, rfl⟩, True.intro, Nat.zero_le _, rfl⟩, rfl, rfl⟩
        | ok x kk =>
          rw [ho] at h1
          have hkk := (rdP_le ho).2
          rw [rest_size] at hkk
          have hadd : wrp .i64 (((m : Nat) : Int) + ((kk : Nat) : Int)) = ((m + kk : Nat) : Int) := by rw [wrpE, wi64]; omega
          have hnext : begN L s (k + 1) = .ok (l ++ [x]) (m + kk) := by rw [begN_ok hl hz]; show (match rdP (octB b i) (rest s m) with | .err e => _ | .ok x k => _) = _; rw [ho]
          obtain ⟨n2, s2, l2, k2⟩ := x
          refine ⟨[0, 0, 0, 0, 0, 0, 1, 1, 1, 1, 1, 0, 2, 2, 2], [[], [], [0, 1], [], [], [3, 4], [0, 1, 2, 3, 4, 5], [0, 1, 2, 3, 4, 5, 6], [0, 1, 2, 3, 4, 5, 6, 7], [0, 1, 2, 3, 4, 5, 6, 7], [0, 1, 2, 3, 4, 5, 6, 7], [], [0, 1, 2, 3, 4, 5, 6, 7, 8, 11], [0, 1, 2, 3, 4, 5, 6, 7, 8, 9, 11, 12], [0, 1, 2, 3, 4, 5, 6, 7, 8, 9, 10, 11, 12, 13]], [0, 0, 0, 0, 0, 0, 0, 0, 0, 0, 0, 0, 1, 1, 1], [6, 12], [[0], [9], [36, 37], [1], [8], [39, 40], [38, 41], [42], [35], [35], [35], [], [10, 43], [44], [45]], Ob.intro (by kernel_rfl) ?_⟩
          repeat first | refine same ?_ | refine Ob.intro (by first | exact hbi | exact hsl) ?_
          refine callP h1 rfl rfl ?_
          repeat first | refine same ?_ | refine Ob.intro (by first | exact hbi | exact hsl) ?_
          refine Ob.intro rfl ?_
          refine optK_intro (rdN_all (cs := flat itC l) rfl (by rw [flat_len itC_len])) ?_
          refine Ob.intro (show (l.length + 1) * 72 ≤ 140737488355328 ∧ l.length + 1 ≤ 9223372036854775807 by omega) ?_
          refine hK ⟨i + 1, k + 1, l ++ [.mk n2 s2 l2 k2], m + kk, by rw [byL_len]; exact his, hkL, by rw [hdr]; exact hM2, hnext⟩ [] [3] _ (show L.length - k = L.length - (k + 1) + 1 by omega) (.inl ⟨⟨rfl, rfl, ?_, congrArg i64 hadd, congrArg i64 hinci, True.intro⟩, ⟨.inl ?_, True.intro⟩, rfl, rfl, rfl⟩)
          · show AV.slc 3 0 (l.length + 1) 4 = ren _ (.slc 0 0 (l ++ [It.mk n2 s2 l2 k2]).length 4)
            rw [List.length_append]
            rfl
          · show some (AObj.row (flat itC l ++ itC (.mk n2 s2 l2 k2))) = some (renO _ (.row (flat itC (l ++ [It.mk n2 s2 l2 k2]))))
            rw [renO_its, flat_snoc]
      · obtain ⟨hz, hkL, hdr⟩ := hzz _ _ hM
        have hi1 : i + 1 < b.size := Nat.lt_of_not_le fun hh => by
          rw [List.drop_eq_nil_of_le (by rw [byL_len]; exact hh)] at hr'
          cases hr'
        have hdo : octB b (i + 1) = d ∧ (byL b).drop (i + 2) = r' := by
          rw [List.drop_eq_getElem_cons (by rw [byL_len]; exact hi1)] at hr'
          injection hr' with e1 e2
          have := byL_at hi1
          rw [List.getElem?_eq_getElem (by rw [byL_len]; exact hi1)] at this
          exact ⟨(Option.some.inj this).symm.trans e1, e2⟩
        have hinci2 : wrp .i64 (((i + 1 : Nat) : Int) + 1) = ((i + 2 : Nat) : Int) := by rw [wrpE, wi64]; omega
        have hbi1 : (0 : Int) ≤ (i + 1 : Nat) ∧ ((i + 1 : Nat) : Int) < (b.size : Int) := by omega
        refine fork (fun q => absurd hc42 (by have : ((octB b i : Nat) : Int) ≠ 42 := bne_iff_ne.1 q; omega)) (fun q => ?_)
        have hcnt := rcount_ok (rest s m) (by rw [rest_size]; omega)
        have hrd : rd1P (d, true) (rest s m) = match cntM 64 (byL (rest s m)) with
          | .err e => .err e
          | .ok n j => match kidsN d (rest (rest s m) j) n with
            | .err e => .err e
            | .ok l m => .ok (.mk 0 emp [] l) (j + m) := rfl
        unfold cntM at hrd
        refine Ob.intro hsl ?_
        cases hq : cntP (byL (rest s m)) with
        | err e =>
          rw [hq] at hcnt hrd
          obtain ⟨hb1, hb2⟩ := hbad _ e hz hkL hrd
          rw [hb1]
          refine callP hcnt rfl rfl ?_
          refine fork (fun g => ?_) (fun g => absurd (bne_eq_false_iff_eq.1 g) (by omega))
          exact ⟨rfl, [], .tup [nilS, i64 0, i64 e], ⟨⟨_, rfl, rfl⟩, True.intro, Nat.zero_le _, rfl⟩, rfl, rfl⟩
        | ok n j0 =>
          rw [hq] at hcnt hrd
          have hcl := cntP_lt hq
          rw [byL_len, rest_size] at hcl
          dsimp only at hrd
          refine callP hcnt rfl rfl ?_
          by_cases h64 : n ≤ 64
          · rw [if_pos h64] at hrd
            dsimp only at hrd
            refine forkD (fun g => absurd (show ((n : Nat) : Int) > 64 from g) (by omega)) (fun g => ?_)
            have hadd0 : wrp .i64 (((m : Nat) : Int) + ((j0 : Nat) : Int)) = ((m + j0 : Nat) : Int) := by rw [wrpE, wi64]; omega
            rw [rest_rest] at hrd
            refine loopG (α := PlSt d s (m + j0) n) (fun z => [(0, str b), (1, str s), (7, .slc 0 0 l.length 4), (8, i64 (m + j0 + z.m : Nat)), (9, i64 (i + 1 : Nat)), (13, u64n n), (16, .ptr 1 0), (17, u64n z.j)]) (fun z => [.row (flat itC l), .row [u64 0, str ⟨#[]⟩, .slc 3 0 0 1, .slc 2 0 z.l.length 4], .row (flat itC z.l), .row []]) [] (fun z => n - z.j)
              ⟨0, [], 0, Nat.zero_le _, rfl⟩ [.cell 1 3 4, .cell 1 2 1] [0, 1, 2, 3] ⟨⟨rfl, rfl, rfl, congrArg i64 hadd0, congrArg i64 hinci, rfl, rfl, rfl, True.intro⟩, ⟨.inl ?_, .inl rfl, .inl rfl, .inl rfl, True.intro⟩, rfl, rfl, rfl⟩ ?_
            · show some (AObj.row (flat itC l)) = some (renO _ (.row (flat itC l)))
              rw [renO_its]
            rintro ⟨j, l3, m3, hj, hl3⟩ K2 hK2
            have hl3l := kidsN_len hl3
            have hm3 := kidsN_le hl3
            rw [rest_size] at hm3
            have hsl3 : (0 : Int) ≤ (m + j0 + m3 : Nat) ∧ ((m + j0 + m3 : Nat) : Int) ≤ (s.size : Int) ∧ (s.size : Int) ≤ (s.size : Int) := by omega
            have hincj : wrp .u64 ((j : Int) + 1) = ((j + 1 : Nat) : Int) := by rw [wrpE, wu64]; omega
            refine forkD (fun u => ?_) (fun u => ?_)
            · have hjn : j < n := by have : (j : Int) < (n : Int) := u; omega
              have h1 := rread_ok d (rest s (m + j0 + m3)) hdl (by rw [rest_size]; omega)
              rw [← hdo.1] at h1
              cases ho : rdP d (rest s (m + j0 + m3)) with
              | err e =>
                rw [hdo.1, ho] at h1
                rw [← hdo.1] at h1
                have hbk : kidsN d (rest s (m + j0)) n = .err e := by
                  have g1 : kidsN d (rest s (m + j0)) (j + 1) = .err e := by rw [kidsN_ok hl3, rest_rest, ho]
                  have := kidsN_err g1 (n - (j + 1))
                  rw [show j + 1 + (n - (j + 1)) = n by omega] at this
                  exact this
                rw [hbk] at hrd
                obtain ⟨hb1, hb2⟩ := hbad _ e hz hkL hrd
                rw [hb1]
                refine ⟨[0, 0, 0, 0, 0, 0, 1, 1, 1, 1, 1, 0, 2, 2, 2], [[], [], [0, 1], [], [], [3, 4], [0, 1, 2, 3, 4, 5], [0, 1, 2, 3, 4, 5, 6], [0, 1, 2, 3, 4, 5, 6, 7], [0, 1, 2, 3, 4, 5, 6, 7], [0, 1, 2, 3, 4, 5, 6, 7], [], [0, 1, 2, 3, 4, 5, 6, 7, 8, 11], [0, 1, 2, 3, 4, 5, 6, 7, 8, 9, 11, 12], [0, 1, 2, 3, 4, 5, 6, 7, 8, 9, 10, 11, 12, 13]], [0, 0, 0, 0, 0, 0, 0, 0, 0, 0, 0, 0, 1, 1, 1], [6, 12], [[0], [9], [81, 82], [1], [8], [84, 85], [83, 86], [87], [80], [80], [80], [], [18, 88], [89], [90]], Ob.intro (by kernel_rfl) ?_⟩
                repeat first | refine same ?_ | refine Ob.intro (by first | exact hbi1 | exact hsl3) ?_
                refine callP h1 rfl rfl ?_
                repeat first | refine same ?_ | refine Ob.intro (by first | exact hbi1 | exact hsl3) ?_
                refine fork (fun g => ?_) (fun g => absurd (bne_eq_false_iff_eq.1 g) (by omega))
                exact ⟨rfl, [], .tup [nilS, i64 0, i64 e], ⟨⟨_, rfl, rfl⟩, True.intro, Nat.zero_le _, rfl⟩, rfl, rfl⟩
              | ok x kk =>
                rw [hdo.1, ho] at h1
                rw [← hdo.1] at h1
                have hkk := (rdP_le ho).2
                rw [rest_size] at hkk
                have hadd : wrp .i64 (((m + j0 + m3 : Nat) : Int) + ((kk : Nat) : Int)) = ((m + j0 + (m3 + kk) : Nat) : Int) := by rw [wrpE, wi64]; omega
                have hnext : kidsN d (rest s (m + j0)) (j + 1) = .ok (l3 ++ [x]) (m3 + kk) := by rw [kidsN_ok hl3, rest_rest, ho]
                obtain ⟨n2, s2, l2, k2⟩ := x
                refine ⟨[0, 0, 0, 0, 0, 0, 1, 1, 1, 1, 1, 0, 2, 2, 2], [[], [], [0, 1], [], [], [3, 4], [0, 1, 2, 3, 4, 5], [0, 1, 2, 3, 4, 5, 6], [0, 1, 2, 3, 4, 5, 6, 7], [0, 1, 2, 3, 4, 5, 6, 7], [0, 1, 2, 3, 4, 5, 6, 7], [], [0, 1, 2, 3, 4, 5, 6, 7, 8, 11], [0, 1, 2, 3, 4, 5, 6, 7, 8, 9, 11, 12], [0, 1, 2, 3, 4, 5, 6, 7, 8, 9, 10, 11, 12, 13]], [0, 0, 0, 0, 0, 0, 0, 0, 0, 0, 0, 0, 1, 1, 1], [6, 12], [[0], [9], [81, 82], [1], [8], [84, 85], [83, 86], [87], [80], [80], [80], [], [18, 88], [89], [90]], Ob.intro (by kernel_rfl) ?_⟩
                repeat first | refine same ?_ | refine Ob.intro (by first | exact hbi1 | exact hsl3) ?_
                refine callP h1 rfl rfl ?_
                repeat first | refine same ?_ | refine Ob.intro (by first | exact hbi1 | exact hsl3) ?_
                refine Ob.intro rfl ?_
                refine optK_intro (rdN_all (cs := flat itC l3) rfl (by rw [flat_len itC_len])) ?_
                refine Ob.intro (show (l3.length + 1) * 72 ≤ 140737488355328 ∧ l3.length + 1 ≤ 9223372036854775807 by omega) ?_
                refine hK2 ⟨j + 1, l3 ++ [.mk n2 s2 l2 k2], m3 + kk, hjn, hnext⟩ [] [0, 1, 6, 3] _ (show n - j = n - (j + 1) + 1 by omega) ⟨⟨rfl, rfl, rfl, congrArg i64 hadd, rfl, rfl, rfl, congrArg u64 hincj, True.intro⟩, ⟨.inl ?_, .inl ?_, .inl ?_, .inl rfl, True.intro⟩, rfl, rfl, rfl⟩
                · show some (AObj.row (flat itC l)) = some (renO _ (.row (flat itC l)))
                  rw [renO_its]
                · show some (AObj.row [u64 0, str ⟨#[]⟩, .slc 3 0 0 1, .slc 6 0 (l3.length + 1) 4]) = some (renO _ (.row [u64 0, str ⟨#[]⟩, .slc 3 0 0 1, .slc 2 0 (l3 ++ [It.mk n2 s2 l2 k2]).length 4]))
                  rw [List.length_append]
                  rfl
                · show some (AObj.row (flat itC l3 ++ itC (.mk n2 s2 l2 k2))) = some (renO _ (.row (flat itC (l3 ++ [It.mk n2 s2 l2 k2]))))
                  rw [renO_its, flat_snoc]
            · have hjn : j = n := by have : ¬ (j : Int) < (n : Int) := u; omega
              subst hjn
              rw [hl3] at hrd
              dsimp only at hrd
              have hnext : begN L s (k + 1) = .ok (l ++ [.mk 0 emp [] l3]) (m + (j0 + m3)) := by rw [begN_ok hl hz, hrd]
              refine Ob.intro rfl ?_
              refine optK_intro (rdN_all (cs := flat itC l) rfl (by rw [flat_len itC_len])) ?_
              refine Ob.intro (show (l.length + 1) * 72 ≤ 140737488355328 ∧ l.length + 1 ≤ 9223372036854775807 by omega) ?_
              have hfz : frzR [.row (flat itC l ++ [u64 0, str ⟨#[]⟩, .slc 2 0 0 1, .slc 1 0 l3.length 4]), .row (flat itC l3), .row []] 1 1 [.row (flat itC l ++ [u64 0, str ⟨#[]⟩, .slc 2 0 0 1, .slc 1 0 l3.length 4]), .row (flat itC l3), .row []] = some [.row (flat itC (l ++ [.mk 0 emp [] l3]))] := by
                have f1 : frz [.row (flat itC l ++ [u64 0, str ⟨#[]⟩, .slc 2 0 0 1, .slc 1 0 l3.length 4]), .row (flat itC l3), .row []] 1 8 (.slc 1 0 l3.length 4) = some (itsV l3) := frz_its (k := 5) rfl rfl rfl
                have f2 : mapO (frz [.row (flat itC l ++ [u64 0, str ⟨#[]⟩, .slc 2 0 0 1, .slc 1 0 l3.length 4]), .row (flat itC l3), .row []] 1 8) [u64 0, str ⟨#[]⟩, .slc 2 0 0 1, .slc 1 0 l3.length 4] = some (itC (.mk 0 emp [] l3)) := by
                  rw [itC, itsC_flat]
                  simp only [mapO, f1]
                  rfl
                have f3 : mapO (frz [.row (flat itC l ++ [u64 0, str ⟨#[]⟩, .slc 2 0 0 1, .slc 1 0 l3.length 4]), .row (flat itC l3), .row []] 1 8) (flat itC l) = some (flat itC l) := mapO_flat (fun x => by obtain ⟨n, s, l, kk⟩ := x; rfl) l
                show (match mapO _ (flat itC l ++ [u64 0, str ⟨#[]⟩, .slc 2 0 0 1, .slc 1 0 l3.length 4]), frzR _ 1 0 _ with | some ds, some q => some (AObj.row ds :: q) | _, _ => none) = _
                rw [mapO_append f3 f2, ← flat_snoc]
                rfl
              refine hK ⟨i + 2, k + 1, l ++ [.mk 0 emp [] l3], m + (j0 + m3), by rw [byL_len]; exact hi1, hkL, by rw [hdr, hdo.2]; exact hM2, hnext⟩ [] [5, 2, 3] _ (show L.length - k = L.length - (k + 1) + 1 by omega)
                (.inr ⟨[(0, str b), (1, str s), (7, .slc 0 0 (l.length + 1) 4), (8, i64 (m + (j0 + m3) : Nat)), (9, i64 (i + 2 : Nat))], [.row (flat itC l ++ [u64 0, str ⟨#[]⟩, .slc 2 0 0 1, .slc 1 0 l3.length 4]), .row (flat itC l3), .row []], 1, ⟨⟨rfl, rfl, rfl, congrArg i64 (congrArg Nat.cast (Nat.add_assoc m j0 m3)), congrArg i64 hinci2, True.intro⟩, ⟨.inl ?_, .inl ?_, .inl rfl, True.intro⟩, rfl, rfl, rfl⟩, Nat.zero_le _, ?_, hfz, rfl⟩)
              · show some (AObj.row (flat itC l ++ [u64 0, str ⟨#[]⟩, .slc 3 0 0 1, .slc 2 0 l3.length 4])) = some (renO _ (.row (flat itC l ++ [u64 0, str ⟨#[]⟩, .slc 2 0 0 1, .slc 1 0 l3.length 4])))
                simp only [renO, renL_append, renL_flat renL_it]
                rfl
              · show some (AObj.row (flat itC l3)) = some (renO _ (.row (flat itC l3)))
                rw [renO_its]
              · show frzL [.row (flat itC l ++ [u64 0, str ⟨#[]⟩, .slc 2 0 0 1, .slc 1 0 l3.length 4]), .row (flat itC l3), .row []] 1 [(0, str b), (1, str s), (7, .slc 0 0 (l.length + 1) 4), (8, i64 (m + (j0 + m3) : Nat)), (9, i64 (i + 2 : Nat))] = some [(0, str b), (1, str s), (7, .slc 0 0 (l ++ [It.mk 0 emp [] l3]).length 4), (8, i64 (m + (j0 + m3) : Nat)), (9, i64 (i + 2 : Nat))]
                rw [List.length_append]
                rfl
          · rw [if_neg h64] at hrd
            dsimp only at hrd
            obtain ⟨hb1, hb2⟩ := hbad _ 5 hz hkL hrd
            rw [hb1]
            refine forkD (fun g => ?_) (fun g => absurd (show ((n : Nat) : Int) > 64 by omega) g)
            exact ⟨rfl, [], .tup [nilS, i64 0, i64 5], ⟨⟨_, rfl, rfl⟩, True.intro, Nat.zero_le _, rfl⟩, rfl, rfl⟩
    · have his : i = b.size := by have : ¬ (i : Int) < (b.size : Int) := h; omega
      rw [List.drop_eq_nil_of_le (by rw [byL_len]; omega)] at hL
      have hLk : L.drop k = [] := (Option.some.inj hL).symm
      have hkL : k = L.length := by
        have := congrArg List.length hLk
        rw [List.length_drop] at this
        simp at this
        omega
      rw [← hkL, hl]
      have hf : frz [.row (flat itC l)] 0 7 (.slc 0 0 l.length 4) = some (itsV l) := frz_its (k := 4) rfl rfl rfl
      exact ⟨rfl, [], .tup [itsV l, i64 (m : Nat), i64 0], ⟨⟨_, rfl, frz_tup (k := 7) (show mapO (frz [.row (flat itC l)] 0 7) [.slc 0 0 l.length 4, i64 (m : Nat), i64 0] = _ from by simp only [mapO, hf]; rfl)⟩, True.intro, Nat.zero_le _, rfl⟩, rfl, rfl⟩
end Go.Proofs.Ytgchhmfobkcnfaa.A
