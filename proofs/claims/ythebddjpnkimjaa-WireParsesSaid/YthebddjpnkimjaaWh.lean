/- wire: Print by the document. No condition. -/
import Derived.Test.YthebddjpnkimjaaWg
namespace Go.Proofs.Ythebddjpnkimjaa.A
open Go
set_option linter.unusedVariables false
set_option linter.unusedSimpArgs false
set_option maxRecDepth 100000
set_option pp.maxSteps 1500

theorem par_cons {c : Nat} {r : List Nat} {M : List (Nat × Bool)} (h : parL false (c :: r) = some M) : (c ≠ 42 ∧ isL c = true ∧ ∃ M', M = (c, false) :: M' ∧ parL false r = some M') ∨ (c = 42 ∧ ∃ d r' M', r = d :: r' ∧ isL d = true ∧ M = (d, true) :: M' ∧ parL false r' = some M') := by
  have hh : parL false (c :: r) = if c = 42 ∧ false = false then parL true r else if isL c = true then (parL false r).map ((c, false) :: ·) else none := rfl
  rw [hh] at h
  by_cases hc : c = 42
  · rw [if_pos ⟨hc, rfl⟩] at h
    refine .inr ⟨hc, ?_⟩
    cases r with
    | nil => cases h
    | cons d r' =>
      have h2 : parL true (d :: r') = if d = 42 ∧ true = false then parL true r' else if isL d = true then (parL false r').map ((d, true) :: ·) else none := rfl
      rw [h2, if_neg (fun k => by cases k.2)] at h
      split at h
      · rename_i hd
        cases hq : parL false r' with
        | none => rw [hq] at h; cases h
        | some M' =>
          rw [hq] at h
          exact ⟨d, r', M', rfl, hd, (Option.some.inj h).symm, hq⟩
      · cases h
  · rw [if_neg (fun k => hc k.1)] at h
    refine .inl ⟨hc, ?_⟩
    split at h
    · rename_i hd
      cases hq : parL false r with
      | none => rw [hq] at h; cases h
      | some M' =>
        rw [hq] at h
        exact ⟨hd, M', (Option.some.inj h).symm, rfl⟩
    · cases h
def PrR (o : Option (List Nat)) : AEnd → Heap → Prop := fun E G => G = [] ∧ ∃ t : ByteArray, E = .ret (.tup [str t, bo o.isSome]) ∧ ∀ b, o = some b → t = BA b
/-- How far it has come: the letter at i begins what is left of the shape's parts. -/
structure RpSt (b : List Nat) (L : List (Nat × Bool)) (l : List It) where
  i : Nat
  k : Nat
  R : List Nat
  hi : i ≤ b.length
  hk : k ≤ L.length
  hkl : k ≤ l.length
  hL : parL false (b.drop i) = some (L.drop k)
  hR : catF one1 ((L.zip l).take k) = some R
  hl : R.length ≤ 14000 * k
structure RkSt (c : Nat) (k : List It) where
  j : Nat
  b : List Nat
  hj : j ≤ k.length
  hb : catP c (k.take j) = some b
  hl : b.length ≤ 210 * j
theorem rprint_ok (s : ByteArray) (l : List It) (hn : s.size ≤ 60) (hl : l.length ≤ 1000) (hw : ∀ x ∈ l, WI x) : ACalls Try.prog 15 [str s, itsV l] [] (PrR (printS (byL s) l)) := by
  have hr := rwright_ok s hn
  cases hsh : shP (byL s) with
  | none =>
    have hp : printS (byL s) l = none := by unfold printS; rw [hsh]; rfl
    rw [hp]
    rw [hsh] at hr
    refine acalls_of_awp hT mixed Try.func15 rfl (by kernel_rfl) (by kernel_rfl) (Nat.le_of_ble_eq_true rfl) ?_
    refine callP hr rfl rfl ?_
    exact ⟨rfl, [], .tup [str ⟨#[]⟩, bo false], ⟨⟨_, rfl, rfl⟩, True.intro, Nat.zero_le _, rfl⟩, rfl, ⟨#[]⟩, rfl, fun _ h => (by cases h)⟩
  | some L =>
    have hp : printS (byL s) l = prtP L l := by unfold printS; rw [hsh]; rfl
    rw [hp]
    rw [hsh] at hr
    have h40 : parL false (byL s) = some L := by
      unfold shP at hsh
      split at hsh
      · exact hsh
      · cases hsh
    have hLl : L.length ≤ 60 := by
      have key : ∀ (n : Nat) (b : List Nat) (M : List (Nat × Bool)), b.length ≤ n → parL false b = some M → M.length ≤ b.length := by
        intro n
        induction n with
        | zero =>
          intro b M hb h
          cases b with
          | nil => cases h; exact Nat.le_refl _
          | cons c r => simp at hb
        | succ n ih =>
          intro b M hb h
          cases b with
          | nil => cases h; exact Nat.le_refl _
          | cons c r =>
            rcases par_cons h with ⟨_, _, M', rfl, h2⟩ | ⟨_, d, r', M', rfl, _, rfl, h2⟩
            · have := ih r M' (by simpa using hb) h2
              simp only [List.length_cons]
              omega
            · have := ih r' M' (by simp only [List.length_cons] at hb; omega) h2
              simp only [List.length_cons]
              omega
      have := key _ _ _ (Nat.le_refl _) h40
      rw [byL_len] at this
      omega
    refine acalls_of_awp hT mixed Try.func15 rfl (by kernel_rfl) (by kernel_rfl) (Nat.le_of_ble_eq_true rfl) ?_
    refine callP hr rfl rfl ?_
    refine loopI (α := RpSt (byL s) L l) (fun z => [(0, str s), (1, itsV l), (6, str (BA z.R)), (7, i64 (z.k : Nat)), (8, i64 (z.i : Nat))]) (fun z => []) (fun z => L.length - z.k) ⟨0, 0, [], Nat.zero_le _, Nat.zero_le _, Nat.zero_le _, h40, rfl, Nat.zero_le _⟩ [] ⟨⟨rfl, rfl, rfl, rfl, rfl, True.intro⟩, True.intro, rfl, rfl, rfl⟩ ?_
    rintro ⟨i, k, R, hi, hk, hkl, hL, hR, hRl⟩ K hK
    rw [byL_len] at hi
    have hinck : wrp .i64 ((k : Int) + 1) = ((k + 1 : Nat) : Int) := by rw [wrpE, wi64]; omega
    have hinci : wrp .i64 ((i : Int) + 1) = ((i + 1 : Nat) : Int) := by rw [wrpE, wi64]; omega
    refine forkD (fun h => ?_) (fun h => ?_)
    · have his : i < s.size := by have : (i : Int) < (s.size : Int) := h; omega
      have hd := List.drop_eq_getElem_cons (l := byL s) (i := i) (by rw [byL_len]; exact his)
      have hgi : (byL s)[i]'(by rw [byL_len]; exact his) = octB s i := by
        have := byL_at his
        rw [List.getElem?_eq_getElem (by rw [byL_len]; exact his)] at this
        exact Option.some.inj this
      rw [hd, hgi] at hL
      have hbi : (0 : Int) ≤ (i : Nat) ∧ ((i : Nat) : Int) < (s.size : Int) := by omega
      refine forkD (fun g => ?_) (fun g => ?_)
      · have g' : k = l.length := by have : (k : Int) ≥ (l.length : Int) := g; omega
        have hno : prtP L l = none := by
          unfold prtP
          refine if_neg fun e => ?_
          have : L.drop k = [] := List.drop_eq_nil_of_le (by omega)
          rw [this] at hL
          rcases par_cons hL with ⟨_, _, M', e2, _⟩ | ⟨_, d, r', M', _, _, e2, _⟩ <;> cases e2
        rw [hno]
        exact ⟨rfl, [], .tup [str ⟨#[]⟩, bo false], ⟨⟨_, rfl, rfl⟩, True.intro, Nat.zero_le _, rfl⟩, rfl, ⟨#[]⟩, rfl, fun _ h => (by cases h)⟩
      have g' : k < l.length := by have : ¬ (k : Int) ≥ (l.length : Int) := g; omega
      obtain ⟨x, hx⟩ : ∃ x, l[k]? = some x := ⟨_, List.getElem?_eq_getElem g'⟩
      have hbk : (0 : Int) ≤ (k : Nat) ∧ ((k : Nat) : Int) < (l.length : Nat) := by omega
      have hwx := hw x (List.mem_of_getElem? hx)
      have hxm : x ∈ l := List.mem_of_getElem? hx
      obtain ⟨n2, s2, l2, k2⟩ := x
      have hwx2 := hwx
      cases hwx2 with
      | mk _ _ _ _ w1 w2 w3 w4 w5 w6 =>
      have hzz : ∀ (p : Nat × Bool) (M : List (Nat × Bool)), L.drop k = p :: M → (L.zip l)[k]? = some (p, .mk n2 s2 l2 k2) ∧ k < L.length ∧ L.drop (k + 1) = M := fun p M e => by
        have hkL : k < L.length := Nat.lt_of_not_le fun hh => by
          rw [List.drop_eq_nil_of_le hh] at e
          cases e
        rw [List.drop_eq_getElem_cons hkL] at e
        injection e with e1 e2
        exact ⟨List.getElem?_zip_eq_some.2 ⟨by rw [List.getElem?_eq_getElem hkL, e1], hx⟩, hkL, e2⟩
      refine Ob.intro hbk ?_
      refine optK_intro (flat_takeN itC_len hx) ?_
      refine Ob.intro hbi ?_
      rcases par_cons hL with ⟨hc42, hcl, M', hM, hM2⟩ | ⟨hc42, d, r', M', hr', hdl, hM, hM2⟩
      · obtain ⟨hz, hkL, hdr⟩ := hzz _ _ hM
        refine fork (fun q => ?_) (fun q => absurd (show octB s i = 42 by have : ((octB s i : Nat) : Int) = 42 := bne_eq_false_iff_eq.1 q; omega) hc42)
        have h1 := rone_ok (octB s i) n2 s2 l2 k2 hcl hwx
        cases ho : oneP (octB s i) (.mk n2 s2 l2 k2) with
        | none =>
          rw [ho] at h1
          have hno : prtP L l = none := by
            unfold prtP
            split
            · exact catF_bad hz ho
            · rfl
          rw [hno]
          refine ⟨[0, 0, 0, 0, 1, 1, 1, 1, 1, 1], [[], [], [0, 1], [], [0, 1, 2, 3], [0, 1, 2, 3, 4], [0, 1, 2, 3, 4, 5], [0, 1, 2, 3, 4, 5], [0, 1, 2, 3, 4, 5, 6], [0, 1, 2, 3, 4, 5, 6, 7, 8]], [0, 0, 0, 0, 0, 0, 0, 0, 0, 0], [4], [[0], [8], [39, 40], [9], [41, 42], [43], [38], [38], [44], [45]], Ob.intro (by kernel_rfl) ?_⟩
          refine Ob.intro hbi ?_
          repeat first | refine same ?_ | refine Ob.intro hbi ?_
          refine callS h1 [] True.intro rfl ?_
          rintro E G ⟨rfl, t, rfl, ht, hts⟩ _
          refine ⟨_, _, rfl, rfl, ?_⟩
          repeat first | refine same ?_ | refine Ob.intro hbi ?_
          exact ⟨rfl, [], .tup [str ⟨#[]⟩, bo false], ⟨⟨_, rfl, rfl⟩, True.intro, Nat.zero_le _, rfl⟩, rfl, ⟨#[]⟩, rfl, fun _ h => (by cases h)⟩
        | some b2 =>
          rw [ho] at h1
          have hb2l := oneP_len hwx ho
          have hcat : catF one1 ((L.zip l).take (k + 1)) = some (R ++ b2) := by rw [take_snocA hz, catF_snoc, hR, show one1 ((octB s i, false), It.mk n2 s2 l2 k2) = some b2 from ho]; rfl
          refine ⟨[0, 0, 0, 0, 1, 1, 1, 1, 1, 1], [[], [], [0, 1], [], [0, 1, 2, 3], [0, 1, 2, 3, 4], [0, 1, 2, 3, 4, 5], [0, 1, 2, 3, 4, 5], [0, 1, 2, 3, 4, 5, 6], [0, 1, 2, 3, 4, 5, 6, 7, 8]], [0, 0, 0, 0, 0, 0, 0, 0, 0, 0], [4], [[0], [8], [39, 40], [9], [41, 42], [43], [38], [38], [44], [45]], Ob.intro (by kernel_rfl) ?_⟩
          refine Ob.intro hbi ?_
          repeat first | refine same ?_ | refine Ob.intro hbi ?_
          refine callS h1 [] True.intro rfl ?_
          rintro E G ⟨rfl, t, rfl, ht, hts⟩ _
          have ht2 := ht b2 rfl
          subst ht2
          refine ⟨_, _, rfl, rfl, ?_⟩
          repeat first | refine same ?_ | refine Ob.intro hbi ?_
          refine Ob.intro (show (BA R).size + (BA b2).size ≤ 9223372036854775807 by rw [BA_size, BA_size]; omega) ?_
          refine hK ⟨i + 1, k + 1, R ++ b2, by rw [byL_len]; exact his, hkL, g', by rw [hdr]; exact hM2, hcat, by rw [List.length_append]; omega⟩ [] _ (show L.length - k = L.length - (k + 1) + 1 by omega) ⟨⟨rfl, rfl, congrArg str (BA_append R b2), congrArg i64 hinck, congrArg i64 hinci, True.intro⟩, True.intro, rfl, rfl, rfl⟩
      · obtain ⟨hz, hkL, hdr⟩ := hzz _ _ hM
        have hi1 : i + 1 < s.size := Nat.lt_of_not_le fun hh => by
          rw [List.drop_eq_nil_of_le (by rw [byL_len]; exact hh)] at hr'
          cases hr'
        have hdo : octB s (i + 1) = d ∧ (byL s).drop (i + 2) = r' := by
          rw [List.drop_eq_getElem_cons (by rw [byL_len]; exact hi1)] at hr'
          injection hr' with e1 e2
          have := byL_at hi1
          rw [List.getElem?_eq_getElem (by rw [byL_len]; exact hi1)] at this
          exact ⟨(Option.some.inj this).symm.trans e1, e2⟩
        have hinci2 : wrp .i64 (((i + 1 : Nat) : Int) + 1) = ((i + 2 : Nat) : Int) := by rw [wrpE, wi64]; omega
        have hbi1 : (0 : Int) ≤ (i + 1 : Nat) ∧ ((i + 1 : Nat) : Int) < (s.size : Int) := by omega
        refine fork (fun q => absurd hc42 (by have : ((octB s i : Nat) : Int) ≠ 42 := bne_iff_ne.1 q; omega)) (fun q => ?_)
        have hlst : ¬ (n2 = 0 ∧ strEq s2 ⟨#[]⟩ = true ∧ l2.length = 0 ∧ k2.length ≤ 64) → prtP L l = none := fun hh => by
          unfold prtP
          split
          · refine catF_bad hz ?_
            show listP d (.mk n2 s2 l2 k2) = none
            rw [listP_mk, if_neg]
            rw [emB_k]
            rintro ⟨⟨h1, h2, h3⟩, h4⟩
            exact hh ⟨h1.elim (fun h => by cases h) id, h2.elim (fun h => by cases h) id, h3.elim (fun h => by cases h) id, h4⟩
          · rfl
        refine fork (fun e => ?_) (fun e => ?_)
        · have e' : ¬ n2 = 0 := by
            have : (n2 : Int) ≠ 0 := bne_iff_ne.1 e
            omega
          rw [hlst (fun hh => e' hh.1)]
          exact ⟨rfl, [], .tup [str ⟨#[]⟩, bo false], ⟨⟨_, rfl, rfl⟩, True.intro, Nat.zero_le _, rfl⟩, rfl, ⟨#[]⟩, rfl, fun _ h => (by cases h)⟩
        have f1 : n2 = 0 := by
          have : (n2 : Int) = 0 := bne_eq_false_iff_eq.1 e
          omega
        refine fork (fun e => ?_) (fun e => ?_)
        · have e' : strEq s2 ⟨#[]⟩ = false := by
            have : (!strEq s2 ⟨#[]⟩) = true := e
            simpa using this
          rw [hlst (fun hh => by rw [e'] at hh; cases hh.2.1)]
          exact ⟨rfl, [], .tup [str ⟨#[]⟩, bo false], ⟨⟨_, rfl, rfl⟩, True.intro, Nat.zero_le _, rfl⟩, rfl, ⟨#[]⟩, rfl, fun _ h => (by cases h)⟩
        have f2 : strEq s2 ⟨#[]⟩ = true := by
          have : (!strEq s2 ⟨#[]⟩) = false := e
          simpa using this
        refine forkD (fun e => ?_) (fun e => ?_)
        · have e' : ¬ l2.length = 0 := by have : (l2.length : Int) > 0 := e; omega
          rw [hlst (fun hh => e' hh.2.2.1)]
          exact ⟨rfl, [], .tup [str ⟨#[]⟩, bo false], ⟨⟨_, rfl, rfl⟩, True.intro, Nat.zero_le _, rfl⟩, rfl, ⟨#[]⟩, rfl, fun _ h => (by cases h)⟩
        have f3 : l2.length = 0 := by have : ¬ (l2.length : Int) > 0 := e; omega
        refine forkD (fun e => ?_) (fun e => ?_)
        · have e' : ¬ k2.length ≤ 64 := by have : (k2.length : Int) > 64 := e; omega
          rw [hlst (fun hh => e' hh.2.2.2)]
          exact ⟨rfl, [], .tup [str ⟨#[]⟩, bo false], ⟨⟨_, rfl, rfl⟩, True.intro, Nat.zero_le _, rfl⟩, rfl, ⟨#[]⟩, rfl, fun _ h => (by cases h)⟩
        have f4 : k2.length ≤ 64 := by have : ¬ (k2.length : Int) > 64 := e; omega
        have hlp : listP d (.mk n2 s2 l2 k2) = cat2 (some (numN k2.length)) (catP d k2) := by
          rw [listP_mk, if_pos]
          rw [emB_k]
          exact ⟨⟨.inr f1, .inr f2, .inr f3⟩, f4⟩
        have hw2 : wrp .u64 (k2.length : Int) = ((k2.length : Nat) : Int) := by rw [wrpE, wu64]; omega
        have hnum := rnumber_ok k2.length (by omega)
        have hnl := numN_len10 (show k2.length < 18446744073709551616 by omega)
        have harg : u64n k2.length = u64 (wrp .u64 (k2.length : Int)) := by rw [hw2]; rfl
        rw [harg] at hnum
        have hcellx : itC (.mk n2 s2 l2 k2) = [u64n n2, str s2, us l2, itsV k2] := by rw [itC, itsC_flat]; rfl
        refine callP hnum rfl rfl ?_
        refine Ob.intro (show (BA R).size + (BA (numN k2.length)).size ≤ 9223372036854775807 by rw [BA_size, BA_size]; omega) ?_
        refine loopI (α := RkSt d k2) (fun z => [(0, str s), (1, itsV l), (6, str (BA (R ++ numN k2.length ++ z.b))), (7, i64 (k + 1 : Nat)), (8, i64 (i + 1 : Nat)), (9, .ptr 0 0), (12, i64 (z.j : Nat))]) (fun z => [.row [u64n n2, str s2, us l2, itsV k2]]) (fun z => k2.length - z.j) ⟨0, [], Nat.zero_le _, rfl, Nat.zero_le _⟩ [0]
          ⟨⟨rfl, rfl, congrArg str (by rw [List.append_nil]; exact BA_append R _), congrArg i64 hinck, congrArg i64 hinci, rfl, rfl, True.intro⟩, ⟨.inl (congrArg (fun z => some (AObj.row z)) hcellx), True.intro⟩, rfl, rfl, rfl⟩ ?_
        rintro ⟨j, b, hj, hb, hbl⟩ K2 hK2
        have hincj : wrp .i64 ((j : Int) + 1) = ((j + 1 : Nat) : Int) := by rw [wrpE, wi64]; omega
        refine forkD (fun h => ?_) (fun h => ?_)
        · have hjl : j < k2.length := by have : (j : Int) < (k2.length : Int) := h; omega
          obtain ⟨y, hy⟩ : ∃ y, k2[j]? = some y := ⟨_, List.getElem?_eq_getElem hjl⟩
          have hwy := w6 y (List.mem_of_getElem? hy)
          have hbj : (0 : Int) ≤ (j : Nat) ∧ ((j : Nat) : Int) < (k2.length : Nat) := by omega
          have hdl' : isL (octB s (i + 1)) = true := by rw [hdo.1]; exact hdl
          obtain ⟨n3, s3, l3, k3⟩ := y
          have h1 := rone_ok (octB s (i + 1)) n3 s3 l3 k3 hdl' hwy
          rw [hdo.1] at h1
          rw [← hdo.1] at h1
          have hty := flat_takeN itC_len hy
          cases ho : oneP d (.mk n3 s3 l3 k3) with
          | none =>
            rw [hdo.1, ho] at h1
            rw [← hdo.1] at h1
            have hno : prtP L l = none := by
              unfold prtP
              split
              · refine catF_bad hz ?_
                show listP d (.mk n2 s2 l2 k2) = none
                rw [hlp, catP_bad hy ho]
                rfl
              · rfl
            rw [hno]
            refine ⟨[0, 0, 0, 0, 0, 0, 0, 0, 1, 1, 1, 1, 1, 1], [[], [], [0, 1], [], [3], [], [3, 4, 5], [3, 4, 5, 6], [0, 1, 2, 3, 4, 5, 6, 7], [0, 1, 2, 3, 4, 5, 6, 7, 8], [0, 1, 2, 3, 4, 5, 6, 7, 8, 9], [0, 1, 2, 3, 4, 5, 6, 7, 8, 9], [0, 1, 2, 3, 4, 5, 6, 7, 8, 9, 10], [0, 1, 2, 3, 4, 5, 6, 7, 8, 9, 10, 11, 12]], [0, 0, 0, 0, 0, 0, 0, 0, 0, 0, 0, 0, 0, 0], [8], [[0], [8], [88, 89], [9], [91], [12], [92, 93], [94], [90, 95], [96], [87], [87], [97], [98]], Ob.intro (by kernel_rfl) ?_⟩
            refine Ob.intro hbi1 ?_
            refine Ob.intro hbj ?_
            refine optK_intro hty ?_
            repeat first | refine same ?_ | refine Ob.intro hbi1 ?_ | refine Ob.intro hbj ?_ | refine optK_intro hty ?_
            refine callS h1 [] True.intro rfl ?_
            rintro E G ⟨rfl, t, rfl, ht, hts⟩ _
            refine ⟨_, _, rfl, rfl, ?_⟩
            repeat first | refine same ?_ | refine Ob.intro hbi1 ?_ | refine Ob.intro hbj ?_ | refine optK_intro hty ?_
            exact ⟨rfl, [], .tup [str ⟨#[]⟩, bo false], ⟨⟨_, rfl, rfl⟩, True.intro, Nat.zero_le _, rfl⟩, rfl, ⟨#[]⟩, rfl, fun _ h => (by cases h)⟩
          | some b2 =>
            rw [hdo.1, ho] at h1
            rw [← hdo.1] at h1
            have hb2l := oneP_len hwy ho
            have hcat : catP d (k2.take (j + 1)) = some (b ++ b2) := by rw [take_snocA hy, catP_snoc, hb, ho]; rfl
            refine ⟨[0, 0, 0, 0, 0, 0, 0, 0, 1, 1, 1, 1, 1, 1], [[], [], [0, 1], [], [3], [], [3, 4, 5], [3, 4, 5, 6], [0, 1, 2, 3, 4, 5, 6, 7], [0, 1, 2, 3, 4, 5, 6, 7, 8], [0, 1, 2, 3, 4, 5, 6, 7, 8, 9], [0, 1, 2, 3, 4, 5, 6, 7, 8, 9], [0, 1, 2, 3, 4, 5, 6, 7, 8, 9, 10], [0, 1, 2, 3, 4, 5, 6, 7, 8, 9, 10, 11, 12]], [0, 0, 0, 0, 0, 0, 0, 0, 0, 0, 0, 0, 0, 0], [8], [[0], [8], [88, 89], [9], [91], [12], [92, 93], [94], [90, 95], [96], [87], [87], [97], [98]], Ob.intro (by kernel_rfl) ?_⟩
            refine Ob.intro hbi1 ?_
            refine Ob.intro hbj ?_
            refine optK_intro hty ?_
            repeat first | refine same ?_ | refine Ob.intro hbi1 ?_ | refine Ob.intro hbj ?_ | refine optK_intro hty ?_
            refine callS h1 [] True.intro rfl ?_
            rintro E G ⟨rfl, t, rfl, ht, hts⟩ _
            have ht2 := ht b2 rfl
            subst ht2
            refine ⟨_, _, rfl, rfl, ?_⟩
            repeat first | refine same ?_ | refine Ob.intro hbi1 ?_ | refine Ob.intro hbj ?_ | refine optK_intro hty ?_
            refine Ob.intro (show (BA (R ++ numN k2.length ++ b)).size + (BA b2).size ≤ 9223372036854775807 by rw [BA_size, BA_size, List.length_append, List.length_append]; omega) ?_
            refine hK2 ⟨j + 1, b ++ b2, hjl, hcat, by rw [List.length_append]; omega⟩ [0] _ (show k2.length - j = k2.length - (j + 1) + 1 by omega) ⟨⟨rfl, rfl, congrArg str (by rw [BA_append, List.append_assoc]), rfl, rfl, rfl, congrArg i64 hincj, True.intro⟩, ⟨.inl rfl, True.intro⟩, rfl, rfl, rfl⟩
        · have hjl : j = k2.length := by have : ¬ (j : Int) < (k2.length : Int) := h; omega
          rw [hjl, List.take_length] at hb
          have hcat : catF one1 ((L.zip l).take (k + 1)) = some (R ++ numN k2.length ++ b) := by
            rw [take_snocA hz, catF_snoc, hR, show one1 ((d, true), It.mk n2 s2 l2 k2) = some (numN k2.length ++ b) from by show listP d (.mk n2 s2 l2 k2) = _; rw [hlp, hb]; rfl, List.append_assoc]
            rfl
          refine hK ⟨i + 2, k + 1, R ++ numN k2.length ++ b, by rw [byL_len]; exact hi1, hkL, g', by rw [hdr, hdo.2]; exact hM2, hcat, by rw [List.length_append, List.length_append]; omega⟩ [] _ (show L.length - k = L.length - (k + 1) + 1 by omega) ⟨⟨rfl, rfl, rfl, rfl, congrArg i64 hinci2, True.intro⟩, True.intro, rfl, rfl, rfl⟩
    · have his : i = s.size := by have : ¬ (i : Int) < (s.size : Int) := h; omega
      rw [List.drop_eq_nil_of_le (by rw [byL_len]; omega)] at hL
      have hLk : L.drop k = [] := (Option.some.inj hL).symm
      have hkL : k = L.length := by
        have := congrArg List.length hLk
        rw [List.length_drop] at this
        simp at this
        omega
      rw [hkL, List.take_of_length_le (by rw [List.length_zip]; omega)] at hR
      refine fork (fun g => ?_) (fun g => ?_)
      · have g' : L.length = l.length := by
          have : (k : Int) = (l.length : Int) := beq_iff_eq.1 g
          omega
        have hyes : prtP L l = some R := by unfold prtP; rw [if_pos g', hR]
        rw [hyes]
        exact ⟨rfl, [], .tup [str (BA R), bo true], ⟨⟨_, rfl, rfl⟩, True.intro, Nat.zero_le _, rfl⟩, rfl, BA R, rfl, fun _ h => by cases h; rfl⟩
      · have g' : L.length ≠ l.length := fun e => by
          have : (k : Int) ≠ (l.length : Int) := beq_eq_false_iff_ne.1 g
          omega
        have hno : prtP L l = none := by unfold prtP; rw [if_neg g']
        rw [hno]
        exact ⟨rfl, [], .tup [str (BA R), bo false], ⟨⟨_, rfl, rfl⟩, True.intro, Nat.zero_le _, rfl⟩, rfl, BA R, rfl, fun _ h => (by cases h)⟩
end Go.Proofs.Ythebddjpnkimjaa.A
