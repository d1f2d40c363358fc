/- record, the reference: Unrights. No condition. -/
import Derived.Test.YtkbpddejafdmdaaGreatRx
namespace Go.Proofs.YtkbpddejafdmdaaGreat.A
open Go
set_option linter.unusedVariables false
set_option linter.unusedSimpArgs false
set_option maxRecDepth 100000
set_option pp.maxSteps 400

def prI : List It → Option (Nat × Nat)
  | [.mk a _ _ _, .mk b _ _ _] => some (a, b)
  | _ => none
theorem prP_I (t : ByteArray) : prP t = match begP [110, 110] t with | .ok l m => (prI l).map (fun x => (x, m)) | .err _ => none := by
  unfold prP
  cases hp : begP [110, 110] t with
  | err e => rfl
  | ok l m =>
    have hl := begP_length sh_nn hp
    match l, hl with
    | [.mk g _ _ _, .mk _ k _ _], _ => rfl
theorem unrP_I (s : ByteArray) : unrP s = match itmP 5 [110, 110] s with
    | some (q, L) => if q ≤ 16 then (match allM prI L with | some W => if loadsB q W = true then some (q, W) else none | none => none) else none
    | none => none := by
  unfold unrP itmP
  rw [hd_bn]
  cases hp : begP [98, 110] s with
  | err e => rfl
  | ok l m =>
    have hl := begP_length sh_bn hp
    match l, hl with
    | [.mk a _ _ _, .mk q _ _ _], _ =>
      dsimp only
      by_cases ha : a = 5
      · rw [if_pos ha]
        by_cases hq : q ≤ 1073741824
        · rw [if_pos ⟨ha, hq⟩]
          dsimp only
          rw [many_all prP_I]
          cases manyP (rdI [110, 110]) (rest s m).size (rest s m) with
          | none => rfl
          | some L =>
            rw [show (some L).bind (allM prI) = allM prI L from rfl, show Option.map (fun L => (q, L)) (some L) = some (q, L) from rfl]
            dsimp only
            by_cases hq16 : q ≤ 16
            · rw [if_pos hq16]
              cases allM prI L <;> rfl
            · rw [if_neg hq16]
              cases allM prI L with
              | none => rfl
              | some W =>
                have : loadsB q W = false := @decide_eq_false _ (Classical.propDecidable _) (fun hh => hq16 (by have := hh.2.2.2.2.1; omega))
                dsimp only
                rw [if_neg (show ¬ loadsB q W = true by rw [this]; decide)]
        · rw [if_neg (fun hh => hq hh.2)]
          cases manyP (rdI [110, 110]) (rest s m).size (rest s m) with
          | none => rfl
          | some L =>
            rw [show Option.map (fun L => (q, L)) (some L) = some (q, L) from rfl]
            dsimp only
            rw [if_neg (show ¬ q ≤ 16 by omega)]
      · rw [if_neg ha, if_neg (fun hh => ha hh.1)]
theorem beg_64 {sh : List Nat} {s : ByteArray} {l : List It} {m : Nat} (h : begP sh s = .ok l m) : ∀ x ∈ l, WI x := (beg_can h).2.2
theorem many_64 {b : List Nat} : ∀ {n : Nat} {s : ByteArray} {L : List (List It)}, manyP (rdI b) n s = some L → ∀ l ∈ L, ∀ x ∈ l, WI x
  | 0, s, L, h, l, hl => by
    by_cases hz : s.size = 0
    · rw [manyP_end hz] at h; cases h; cases hl
    · rw [show manyP (rdI b) 0 s = none from if_neg hz] at h; cases h
  | n + 1, s, L, h, l, hl => by
    by_cases hz : s.size = 0
    · rw [manyP_end hz] at h; cases h; cases hl
    · cases hb : begP b s with
      | err e => rw [manyP_none hz (by unfold rdI; rw [hb])] at h; cases h
      | ok l0 m =>
        rw [manyP_some (rd := rdI b) (x := l0) (m := m) hz (by unfold rdI; rw [hb])] at h
        cases hq : manyP (rdI b) n (rest s m) with
        | none => rw [hq] at h; cases h
        | some r =>
          rw [hq] at h
          cases h
          rcases List.mem_cons.1 hl with rfl | hl
          · exact beg_64 hb
          · exact many_64 hq l hl
theorem itm_64 {first : Nat} {b : List Nat} {s : ByteArray} {q : Nat} {L : List (List It)} (h : itmP first b s = some (q, L)) : ∀ l ∈ L, ∀ x ∈ l, WI x := by
  unfold itmP at h
  cases hp : begP [98, 110] s with
  | err e => rw [hp] at h; cases h
  | ok l m =>
    rw [hp] at h
    have hl := begP_length sh_bn hp
    match l, hl, h with
    | [.mk a _ _ _, .mk q' _ _ _], _, h =>
      dsimp only at h
      split at h
      · cases hq : manyP (rdI b) (rest s m).size (rest s m) with
        | none => rw [hq] at h; cases h
        | some r =>
          rw [hq] at h
          cases h
          exact many_64 hq
      · cases h
theorem allM_all {α β : Type} {f : α → Option β} {P : α → Prop} {Q : β → Prop} (hf : ∀ x y, P x → f x = some y → Q y) : ∀ {l : List α} {r : List β}, (∀ x ∈ l, P x) → allM f l = some r → ∀ y ∈ r, Q y
  | [], r, _, h, y, hy => by cases h; cases hy
  | a :: l, r, hp, h, y, hy => by
    unfold allM at h
    cases hfa : f a with
    | none => rw [hfa] at h; cases h
    | some z =>
      rw [hfa] at h
      cases hq : allM f l with
      | none => rw [hq] at h; cases h
      | some r' =>
        rw [hq] at h
        cases h
        rcases List.mem_cons.1 hy with rfl | hy
        · exact hf _ _ (hp a (List.mem_cons_self ..)) hfa
        · exact allM_all hf (fun x hx => hp x (List.mem_cons_of_mem _ hx)) hq y hy
def RgR (o : Option (Nat × Rg)) : AEnd → Heap → Prop := fun E G => match o with
  | some (q, g) => ∃ R : List Rt, E = .ret (.tup [.ptr 3 0, bo true]) ∧ G = [.dead, .dead, .row (flat rtC R), .row [i64 (g.length : Nat), i64 (q : Nat), .slc 2 0 R.length 3]]
  | none => E = .ret (.tup [.sc (.pointer none), bo false]) ∧ G = []
theorem belowH_rg17 (n q : Int) (R : List Rt) : belowH 4 [.dead, .dead, .row (flat rtC R), .row [i64 n, i64 q, .slc 2 0 R.length 3]] = true := by
  have h : belowL 4 (flat rtC R) = true := belowL_flat (fun _ => rfl) R
  simp only [belowH, belowO, h]
  rfl
structure RgSt17 (L : List (List It)) where
  j : Nat
  W : Rg
  hj : j ≤ L.length
  hW : allM prI (L.take j) = some W
theorem runrights_ok (s : ByteArray) (hs : s.size ≤ 100000) : ACalls Tryz.prog 12 [str s] [] (RgR (unrP s)) := by
  have hi := items_ok s ⟨#[110, 110]⟩ 5 (by decide) sh_nn (by decide) (by omega)
  rw [show byL ⟨#[110, 110]⟩ = [110, 110] from rfl] at hi
  rw [unrP_I]
  cases hp : itmP 5 [110, 110] s with
  | none =>
    rw [hp] at hi
    refine acalls_of_awp hT mixed Tryz.func12 rfl (by kernel_rfl) (by kernel_rfl) (Nat.le_of_ble_eq_true rfl) ?_
    refine callP hi rfl rfl ?_
    exact ⟨rfl, [], .tup [.sc (.pointer none), bo false], ⟨⟨_, rfl, rfl⟩, True.intro, Nat.zero_le _, rfl⟩, rfl, rfl⟩
  | some qL =>
    obtain ⟨q, L⟩ := qL
    rw [hp] at hi
    have hlen := itm_len sh_nn hp
    have h64 := itm_64 hp
    dsimp only
    obtain ⟨O, hO⟩ : ∃ O, O = (if q ≤ 16 then (match allM prI L with | some W => if loadsB q W = true then some (q, W) else none | none => none) else none : Option (Nat × Rg)) := ⟨_, rfl⟩
    rw [← hO]
    refine acalls_of_awp hT mixed Tryz.func12 rfl (by kernel_rfl) (by kernel_rfl) (Nat.le_of_ble_eq_true rfl) ?_
    refine callP hi rfl rfl ?_
    refine forkD (fun g2 => ?_) (fun g2 => ?_)
    · have hq2 : ¬ q ≤ 16 := by have : (q : Int) > 16 := g2; omega
      have : O = none := by rw [hO, if_neg hq2]
      rw [this]
      exact ⟨rfl, [], .tup [.sc (.pointer none), bo false], ⟨⟨_, rfl, rfl⟩, True.intro, Nat.zero_le _, rfl⟩, rfl, rfl⟩
    have hq2 : q ≤ 16 := by have : ¬ (q : Int) > 16 := g2; omega
    rw [if_pos hq2] at hO
    have hLl : L.length ≤ 100000 := itm_many sh_nn hp hs
    refine loopI (α := RgSt17 L) (fun x => [(4, u64n q), (5, ilV L), (7, .slc 0 0 x.W.length 1), (8, .slc 1 0 x.W.length 1), (9, i64 (x.j : Nat))]) (fun x => [.row ((plusL x.W).map u64n), .row ((minusL x.W).map u64n)]) (fun x => L.length - x.j) ⟨0, [], Nat.zero_le _, rfl⟩ [0, 1] ⟨⟨rfl, rfl, rfl, rfl, rfl, True.intro⟩, ⟨.inl rfl, .inl rfl, True.intro⟩, rfl, rfl, rfl⟩ ?_
    rintro ⟨j, W, hj, hW⟩ K hK
    have hWl : W.length = j := by rw [allM_len hW, List.length_take]; omega
    have hinc : wrp .i64 ((j : Int) + 1) = ((j + 1 : Nat) : Int) := by rw [wrpE, wi64]; omega
    have hob : (W.length + 1) * 8 ≤ 140737488355328 ∧ W.length + 1 ≤ 9223372036854775807 := by omega
    refine forkD (fun h => ?_) (fun h => ?_)
    · have h' : j < L.length := by have : (j : Int) < (L.length : Int) := h; omega
      obtain ⟨l, hl⟩ : ∃ l, L[j]? = some l := ⟨_, List.getElem?_eq_getElem h'⟩
      have hik : (0 : Int) ≤ (j : Nat) ∧ ((j : Nat) : Int) < (L.length : Nat) := by omega
      have h3 := hlen l (List.mem_of_getElem? hl)
      have hcl := cellF0 itV_len hl (a := itsV l) rfl
      match l, h3 with
      | [.mk a s1 l1 k1, .mk b s2 l2 k2], _ =>
        have h0 : (0 : Int) ≤ 0 ∧ (0 : Int) < ((2 : Nat) : Int) := by omega
        have h1 : (0 : Int) ≤ 1 ∧ (1 : Int) < ((2 : Nat) : Int) := by omega
        have hI : prI [.mk a s1 l1 k1, .mk b s2 l2 k2] = some (a, b) := rfl
        repeat first | refine same ?_ | refine Ob.intro hik ?_ | refine optK_intro hcl ?_ | refine Ob.intro h0 ?_ | refine Ob.intro h1 ?_
        refine Ob.intro rfl ?_
        refine optK_intro (rdN_all (cs := (plusL W).map u64n) rfl (show W.length * 1 = _ by rw [List.length_map, plus_len]; omega)) ?_
        refine Ob.intro hob ?_
        repeat first | refine same ?_ | refine Ob.intro hik ?_ | refine optK_intro hcl ?_ | refine Ob.intro h0 ?_ | refine Ob.intro h1 ?_
        refine Ob.intro rfl ?_
        refine optK_intro (rdN_all (cs := (minusL W).map u64n) rfl (show W.length * 1 = _ by rw [List.length_map, minus_len]; omega)) ?_
        refine Ob.intro hob ?_
        refine hK ⟨j + 1, W ++ [(a, b)], h', by rw [take_snocA hl, allM_snoc, hW]; rfl⟩ [3, 5] _ (show L.length - j = L.length - (j + 1) + 1 by omega) ⟨⟨rfl, rfl, ?_, ?_, congrArg i64 hinc, True.intro⟩, ⟨.inl ?_, .inl ?_, True.intro⟩, rfl, rfl, rfl⟩
        · show AV.slc 3 0 (W.length + 1) 1 = .slc 3 0 (W ++ [_]).length 1
          rw [List.length_append]
          rfl
        · show AV.slc 5 0 (W.length + 1) 1 = .slc 5 0 (W ++ [_]).length 1
          rw [List.length_append]
          rfl
        · show some (AObj.row ((plusL W).map u64n ++ [u64n a])) = some (renO _ (.row ((plusL (W ++ [_])).map u64n)))
          rw [renO_us, plus_snoc, List.map_append]
          rfl
        · show some (AObj.row ((minusL W).map u64n ++ [u64n b])) = some (renO _ (.row ((minusL (W ++ [_])).map u64n)))
          rw [renO_us, minus_snoc, List.map_append]
          rfl
    · have h' : j = L.length := by have : ¬ (j : Int) < (L.length : Int) := h; omega
      rw [h', List.take_length] at hW
      rw [hW] at hO
      dsimp only at hO
      have hb64 : ∀ r ∈ W, r.1 < 18446744073709551616 ∧ r.2 < 18446744073709551616 := allM_all (P := fun l => l.length = 2 ∧ ∀ x ∈ l, WI x) (Q := fun r => r.1 < 18446744073709551616 ∧ r.2 < 18446744073709551616) (fun x y hx hy => by
        match x, hx with
        | [.mk a _ _ _, .mk b _ _ _], hx =>
          cases hy
          have w1 := hx.2 _ (List.mem_cons_self ..)
          have w2 := hx.2 _ (List.mem_cons_of_mem _ (List.mem_cons_self ..))
          cases w1 with
          | mk _ _ _ _ e1 _ _ _ _ _ =>
            cases w2 with
            | mk _ _ _ _ e2 _ _ _ _ _ => exact ⟨e1, e2⟩) (fun l hl => ⟨hlen l hl, h64 l hl⟩) hW
      have hcv : wrp .i64 ((q : Nat) : Int) = ((q : Nat) : Int) := by rw [wrpE, wi64]; omega
      have hld : ACalls Tryz.prog 28 [i64 (wrp .i64 ((q : Nat) : Int)), us (plusL W), us (minusL W)] [] (loadR ((q : Nat) : Int) (plusL W) (minusL W)) := by
        rw [hcv]
        exact loadM_ok (q : Nat) (plusL W) (minusL W) (fun x hx => by
          obtain ⟨r, hr, rfl⟩ := List.mem_map.1 hx
          exact (hb64 r hr).1) (fun x hx => by
          obtain ⟨r, hr, rfl⟩ := List.mem_map.1 hx
          exact (hb64 r hr).2) (by rw [plus_len]; omega) (by rw [minus_len]; omega)
      have hf : ∀ (H : Heap), nth H 0 = some (.row ((plusL W).map u64n)) → nth H 1 = some (.row ((minusL W).map u64n)) → mapO (frz H 0 8) [i64 (wrp .i64 ((q : Nat) : Int)), .slc 0 0 W.length 1, .slc 1 0 W.length 1] = some [i64 (wrp .i64 ((q : Nat) : Int)), us (plusL W), us (minusL W)] := fun H h h3 => by
        have e1 : frz H 0 8 (.slc 0 0 W.length 1) = some (us (plusL W)) := frz_us3 (k := 6) h (plus_len W).symm rfl
        have e2 : frz H 0 8 (.slc 1 0 W.length 1) = some (us (minusL W)) := frz_us3 (k := 6) h3 (minus_len W).symm rfl
        simp only [mapO, e1, e2]
        rfl
      refine callCut (bs := [i64 (wrp .i64 ((q : Nat) : Int)), us (plusL W), us (minusL W)]) 0 (hf _ rfl rfl) ?_
      refine callS hld [] True.intro rfl ?_
      rintro E G (⟨hl, R, hmade, hRl, rfl, rfl⟩ | ⟨hl, rfl, rfl⟩) _
      · rw [if_pos (show loadsB q W = true from @decide_eq_true _ (Classical.propDecidable _) hl)] at hO
        rw [hO]
        refine ⟨_, [.dead, .dead, .row (flat rtC R), .row [i64 ((plusL W).length : Nat), i64 (((q : Nat) : Int).toNat : Nat), .slc 2 0 R.length 3]], rfl, by simp only [refH, renH, renO_rt]; rfl, ?_⟩
        exact ⟨rfl, [.dead, .dead, .row (flat rtC R), .row [i64 ((plusL W).length : Nat), i64 (((q : Nat) : Int).toNat : Nat), .slc 2 0 R.length 3]], .tup [.ptr 3 0, bo true], ⟨⟨_, rfl, rfl⟩, ⟨.inl rfl, .inl rfl, .inl rfl, .inl rfl, True.intro⟩, Nat.zero_le _, belowH_rg17 _ _ R⟩, R, rfl, by rw [plus_len]; rfl⟩
      · have hlb : loadsB q W = false := @decide_eq_false _ (Classical.propDecidable _) hl
        rw [if_neg (show ¬ loadsB q W = true by rw [hlb]; decide)] at hO
        rw [hO]
        refine ⟨_, _, rfl, rfl, ?_⟩
        exact ⟨rfl, [], .tup [.sc (.pointer none), bo false], ⟨⟨_, rfl, rfl⟩, True.intro, Nat.zero_le _, rfl⟩, rfl, rfl⟩
end Go.Proofs.YtkbpddejafdmdaaGreat.A
