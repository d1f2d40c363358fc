/- record, the reference: Unbase, Undeed. No condition. -/
import Derived.Test.YtkbpddejafdmdaaGreatRv
namespace Go.Proofs.YtkbpddejafdmdaaGreat.A
open Go
set_option linter.unusedVariables false
set_option linter.unusedSimpArgs false
set_option maxRecDepth 100000
set_option pp.maxSteps 400

def enI : List It → Option En
  | [.mk a _ _ _, .mk _ k _ _, .mk _ v _ _] =>
    if a ≤ 1073741824 then
      if (upV v).2.2.2 = 0 then some ⟨k, (a : Nat), (upV v).1, (upV v).2.1, (upV v).2.2.1⟩ else none
    else none
  | _ => none
def enI2 (q : Nat) : List It → Option En
  | [.mk a _ _ _, .mk _ k _ _, .mk _ v _ _] =>
    if (upV v).2.2.2 = 0 then
      if a ≤ q then some ⟨k, (a : Nat), (upV v).1, (upV v).2.1, (upV v).2.2.1⟩ else none
    else none
  | _ => none
theorem enP_I (t : ByteArray) : enP t = match begP [110, 116, 116] t with | .ok l m => (enI l).map (fun x => (x, m)) | .err _ => none := by
  unfold enP
  cases hp : begP [110, 116, 116] t with
  | err e => rfl
  | ok l m =>
    have hl := begP_length sh_ntt hp
    match l, hl with
    | [.mk g _ _ _, .mk _ k _ _, .mk _ v _ _], _ =>
      show (if g ≤ 1073741824 then _ else none) = (if g ≤ 1073741824 then _ else none : Option En).map _
      split
      · split <;> rfl
      · rfl
theorem enI_2 {q : Nat} (hq : q ≤ 1073741824) : ∀ {l : List It} {w : En}, enI2 q l = some w → enI l = some w := by
  intro l w h
  match l, h with
  | [.mk a _ _ _, .mk _ k _ _, .mk _ v _ _], h0 =>
    have h : (if (upV v).2.2.2 = 0 then (if a ≤ q then some (En.mk k (a : Nat) (upV v).1 (upV v).2.1 (upV v).2.2.1) else none) else none) = some w := h0
    show (if a ≤ 1073741824 then (if (upV v).2.2.2 = 0 then some (En.mk k (a : Nat) (upV v).1 (upV v).2.1 (upV v).2.2.1) else none) else none) = some w
    split at h
    · rename_i he
      split at h
      · rw [if_pos (by omega), if_pos he]; exact h
      · cases h
    · cases h
theorem enI_up {q : Nat} : ∀ {l : List It} {w : En}, enI l = some w → w.q ≤ (q : Int) → enI2 q l = some w := by
  intro l w h hw
  match l, h with
  | [.mk a _ _ _, .mk _ k _ _, .mk _ v _ _], h0 =>
    have h : (if a ≤ 1073741824 then (if (upV v).2.2.2 = 0 then some (En.mk k (a : Nat) (upV v).1 (upV v).2.1 (upV v).2.2.1) else none) else none) = some w := h0
    show (if (upV v).2.2.2 = 0 then (if a ≤ q then some (En.mk k (a : Nat) (upV v).1 (upV v).2.1 (upV v).2.2.1) else none) else none) = some w
    split at h
    · split at h
      · rename_i he
        cases h
        dsimp only at hw
        rw [if_pos he, if_pos (by omega)]
      · cases h
    · cases h
theorem allM_mono {α β : Type} {f g : α → Option β} (h : ∀ {x y}, f x = some y → g x = some y) : ∀ {l : List α} {r : List β}, allM f l = some r → allM g l = some r
  | [], r, hh => hh
  | a :: l, r, hh => by
    unfold allM at hh ⊢
    cases hf : f a with
    | none => rw [hf] at hh; cases hh
    | some y =>
      rw [hf] at hh
      rw [h hf]
      cases hq : allM f l with
      | none => rw [hq] at hh; cases hh
      | some r' =>
        rw [hq] at hh
        cases hh
        show (allM g l).map _ = _
        rw [allM_mono h hq]
        rfl
theorem allM_up {q : Nat} : ∀ {L : List (List It)} {W : List En}, allM enI L = some W → (∀ w ∈ W, w.q ≤ (q : Int)) → allM (enI2 q) L = some W
  | [], W, h, _ => h
  | a :: l, W, h, hw => by
    unfold allM at h ⊢
    cases hf : enI a with
    | none => rw [hf] at h; cases h
    | some y =>
      rw [hf] at h
      cases hq : allM enI l with
      | none => rw [hq] at h; cases h
      | some r' =>
        rw [hq] at h
        cases h
        rw [enI_up hf (hw y (List.mem_cons_self ..))]
        show (allM (enI2 q) l).map _ = _
        rw [allM_up hq fun w hw' => hw w (List.mem_cons_of_mem _ hw')]
        rfl
theorem en_same {q : Nat} (hq : q ≤ 1073741824) (L : List (List It)) : (match allM enI L with | some W => if basedB (q : Int) W = true then some (q, W) else none | none => none) = (match allM (enI2 q) L with | some W => if basedB (q : Int) W = true then some (q, W) else none | none => none) := by
  cases h2 : allM (enI2 q) L with
  | some W => rw [allM_mono (enI_2 hq) h2]
  | none =>
    cases h1 : allM enI L with
    | none => rfl
    | some W =>
      dsimp only
      cases hb : basedB (q : Int) W with
      | false => rfl
      | true =>
        obtain ⟨_, hok⟩ := based_all hb
        rw [allM_up h1 fun w hw => (okE_seq (hok w hw)).2] at h2
        cases h2
theorem unbP_I (s : ByteArray) : unbP s = match itmP 2 [110, 116, 116] s with
    | some (q, L) => if q ≤ 1073741824 then (match allM (enI2 q) L with | some W => if basedB (q : Int) W = true then some (q, W) else none | none => none) else none
    | none => none := by
  unfold unbP itmP
  rw [hd_bn]
  cases hp : begP [98, 110] s with
  | err e => rfl
  | ok l m =>
    have hl := begP_length sh_bn hp
    match l, hl with
    | [.mk a _ _ _, .mk q _ _ _], _ =>
      dsimp only
      by_cases ha : a = 2
      · rw [if_pos ha]
        by_cases hq : q ≤ 1073741824
        · rw [if_pos ⟨ha, hq⟩]
          dsimp only
          rw [many_all enP_I]
          cases manyP (rdI [110, 116, 116]) (rest s m).size (rest s m) with
          | none => rfl
          | some L =>
            rw [show (some L).bind (allM enI) = allM enI L from rfl, show Option.map (fun L => (q, L)) (some L) = some (q, L) from rfl]
            dsimp only
            rw [if_pos hq, ← en_same hq]
            cases allM enI L <;> rfl
        · rw [if_neg (fun hh => hq hh.2)]
          cases manyP (rdI [110, 116, 116]) (rest s m).size (rest s m) with
          | none => rfl
          | some L =>
            rw [show Option.map (fun L => (q, L)) (some L) = some (q, L) from rfl]
            dsimp only
            rw [if_neg hq]
      · rw [if_neg ha, if_neg (fun hh => ha hh.1)]
theorem enI2_b {q : Nat} {l : List It} {w : En} (h : enI2 q l = some w) : w.b < 18446744073709551616 := by
  match l, h with
  | [.mk a _ _ _, .mk _ k _ _, .mk _ v _ _], h0 =>
    have h : (if (upV v).2.2.2 = 0 then (if a ≤ q then some (En.mk k (a : Nat) (upV v).1 (upV v).2.1 (upV v).2.2.1) else none) else none) = some w := h0
    clear h0
    split at h
    · rename_i he
      split at h
      · cases h
        generalize hu : upV v = u at *
        obtain ⟨n, t, b, e⟩ := u
        dsimp only at he ⊢
        subst he
        exact (up_right hu).1
      · cases h
    · cases h
def rbA (o : Option (Nat × List En)) : AV := match o with
  | some (q, L) => .tup [i64 (q : Nat), enV L, bo true]
  | none => .tup [i64 0, nilS, bo false]
structure RbSt17 (q : Nat) (L : List (List It)) where
  j : Nat
  W : List En
  hj : j ≤ L.length
  hW : allM (enI2 q) (L.take j) = some W
theorem runbase_ok (s : ByteArray) (hs : s.size ≤ 100000) : ACalls Tryz.prog 10 [str s] [] (Ret (rbA (unbP s))) := by
  have hi := items_ok s ⟨#[110, 116, 116]⟩ 2 (by decide) sh_ntt (by decide) (by omega)
  rw [show byL ⟨#[110, 116, 116]⟩ = [110, 116, 116] from rfl] at hi
  rw [unbP_I]
  cases hp : itmP 2 [110, 116, 116] s with
  | none =>
    rw [hp] at hi
    refine acalls_of_awp hT mixed Tryz.func10 rfl (by kernel_rfl) (by kernel_rfl) (Nat.le_of_ble_eq_true rfl) ?_
    refine callP hi rfl rfl ?_
    refine end0 rfl rfl rfl rfl
  | some qL =>
    obtain ⟨q, L⟩ := qL
    rw [hp] at hi
    have hlen := itm_len sh_ntt hp
    dsimp only
    obtain ⟨O, hO⟩ : ∃ O, O = (if q ≤ 1073741824 then (match allM (enI2 q) L with | some W => if basedB (q : Int) W = true then some (q, W) else none | none => none) else none : Option (Nat × List En)) := ⟨_, rfl⟩
    rw [← hO]
    have hOn : allM (enI2 q) L = none → O = none := fun hn => by rw [hO, hn]; split <;> rfl
    refine acalls_of_awp hT mixed Tryz.func10 rfl (by kernel_rfl) (by kernel_rfl) (Nat.le_of_ble_eq_true rfl) ?_
    refine callP hi rfl rfl ?_
    refine forkD (fun g2 => ?_) (fun g2 => ?_)
    · have hq2 : ¬ q ≤ 1073741824 := by have : (q : Int) > 1073741824 := g2; omega
      have : O = none := by rw [hO, if_neg hq2]
      rw [this]
      refine end0 rfl rfl rfl rfl
    have hq2 : q ≤ 1073741824 := by have : ¬ (q : Int) > 1073741824 := g2; omega
    rw [if_pos hq2] at hO
    have hLl : L.length ≤ 100000 := itm_many sh_ntt hp hs
    refine loopI (α := RbSt17 q L) (fun x => [(5, u64n q), (6, ilV L), (8, .slc 0 0 x.W.length 5), (9, i64 (x.j : Nat))]) (fun x => [.row (flat enC x.W)]) (fun x => L.length - x.j) ⟨0, [], Nat.zero_le _, rfl⟩ [0] ⟨⟨rfl, rfl, rfl, rfl, True.intro⟩, ⟨.inl rfl, True.intro⟩, rfl, rfl, rfl⟩ ?_
    rintro ⟨j, W, hj, hW⟩ K hK
    have hWl : W.length = j := by rw [allM_len hW, List.length_take]; omega
    have hinc : wrp .i64 ((j : Int) + 1) = ((j + 1 : Nat) : Int) := by rw [wrpE, wi64]; omega
    have hob : (W.length + 1) * 56 ≤ 140737488355328 ∧ W.length + 1 ≤ 9223372036854775807 := by omega
    have hcv : wrp .i64 ((q : Nat) : Int) = ((q : Nat) : Int) := by rw [wrpE, wi64]; omega
    refine forkD (fun h => ?_) (fun h => ?_)
    · have h' : j < L.length := by have : (j : Int) < (L.length : Int) := h; omega
      obtain ⟨l, hl⟩ : ∃ l, L[j]? = some l := ⟨_, List.getElem?_eq_getElem h'⟩
      have hik : (0 : Int) ≤ (j : Nat) ∧ ((j : Nat) : Int) < (L.length : Nat) := by omega
      have h3 := hlen l (List.mem_of_getElem? hl)
      have hcl := cellF0 itV_len hl (a := itsV l) rfl
      match l, h3 with
      | [.mk a s1 l1 k1, .mk b s2 l2 k2, .mk c s3 l3 k3], _ =>
        have h0 : (0 : Int) ≤ 0 ∧ (0 : Int) < ((3 : Nat) : Int) := by omega
        have h1 : (0 : Int) ≤ 1 ∧ (1 : Int) < ((3 : Nat) : Int) := by omega
        have h2 : (0 : Int) ≤ 2 ∧ (2 : Int) < ((3 : Nat) : Int) := by omega
        have hIe : enI2 q [.mk a s1 l1 k1, .mk b s2 l2 k2, .mk c s3 l3 k3] = if (upV s3).2.2.2 = 0 then (if a ≤ q then some (En.mk s2 (a : Nat) (upV s3).1 (upV s3).2.1 (upV s3).2.2.1) else none) else none := rfl
        have bad : enI2 q [.mk a s1 l1 k1, .mk b s2 l2 k2, .mk c s3 l3 k3] = none → O = none := fun hh => hOn (allM_bad (List.mem_of_getElem? hl) hh)
        have hu := rUnpack_ok s3
        unfold upR at hu
        by_cases he : (upV s3).2.2.2 = 0
        · rw [if_pos he] at hIe
          rw [he] at hu
          generalize (upV s3).1 = vn at *
          generalize (upV s3).2.1 = vt at *
          generalize (upV s3).2.2.1 = vb at *
          by_cases ha : a ≤ q
          · have hI : enI2 q [.mk a s1 l1 k1, .mk b s2 l2 k2, .mk c s3 l3 k3] = some (En.mk s2 (a : Nat) vn vt vb) := by rw [hIe, if_pos ha]
            have hca : wrp .i64 ((a : Nat) : Int) = ((a : Nat) : Int) := by rw [wrpE, wi64]; omega
            cases vn <;>
            · repeat first | refine same ?_ | refine Ob.intro hik ?_ | refine optK_intro hcl ?_ | refine Ob.intro h0 ?_ | refine Ob.intro h1 ?_ | refine Ob.intro h2 ?_
              refine callP hu rfl rfl ?_
              repeat first | refine same ?_ | refine Ob.intro hik ?_ | refine optK_intro hcl ?_ | refine Ob.intro h0 ?_ | refine Ob.intro h1 ?_ | refine Ob.intro h2 ?_
              refine forkD (fun g4 => absurd (show (a : Int) > (q : Int) from g4) (by omega)) (fun _ => ?_)
              refine ⟨[0, 0, 0, 0, 0, 0, 0, 0, 0, 0, 0, 0, 0, 0, 0, 0, 0, 0, 0, 1, 1], [[], [], [], [1, 2], [1, 2, 3], [1, 2, 3, 4], [1, 2, 3, 4, 5], [1, 2, 3, 4, 5, 6], [1, 2, 3, 4, 5, 6, 7], [], [], [9, 10], [9, 10, 11], [9, 10, 11, 12], [9, 10, 11, 12, 13], [9, 10, 11, 12, 13, 14], [], [1, 2, 3, 4, 5, 6, 7, 8, 9, 10, 11, 12, 13, 14, 15, 16], [1, 2, 3, 4, 5, 6, 7, 8, 9, 10, 11, 12, 13, 14, 15, 16, 17], [0, 1, 2, 3, 4, 5, 6, 7, 8, 9, 10, 11, 12, 13, 14, 15, 16, 17, 18], [0, 1, 2, 3, 4, 5, 6, 7, 8, 9, 10, 11, 12, 13, 14, 15, 16, 17, 18, 19]], [0, 0, 0, 0, 0, 0, 0, 0, 0, 0, 0, 0, 0, 0, 0, 0, 0, 0, 0, 1, 1], [19], [[8], [6], [9], [56, 57], [58], [59], [60], [61], [62], [6], [9], [64, 65], [66], [67], [68], [69], [10], [63, 70, 71], [72], [55, 73], [74]], Ob.intro (by kernel_rfl) ?_⟩
              repeat first | refine same ?_ | refine Ob.intro hik ?_ | refine optK_intro hcl ?_ | refine Ob.intro h0 ?_ | refine Ob.intro h1 ?_ | refine Ob.intro h2 ?_
              refine Ob.intro rfl ?_
              refine optK_intro (rdN_all (cs := flat enC W) rfl (by rw [flat_len enC_len])) ?_
              refine Ob.intro hob ?_
              repeat first | refine same ?_ | refine Ob.intro hik ?_ | refine optK_intro hcl ?_ | refine Ob.intro h0 ?_ | refine Ob.intro h1 ?_ | refine Ob.intro h2 ?_
              refine hK ⟨j + 1, W ++ [En.mk s2 (a : Nat) _ vt vb], h', by rw [take_snocA hl, allM_snoc, hW]; show (enI2 q _).map (fun y => W ++ [y]) = _; rw [hI]; rfl⟩ [3] _ (show L.length - j = L.length - (j + 1) + 1 by omega) ⟨⟨rfl, rfl, ?_, congrArg i64 hinc, True.intro⟩, ⟨.inl ?_, True.intro⟩, rfl, rfl, rfl⟩
              · show AV.slc 3 0 (W.length + 1) 5 = .slc 3 0 (W ++ [_]).length 5
                rw [List.length_append]
                rfl
              · show some (AObj.row (flat enC W ++ [str s2, i64 (wrp .i64 ((a : Nat) : Int)), bo _, str vt, u64n vb])) = some (renO _ (.row (flat enC (W ++ [_]))))
                rw [renO_en, flat_append, hca]
                rfl
          · rw [bad (by rw [hIe, if_neg ha])]
            cases vn <;>
            · repeat first | refine same ?_ | refine Ob.intro hik ?_ | refine optK_intro hcl ?_ | refine Ob.intro h0 ?_ | refine Ob.intro h1 ?_ | refine Ob.intro h2 ?_
              refine callP hu rfl rfl ?_
              repeat first | refine same ?_ | refine Ob.intro hik ?_ | refine optK_intro hcl ?_ | refine Ob.intro h0 ?_ | refine Ob.intro h1 ?_ | refine Ob.intro h2 ?_
              refine forkD (fun _ => ?_) (fun g4 => absurd (show (a : Int) > (q : Int) by omega) g4)
              refine end0 rfl rfl rfl rfl
        · rw [bad (by rw [hIe, if_neg he])]
          generalize upV s3 = u at *
          obtain ⟨n, t, b, e⟩ := u
          dsimp only at *
          cases n <;>
          · repeat first | refine same ?_ | refine Ob.intro hik ?_ | refine optK_intro hcl ?_ | refine Ob.intro h0 ?_ | refine Ob.intro h1 ?_ | refine Ob.intro h2 ?_
            refine callP hu rfl rfl ?_
            refine fork (fun _ => ?_) (fun g5 => absurd (bne_eq_false_iff_eq.1 g5) he)
            refine end0 rfl rfl rfl rfl
    · have h' : j = L.length := by have : ¬ (j : Int) < (L.length : Int) := h; omega
      rw [h', List.take_length] at hW
      have hwb : ∀ w ∈ W, w.b < 18446744073709551616 := allM_mem (Q := fun w => w.b < 18446744073709551616) (fun _ _ => enI2_b) hW
      have hmm := rbased_ok (wrp .i64 ((q : Nat) : Int)) W (by omega) hwb
      rw [hW] at hO
      dsimp only at hO
      have hf : ∀ (H : Heap), nth H 0 = some (.row (flat enC W)) → mapO (frz H 0 8) [i64 (wrp .i64 ((q : Nat) : Int)), .slc 0 0 W.length 5] = some [i64 (wrp .i64 ((q : Nat) : Int)), enV W] := fun H h => by
        have hfz : frz H 0 8 (.slc 0 0 W.length 5) = some (enV W) := frz_flatG (m := 0) (k := 6) enC_len en_frz0 h rfl rfl
        simp only [mapO, hfz]
        rfl
      cases hmay : basedB (q : Int) W with
      | true =>
        rw [hmay] at hO
        rw [show basedB (wrp .i64 ((q : Nat) : Int)) W = true by rw [hcv]; exact hmay] at hmm
        rw [if_pos rfl] at hO
        rw [hO]
        refine callF hmm (hf _ rfl) rfl ?_
        refine end0 rfl rfl ?_ (show AV.tup [i64 (wrp .i64 ((q : Nat) : Int)), enV W, bo true] = _ by rw [hcv]; rfl)
        have hfz : frz [.row (flat enC W)] 0 7 (.slc 0 0 W.length 5) = some (enV W) := frz_flatG (m := 0) (k := 5) enC_len en_frz0 rfl rfl rfl
        exact frz_tup (k := 7) (show mapO (frz [.row (flat enC W)] 0 7) [i64 (wrp .i64 ((q : Nat) : Int)), .slc 0 0 W.length 5, bo true] = some [i64 (wrp .i64 ((q : Nat) : Int)), enV W, bo true] from by simp only [mapO, hfz]; rfl)
      | false =>
        rw [hmay] at hO
        rw [show basedB (wrp .i64 ((q : Nat) : Int)) W = false by rw [hcv]; exact hmay] at hmm
        rw [if_neg (fun hh => by cases hh)] at hO
        rw [hO]
        refine callF hmm (hf _ rfl) rfl ?_
        refine end0 rfl rfl rfl rfl
end Go.Proofs.YtkbpddejafdmdaaGreat.A
