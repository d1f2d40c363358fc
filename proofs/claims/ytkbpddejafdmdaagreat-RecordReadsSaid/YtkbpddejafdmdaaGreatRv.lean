/- record, the reference: Uncommit, Unbase, Undeed, Unrights. No condition. -/
import Derived.Test.YtkbpddejafdmdaaGreatRu
import Derived.Test.YtkbpddejafdmdaaGreatRq
import Derived.Test.YtkbpddejafdmdaaGreatRh
import Derived.Test.YtkbpddejafdmdaaGreatVe
namespace Go.Proofs.YtkbpddejafdmdaaGreat.A
open Go
set_option linter.unusedVariables false
set_option linter.unusedSimpArgs false
set_option maxRecDepth 100000
set_option pp.maxSteps 400

def allM {α β : Type} (f : α → Option β) : List α → Option (List β)
  | [] => some []
  | x :: l => match f x with
    | some y => (allM f l).map (y :: ·)
    | none => none
theorem allM_snoc {α β : Type} {f : α → Option β} (l : List α) (x : α) : allM f (l ++ [x]) = (allM f l).bind fun r => (f x).map fun y => r ++ [y] := by
  induction l with
  | nil =>
    show (match f x with | some y => _ | none => none) = _
    cases f x <;> rfl
  | cons a l ih =>
    show (match f a with | some y => (allM f (l ++ [x])).map (y :: ·) | none => none) = ((match f a with | some y => (allM f l).map (y :: ·) | none => none) : Option (List β)).bind _
    cases f a with
    | none => rfl
    | some y =>
      dsimp only
      rw [ih]
      cases allM f l with
      | none => rfl
      | some r =>
        cases f x with
        | none => rfl
        | some z => rfl
theorem allM_bad {α β : Type} {f : α → Option β} : ∀ {l : List α} {x : α}, x ∈ l → f x = none → allM f l = none
  | a :: l, x, hx, h => by
    show (match f a with | some y => (allM f l).map (y :: ·) | none => none) = _
    cases hx with
    | head => rw [h]
    | tail _ hx =>
      rw [allM_bad hx h]
      cases f a <;> rfl
theorem allM_len {α β : Type} {f : α → Option β} : ∀ {l : List α} {r : List β}, allM f l = some r → r.length = l.length
  | [], r, h => by cases h; rfl
  | a :: l, r, h => by
    unfold allM at h
    cases hf : f a with
    | none => rw [hf] at h; cases h
    | some y =>
      rw [hf] at h
      cases hq : allM f l with
      | none => rw [hq] at h; cases h
      | some r' =>
        rw [hq] at h
        cases h
        rw [List.length_cons, List.length_cons, allM_len hq]
theorem many_all {α : Type} {b : List Nat} {rd : ByteArray → Option (α × Nat)} {g : List It → Option α} (h : ∀ t, rd t = match begP b t with | .ok l m => (g l).map (fun x => (x, m)) | .err _ => none) : ∀ (n : Nat) (s : ByteArray), manyP rd n s = (manyP (rdI b) n s).bind (allM g)
  | 0, s => by
    show (if s.size = 0 then some [] else none) = ((if s.size = 0 then some [] else none) : Option (List (List It))).bind _
    split <;> rfl
  | n + 1, s => by
    by_cases hz : s.size = 0
    · rw [manyP_end hz, manyP_end hz]
      rfl
    · cases hb : begP b s with
      | err e =>
        rw [manyP_none hz (by rw [h s, hb]), manyP_none hz (by unfold rdI; rw [hb])]
        rfl
      | ok l m =>
        rw [manyP_some (rd := rdI b) (x := l) (m := m) hz (by unfold rdI; rw [hb])]
        cases hg : g l with
        | none =>
          rw [manyP_none hz (by rw [h s, hb]; dsimp only; rw [hg]; rfl)]
          cases manyP (rdI b) n (rest s m) with
          | none => rfl
          | some r =>
            show none = (match g l with | some y => _ | none => none)
            rw [hg]
        | some x =>
          rw [manyP_some (rd := rd) (x := x) (m := m) hz (by rw [h s, hb]; dsimp only; rw [hg]; rfl), many_all h n (rest s m)]
          cases manyP (rdI b) n (rest s m) with
          | none => rfl
          | some r =>
            show (allM g r).map _ = (match g l with | some y => _ | none => none)
            rw [hg]
def wrI : List It → Option Wt
  | [.mk g _ _ _, .mk _ k _ _, .mk _ v _ _] =>
    if g ≤ 1 then
      if g = 1 then (if v.size = 0 then some ⟨k, true, false, nilT, 0⟩ else none)
      else if (upV v).2.2.2 = 0 then some ⟨k, false, (upV v).1, (upV v).2.1, (upV v).2.2.1⟩ else none
    else none
  | _ => none
theorem wrP_I (t : ByteArray) : wrP t = match begP [98, 116, 116] t with | .ok l m => (wrI l).map (fun x => (x, m)) | .err _ => none := by
  unfold wrP
  cases hp : begP [98, 116, 116] t with
  | err e => rfl
  | ok l m =>
    have hl := begP_length sh_btt hp
    match l, hl with
    | [.mk g _ _ _, .mk _ k _ _, .mk _ v _ _], _ =>
      show (if g ≤ 1 then _ else none) = (if g ≤ 1 then _ else none : Option Wt).map _
      split
      · show (if g = 1 then _ else _) = (if g = 1 then _ else _ : Option Wt).map _
        split
        · split <;> rfl
        · split <;> rfl
      · rfl
theorem hd_bn (kind : Nat) (s : ByteArray) : hdP kind s = match begP [98, 110] s with
    | .ok [.mk a _ _ _, .mk b _ _ _] m => if a = kind ∧ b ≤ 1073741824 then some (b, m) else none
    | _ => none := rfl
theorem uncP_I (s : ByteArray) : uncP s = match itmP 1 [98, 116, 116] s with
    | some (q, L) => if q ≤ 1073741824 then (match allM wrI L with | some W => if 1 ≤ q ∧ mayW W = true then some (q, W) else none | none => none) else none
    | none => none := by
  unfold uncP itmP
  rw [hd_bn]
  cases hp : begP [98, 110] s with
  | err e => rfl
  | ok l m =>
    have hl := begP_length sh_bn hp
    match l, hl with
    | [.mk a _ _ _, .mk q _ _ _], _ =>
      dsimp only
      by_cases ha : a = 1
      · rw [if_pos ha]
        by_cases hq : q ≤ 1073741824
        · rw [if_pos ⟨ha, hq⟩]
          dsimp only
          rw [many_all wrP_I]
          cases manyP (rdI [98, 116, 116]) (rest s m).size (rest s m) with
          | none => rfl
          | some L =>
            rw [show (some L).bind (allM wrI) = allM wrI L from rfl, show Option.map (fun L => (q, L)) (some L) = some (q, L) from rfl]
            dsimp only
            rw [if_pos hq]
            cases allM wrI L <;> rfl
        · rw [if_neg (fun hh => hq hh.2)]
          cases manyP (rdI [98, 116, 116]) (rest s m).size (rest s m) with
          | none => rfl
          | some L =>
            rw [show Option.map (fun L => (q, L)) (some L) = some (q, L) from rfl]
            dsimp only
            rw [if_neg hq]
      · rw [if_neg ha, if_neg (fun hh => ha hh.1)]
theorem many_len {b : List Nat} {Ls : List (Nat × Bool)} (hs : shP b = some Ls) : ∀ {n : Nat} {s : ByteArray} {L : List (List It)}, manyP (rdI b) n s = some L → ∀ l ∈ L, l.length = Ls.length
  | 0, s, L, h, l, hl => by
    by_cases hz : s.size = 0
    · rw [manyP_end hz] at h; cases h; cases hl
    · rw [show manyP (rdI b) 0 s = none from if_neg hz] at h; cases h
  | n + 1, s, L, h, l, hl => by
    by_cases hz : s.size = 0
    · rw [manyP_end hz] at h; cases h; cases hl
    · cases hb : begP b s with
      | err e => rw [manyP_none hz (by unfold rdI; rw [hb])] at h; cases h
      | ok l0 m =>
        rw [manyP_some (rd := rdI b) (x := l0) (m := m) hz (by unfold rdI; rw [hb])] at h
        cases hq : manyP (rdI b) n (rest s m) with
        | none => rw [hq] at h; cases h
        | some r =>
          rw [hq] at h
          cases h
          rcases List.mem_cons.1 hl with rfl | hl
          · exact begP_length hs hb
          · exact many_len hs hq l hl
theorem itm_len {first : Nat} {b : List Nat} {Ls : List (Nat × Bool)} (hs : shP b = some Ls) {s : ByteArray} {q : Nat} {L : List (List It)} (h : itmP first b s = some (q, L)) : (∀ l ∈ L, l.length = Ls.length) := by
  unfold itmP at h
  cases hp : begP [98, 110] s with
  | err e => rw [hp] at h; cases h
  | ok l m =>
    rw [hp] at h
    have hl := begP_length sh_bn hp
    match l, hl, h with
    | [.mk a _ _ _, .mk q' _ _ _], _, h =>
      dsimp only at h
      split at h
      · cases hq : manyP (rdI b) (rest s m).size (rest s m) with
        | none => rw [hq] at h; cases h
        | some r =>
          rw [hq] at h
          cases h
          exact many_len hs hq
      · cases h
theorem many_cnt {b : List Nat} {p0 : Nat × Bool} {L0 : List (Nat × Bool)} (hs : shP b = some (p0 :: L0)) : ∀ {n : Nat} {s : ByteArray} {L : List (List It)}, manyP (rdI b) n s = some L → L.length ≤ s.size
  | 0, s, L, h => by
    by_cases hz : s.size = 0
    · rw [manyP_end hz] at h; cases h; exact Nat.zero_le _
    · rw [show manyP (rdI b) 0 s = none from if_neg hz] at h; cases h
  | n + 1, s, L, h => by
    by_cases hz : s.size = 0
    · rw [manyP_end hz] at h; cases h; exact Nat.zero_le _
    · cases hb : begP b s with
      | err e => rw [manyP_none hz (by unfold rdI; rw [hb])] at h; cases h
      | ok l0 m =>
        have h1 := begP_pos hs hb
        have h2 := begP_le hb
        rw [manyP_some (rd := rdI b) (x := l0) (m := m) hz (by unfold rdI; rw [hb])] at h
        cases hq : manyP (rdI b) n (rest s m) with
        | none => rw [hq] at h; cases h
        | some r =>
          rw [hq] at h
          cases h
          have := many_cnt hs hq
          rw [rest_size] at this
          rw [List.length_cons]
          omega
theorem itm_many {first : Nat} {b : List Nat} {p0 : Nat × Bool} {L0 : List (Nat × Bool)} {s : ByteArray} {q : Nat} {L : List (List It)} {N : Nat} (hs : shP b = some (p0 :: L0)) (h : itmP first b s = some (q, L)) (hN : s.size ≤ N) : L.length ≤ N := by
  unfold itmP at h
  cases hp : begP [98, 110] s with
  | err e => rw [hp] at h; cases h
  | ok l m =>
    rw [hp] at h
    have hl := begP_length sh_bn hp
    match l, hl, h with
    | [.mk a _ _ _, .mk q' _ _ _], _, h =>
      dsimp only at h
      split at h
      · cases hq : manyP (rdI b) (rest s m).size (rest s m) with
        | none => rw [hq] at h; cases h
        | some r =>
          rw [hq] at h
          cases h
          have := many_cnt hs hq
          rw [rest_size] at this
          omega
      · cases h
theorem wrI_b {l : List It} {w : Wt} (h : wrI l = some w) : w.b < 18446744073709551616 := by
  match l, h with
  | [.mk g _ _ _, .mk _ k _ _, .mk _ v _ _], h0 =>
    have h : (if g ≤ 1 then (if g = 1 then (if v.size = 0 then some (Wt.mk k true false nilT 0) else none) else if (upV v).2.2.2 = 0 then some (Wt.mk k false (upV v).1 (upV v).2.1 (upV v).2.2.1) else none) else none) = some w := h0
    clear h0
    split at h
    · split at h
      · split at h
        · cases h; exact (by decide : (0 : Nat) < 18446744073709551616)
        · cases h
      · split at h
        · rename_i he
          cases h
          generalize hu : upV v = u at *
          obtain ⟨n, t, b, e⟩ := u
          dsimp only at he ⊢
          subst he
          exact (up_right hu).1
        · cases h
    · cases h
theorem allM_mem {α β : Type} {f : α → Option β} {Q : β → Prop} (hf : ∀ x y, f x = some y → Q y) : ∀ {l : List α} {r : List β}, allM f l = some r → ∀ y ∈ r, Q y
  | [], r, h, y, hy => by cases h; cases hy
  | a :: l, r, h, y, hy => by
    unfold allM at h
    cases hfa : f a with
    | none => rw [hfa] at h; cases h
    | some z =>
      rw [hfa] at h
      cases hq : allM f l with
      | none => rw [hq] at h; cases h
      | some r' =>
        rw [hq] at h
        cases h
        rcases List.mem_cons.1 hy with rfl | hy
        · exact hf _ _ hfa
        · exact allM_mem hf hq y hy
def ruA (o : Option (Nat × List Wt)) : AV := match o with
  | some (q, L) => .tup [i64 (q : Nat), wtV L, bo true]
  | none => .tup [i64 0, nilS, bo false]
structure RuSt (L : List (List It)) where
  j : Nat
  W : List Wt
  hj : j ≤ L.length
  hW : allM wrI (L.take j) = some W
theorem runcommit_ok (s : ByteArray) (hs : s.size ≤ 100000) : ACalls Tryz.prog 9 [str s] [] (Ret (ruA (uncP s))) := by
  have hi := items_ok s ⟨#[98, 116, 116]⟩ 1 (by decide) sh_btt (by decide) (by omega)
  rw [show byL ⟨#[98, 116, 116]⟩ = [98, 116, 116] from rfl] at hi
  rw [uncP_I]
  cases hp : itmP 1 [98, 116, 116] s with
  | none =>
    rw [hp] at hi
    refine acalls_of_awp hT mixed Tryz.func9 rfl (by kernel_rfl) (by kernel_rfl) (Nat.le_of_ble_eq_true rfl) ?_
    refine callP hi rfl rfl ?_
    refine end0 rfl rfl rfl rfl
  | some qL =>
    obtain ⟨q, L⟩ := qL
    rw [hp] at hi
    have hlen := itm_len sh_btt hp
    dsimp only
    obtain ⟨O, hO⟩ : ∃ O, O = (if q ≤ 1073741824 then (match allM wrI L with | some W => if 1 ≤ q ∧ mayW W = true then some (q, W) else none | none => none) else none : Option (Nat × List Wt)) := ⟨_, rfl⟩
    rw [← hO]
    have hOn : allM wrI L = none → O = none := fun hn => by rw [hO, hn]; split <;> rfl
    refine acalls_of_awp hT mixed Tryz.func9 rfl (by kernel_rfl) (by kernel_rfl) (Nat.le_of_ble_eq_true rfl) ?_
    refine callP hi rfl rfl ?_
    refine forkD (fun g1 => ?_) (fun g1 => ?_)
    · have hq1 : ¬ 1 ≤ q := by have : (q : Int) < 1 := g1; omega
      have : O = none := by
        rw [hO]
        split
        · cases allM wrI L with
          | none => rfl
          | some W => exact if_neg (fun hh => hq1 hh.1)
        · rfl
      rw [this]
      refine end0 rfl rfl rfl rfl
    have hq1 : 1 ≤ q := by have : ¬ (q : Int) < 1 := g1; omega
    refine forkD (fun g2 => ?_) (fun g2 => ?_)
    · have hq2 : ¬ q ≤ 1073741824 := by have : (q : Int) > 1073741824 := g2; omega
      have : O = none := by rw [hO, if_neg hq2]
      rw [this]
      refine end0 rfl rfl rfl rfl
    have hq2 : q ≤ 1073741824 := by have : ¬ (q : Int) > 1073741824 := g2; omega
    rw [if_pos hq2] at hO
    have hLl : L.length ≤ 100000 := itm_many sh_btt hp hs
    refine loopI (α := RuSt L) (fun x => [(5, u64n q), (6, ilV L), (8, .slc 0 0 x.W.length 5), (9, i64 (x.j : Nat))]) (fun x => [.row (flat wtC x.W)]) (fun x => L.length - x.j) ⟨0, [], Nat.zero_le _, rfl⟩ [0] ⟨⟨rfl, rfl, rfl, rfl, True.intro⟩, ⟨.inl rfl, True.intro⟩, rfl, rfl, rfl⟩ ?_
    rintro ⟨j, W, hj, hW⟩ K hK
    have hWl : W.length = j := by rw [allM_len hW, List.length_take]; omega
    have hinc : wrp .i64 ((j : Int) + 1) = ((j + 1 : Nat) : Int) := by rw [wrpE, wi64]; omega
    have hob : (W.length + 1) * 56 ≤ 140737488355328 ∧ W.length + 1 ≤ 9223372036854775807 := by omega
    refine forkD (fun h => ?_) (fun h => ?_)
    · have h' : j < L.length := by have : (j : Int) < (L.length : Int) := h; omega
      obtain ⟨l, hl⟩ : ∃ l, L[j]? = some l := ⟨_, List.getElem?_eq_getElem h'⟩
      have hik : (0 : Int) ≤ (j : Nat) ∧ ((j : Nat) : Int) < (L.length : Nat) := by omega
      have h3 := hlen l (List.mem_of_getElem? hl)
      have hcl := cellF0 itV_len hl (a := itsV l) rfl
      match l, h3 with
      | [.mk g s1 l1 k1, .mk b s2 l2 k2, .mk c s3 l3 k3], _ =>
        have h0 : (0 : Int) ≤ 0 ∧ (0 : Int) < ((3 : Nat) : Int) := by omega
        have h1 : (0 : Int) ≤ 1 ∧ (1 : Int) < ((3 : Nat) : Int) := by omega
        have h2 : (0 : Int) ≤ 2 ∧ (2 : Int) < ((3 : Nat) : Int) := by omega
        have hIe : wrI [.mk g s1 l1 k1, .mk b s2 l2 k2, .mk c s3 l3 k3] = if g ≤ 1 then (if g = 1 then (if s3.size = 0 then some (Wt.mk s2 true false nilT 0) else none) else if (upV s3).2.2.2 = 0 then some (Wt.mk s2 false (upV s3).1 (upV s3).2.1 (upV s3).2.2.1) else none) else none := rfl
        have bad : wrI [.mk g s1 l1 k1, .mk b s2 l2 k2, .mk c s3 l3 k3] = none → O = none := fun hh => hOn (allM_bad (List.mem_of_getElem? hl) hh)
        refine ⟨[0, 0, 0, 0, 0, 0, 0, 0, 0, 0, 0, 0, 0, 0, 0, 0, 0, 1], [[], [], [0, 1], [0, 1, 2], [0, 1, 2, 3], [0, 1, 2, 3, 4], [0, 1, 2, 3, 4, 5], [], [], [7, 8], [7, 8, 9], [7, 8, 9, 10], [7, 8, 9, 10, 11], [7, 8, 9, 10, 11, 12], [7, 8, 9, 10, 11, 12, 13], [0, 1, 2, 3, 4, 5, 6, 7, 8, 9, 10, 11, 12, 13, 14], [], [0, 1, 2, 3, 4, 5, 6, 7, 8, 9, 10, 11, 12, 13, 14, 15, 16]], [0, 0, 0, 0, 0, 0, 0, 0, 0, 0, 0, 0, 0, 0, 0, 0, 0, 1], [17], [[6], [9], [36, 37], [38], [39], [40], [41], [6], [9], [43, 44], [45], [46], [47], [48], [49], [42, 50], [], [10, 51]], Ob.intro (by kernel_rfl) ?_⟩
        repeat first | refine same ?_ | refine Ob.intro hik ?_ | refine optK_intro hcl ?_ | refine Ob.intro h0 ?_ | refine Ob.intro h1 ?_ | refine Ob.intro h2 ?_
        refine fork (fun g3 => ?_) (fun g3 => ?_)
        · have hg1 : g = 1 := by have : (g : Int) = 1 := beq_iff_eq.1 g3; omega
          repeat first | refine same ?_ | refine Ob.intro hik ?_ | refine optK_intro hcl ?_ | refine Ob.intro h0 ?_ | refine Ob.intro h1 ?_ | refine Ob.intro h2 ?_
          refine forkD (fun g4 => absurd (show (g : Int) > 1 from g4) (by omega)) (fun _ => ?_)
          repeat first | refine same ?_ | refine Ob.intro hik ?_ | refine optK_intro hcl ?_ | refine Ob.intro h0 ?_ | refine Ob.intro h1 ?_ | refine Ob.intro h2 ?_
          have hr := strEq_nilS s3
          by_cases hs3 : s3.size = 0
          · rw [decide_eq_true hs3] at hr
            refine fork (fun g5 => absurd hr (by simpa using g5)) (fun _ => ?_)
            have hI : wrI [.mk g s1 l1 k1, .mk b s2 l2 k2, .mk c s3 l3 k3] = some (Wt.mk s2 true false nilT 0) := by rw [hIe, if_pos (by omega), if_pos hg1, if_pos hs3]
            refine Ob.intro rfl ?_
            refine optK_intro (rdN_all (cs := flat wtC W) rfl (by rw [hWl, flat_len wtC_len, hWl])) ?_
            refine Ob.intro hob ?_
            refine hK ⟨j + 1, W ++ [(Wt.mk s2 true false nilT 0)], h', by rw [take_snocA hl, allM_snoc, hW]; show (wrI _).map (fun y => W ++ [y]) = _; rw [hI]; rfl⟩ [3] _ (show L.length - j = L.length - (j + 1) + 1 by omega) ⟨⟨rfl, rfl, ?_, congrArg i64 hinc, True.intro⟩, ⟨.inl ?_, True.intro⟩, rfl, rfl, rfl⟩
            · show AV.slc 3 0 (W.length + 1) 5 = .slc 3 0 (W ++ [_]).length 5
              rw [List.length_append]
              rfl
            · show some (AObj.row (flat wtC W ++ wtC (Wt.mk s2 true false nilT 0))) = some (renO _ (.row (flat wtC (W ++ [_]))))
              rw [renO_wt, flat_append]
              rfl
          · rw [decide_eq_false hs3] at hr
            refine fork (fun _ => ?_) (fun g5 => absurd hr (by simpa using g5))
            rw [bad (by rw [hIe, if_pos (by omega), if_pos hg1, if_neg hs3])]
            refine end0 rfl rfl rfl rfl
        · have hg1 : g ≠ 1 := by have : (g : Int) ≠ 1 := beq_eq_false_iff_ne.1 g3; omega
          repeat first | refine same ?_ | refine Ob.intro hik ?_ | refine optK_intro hcl ?_ | refine Ob.intro h0 ?_ | refine Ob.intro h1 ?_ | refine Ob.intro h2 ?_
          refine forkD (fun g4 => ?_) (fun g4 => ?_)
          · have hg2 : ¬ g ≤ 1 := by have : (g : Int) > 1 := g4; omega
            rw [bad (by rw [hIe, if_neg hg2])]
            refine end0 rfl rfl rfl rfl
          · have hg2 : g ≤ 1 := by have : ¬ (g : Int) > 1 := g4; omega
            have hu := rUnpack_ok s3
            unfold upR at hu
            by_cases he : (upV s3).2.2.2 = 0
            · have hI : wrI [.mk g s1 l1 k1, .mk b s2 l2 k2, .mk c s3 l3 k3] = some (Wt.mk s2 false (upV s3).1 (upV s3).2.1 (upV s3).2.2.1) := by rw [hIe, if_pos hg2, if_neg hg1, if_pos he]
              rw [he] at hu
              generalize (upV s3).1 = vn at *
              generalize (upV s3).2.1 = vt at *
              generalize (upV s3).2.2.1 = vb at *
              cases vn <;>
              · repeat first | refine same ?_ | refine Ob.intro hik ?_ | refine optK_intro hcl ?_ | refine Ob.intro h0 ?_ | refine Ob.intro h1 ?_ | refine Ob.intro h2 ?_
                refine callP hu rfl rfl ?_
                refine Ob.intro rfl ?_
                refine optK_intro (rdN_all (cs := flat wtC W) rfl (by rw [hWl, flat_len wtC_len, hWl])) ?_
                refine Ob.intro hob ?_
                refine hK ⟨j + 1, W ++ [(Wt.mk s2 false _ vt vb)], h', by rw [take_snocA hl, allM_snoc, hW]; show (wrI _).map (fun y => W ++ [y]) = _; rw [hI]; rfl⟩ [4] _ (show L.length - j = L.length - (j + 1) + 1 by omega) ⟨⟨rfl, rfl, ?_, congrArg i64 hinc, True.intro⟩, ⟨.inl ?_, True.intro⟩, rfl, rfl, rfl⟩
                · show AV.slc 4 0 (W.length + 1) 5 = .slc 4 0 (W ++ [_]).length 5
                  rw [List.length_append]
                  rfl
                · show some (AObj.row (flat wtC W ++ wtC (Wt.mk s2 false _ vt vb))) = some (renO _ (.row (flat wtC (W ++ [_]))))
                  rw [renO_wt, flat_append]
                  rfl
            · rw [bad (by rw [hIe, if_pos hg2, if_neg hg1, if_neg he])]
              generalize upV s3 = u at *
              obtain ⟨n, t, b, e⟩ := u
              dsimp only at *
              cases n <;>
              · repeat first | refine same ?_ | refine Ob.intro hik ?_ | refine optK_intro hcl ?_ | refine Ob.intro h0 ?_ | refine Ob.intro h1 ?_ | refine Ob.intro h2 ?_
                refine callP hu rfl rfl ?_
                refine fork (fun _ => ?_) (fun g5 => absurd (bne_eq_false_iff_eq.1 g5) he)
                refine end0 rfl rfl rfl rfl
    · have h' : j = L.length := by have : ¬ (j : Int) < (L.length : Int) := h; omega
      rw [h', List.take_length] at hW
      have hwb : ∀ w ∈ W, w.b < 18446744073709551616 := allM_mem (Q := fun w => w.b < 18446744073709551616) (fun _ _ => wrI_b) hW
      have hmm := rmay_ok W (by omega) hwb
      rw [hW] at hO
      dsimp only at hO
      have hcv : wrp .i64 ((q : Nat) : Int) = ((q : Nat) : Int) := by rw [wrpE, wi64]; omega
      have hf : ∀ (H : Heap), nth H 0 = some (.row (flat wtC W)) → mapO (frz H 0 8) [.slc 0 0 W.length 5] = some [wtV W] := fun H h => by
        have hfz : frz H 0 8 (.slc 0 0 W.length 5) = some (wtV W) := frz_flatG (m := 0) (k := 6) wtC_len wt_frz0 h rfl rfl
        simp only [mapO, hfz]
      cases hmay : mayW W with
      | true =>
        rw [hmay] at hmm hO
        rw [if_pos ⟨hq1, rfl⟩] at hO
        rw [hO]
        refine callF hmm (hf _ rfl) rfl ?_
        refine end0 rfl rfl ?_ (show AV.tup [i64 (wrp .i64 ((q : Nat) : Int)), wtV W, bo true] = _ by rw [hcv]; rfl)
        have hfz : frz [.row (flat wtC W)] 0 7 (.slc 0 0 W.length 5) = some (wtV W) := frz_flatG (m := 0) (k := 5) wtC_len wt_frz0 rfl rfl rfl
        exact frz_tup (k := 7) (show mapO (frz [.row (flat wtC W)] 0 7) [i64 (wrp .i64 ((q : Nat) : Int)), .slc 0 0 W.length 5, bo true] = some [i64 (wrp .i64 ((q : Nat) : Int)), wtV W, bo true] from by simp only [mapO, hfz]; rfl)
      | false =>
        rw [hmay] at hmm hO
        rw [if_neg (fun hh => by cases hh.2)] at hO
        rw [hO]
        refine callF hmm (hf _ rfl) rfl ?_
        refine end0 rfl rfl rfl rfl
end Go.Proofs.YtkbpddejafdmdaaGreat.A
