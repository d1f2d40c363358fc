/- wire: Begin, Parse. No condition. -/
import Derived.Test.YtgchhmfobkcnfaaWq
namespace Go.Proofs.Ytgchhmfobkcnfaa.A
open Go
set_option linter.unusedVariables false
set_option linter.unusedSimpArgs false
set_option maxRecDepth 100000
set_option pp.maxSteps 4000

/-- What Begin hands back. -/
def bgA : Rs (List It) → AV
  | .ok l m => .tup [itsV l, i64 (m : Nat), i64 0]
  | .err e => .tup [itsV [], i64 0, i64 e]
def bgR (o : Rs (List It)) : AEnd → Heap → Prop := fun E G => G = [] ∧ match o with
  | .ok l m => E = .ret (.tup [itsV l, i64 (m : Nat), i64 0])
  | .err e => E = .ret (.tup [nilS, i64 0, i64 e])
theorem bgW {P : Program} {g : FuncId} {args : List AV} {H : Heap} {o : Rs (List It)} (h : ACalls P g args H (bgR o)) : ACalls P g args H (Ret (bgA o)) := by
  refine h.weakR ?_
  rintro E G ⟨rfl, hE⟩
  cases o with
  | err e =>
    have hE' : E = .ret (.tup [nilS, i64 0, i64 e]) := hE
    subst hE'
    exact ⟨_, ⟨rfl, rfl⟩, EndR_nilT _⟩
  | ok l m => exact ⟨_, ⟨hE, rfl⟩, EndR_refl _⟩
theorem setAll_end (A : List AV) (a b c d w x y z : AV) : setAll (A ++ [a, b, c, d]) A.length [w, x, y, z] = A ++ [w, x, y, z] := by
  have st : ∀ (k : Nat) (B : List AV) (v : AV), (A ++ B).set (A.length + k) v = A ++ B.set k v := fun k B v => by rw [List.set_append_right _ _ (by omega), Nat.add_sub_cancel_left]
  show ((((A ++ [a, b, c, d]).set (A.length + 0) w).set (A.length + 1) x).set (A.length + 2) y).set (A.length + 3) z = _
  rw [st, st, st, st]
  rfl
/-- An item put behind the others. -/
theorem wr_it {K : Heap → Prop} {H : Heap} {p off : Nat} {l : List AV} {L : List It} {x : It} {a b c d : AV} (h : nth H p = some (.row (flat itC L ++ [a, b, c, d]))) (hx : l = itC x) (hk : off = L.length * 4) (q : K (H.set p (.row (flat itC (L ++ [x]))))) : optK (wr H p off l) K := by
  subst hx hk
  have hf : (flat itC L).length = L.length * 4 := flat_len itC_len L
  refine optK_intro (wr_eq h (by rw [itC_len, List.length_append, hf]; exact Nat.le_refl _)) ?_
  obtain ⟨n, s, l, k⟩ := x
  have e : setAll (flat itC L ++ [a, b, c, d]) (L.length * 4) (itC (.mk n s l k)) = flat itC (L ++ [.mk n s l k]) := by
    rw [← hf, show flat itC (L ++ [.mk n s l k]) = flat itC L ++ itC (.mk n s l k) from (flat_snoc ..).symm]
    exact setAll_end ..
  rw [e]
  exact q
theorem belowH_bg (l : List It) (m : Int) : belowH 5 [.row [.slc 4 0 l.length 4], .row [i64 m], .row [i64 0], .dead, .row (flat itC l)] = true := by
  have h : belowL 5 (flat itC l) = true := belowL_flat (belowL_it 5) l
  simp only [belowH, belowO, h]
  rfl
structure BgSt (L : List (Nat × Bool)) (s : ByteArray) where
  j : Nat
  l : List It
  m : Nat
  hj : j ≤ L.length
  hl : begN L s j = .ok l m
theorem begin_ok (b s : ByteArray) (hn : b.size ≤ 60) (hs : s.size ≤ 1000000) : ACalls Try.prog 84 [str b, str s] [] (Ret (bgA (begP (byL b) s))) := by
  refine bgW ?_
  refine acalls_of_awpU [] hT mixed Try.func84 rfl (by kernel_rfl) (by kernel_rfl) (Nat.le_of_ble_eq_true rfl) ?_
  refine callS (wparts_ok b hn) [] True.intro rfl ?_
  rintro E G ⟨rfl, X, Y, ok, h1, h2, rfl, h3, h4⟩ _
  refine ⟨_, _, rfl, rfl, ?_⟩
  cases ok with
  | false =>
    have hp : begP (byL b) s = .err 1 := by unfold begP; rw [h4 rfl]
    rw [hp]
    refine callBad (check_no 1) rfl ?_
    refine acallsD_of_rec hT mixed Try.func74 rfl (by kernel_rfl) (by kernel_rfl) rfl rfl rfl (plain_flt 1) (Nat.le_of_ble_eq_true rfl) ?_
    refine ⟨rfl, [.row [nilS], .row [i64 0], .row [i64 1]], _, ⟨⟨_, rfl, rfl⟩, ⟨.inl rfl, .inl rfl, .inl rfl, True.intro⟩, Nat.le_refl 3, rfl⟩, True.intro, ?_⟩
    refine acallsD_of_awp hT mixed Try.func99 rfl (by kernel_rfl) (by kernel_rfl) (Nat.le_of_ble_eq_true rfl) ?_
    exact ⟨rfl, [.row [nilS], .row [i64 0], .row [i64 1]], _, ⟨⟨_, rfl, rfl⟩, ⟨.inl rfl, .inl rfl, .inl rfl, True.intro⟩, Nat.le_refl 3, rfl⟩, True.intro, [], _, ⟨⟨_, rfl, rfl⟩, True.intro, Nat.zero_le _, rfl⟩, rfl, rfl⟩
  | true =>
    have hsh := h3 rfl
    have hzl : (X.zip Y).length = X.length := by rw [List.length_zip]; omega
    have hp : begP (byL b) s = begN (X.zip Y) s (X.zip Y).length := by unfold begP; rw [hsh]
    rw [hp]
    refine callP (check_yes 1) rfl rfl ?_
    refine loopG (α := BgSt (X.zip Y) s) (fun z => [(1, str s), (4, .ptr 0 0), (5, .ptr 1 0), (6, .ptr 2 0), (8, vbo Y), (10, .ptr 3 0), (25, v8 X), (26, i64 X.length), (27, i64 (z.j : Nat))]) (fun z => [.row [.slc 4 0 z.l.length 4], .row [i64 0], .row [i64 0], .row [str (rest s z.m)], .row (flat itC z.l)])
      [⟨74, [], [.ptr 2 0]⟩, ⟨99, [.ptr 2 0, .ptr 0 0, .ptr 1 0], []⟩] (fun z => X.length - z.j) ⟨0, [], 0, Nat.zero_le _, rfl⟩ [.cell 0 0 4] [0, 1, 2, 3, 4] ⟨⟨rfl, rfl, rfl, rfl, rfl, rfl, rfl, rfl, rfl, True.intro⟩, ⟨.inl rfl, .inl rfl, .inl rfl, .inl (by rw [rest_zero]; rfl), .inl rfl, True.intro⟩, rfl, rfl, rfl⟩ ?_
    rintro ⟨j, l, m, hj, hl⟩ K hK
    rw [hzl] at hj
    have hinc : wrp .i64 ((j : Int) + 1) = ((j + 1 : Nat) : Int) := by rw [wrpE, wi64]; omega
    obtain ⟨hms, hll⟩ := begN_le (by rw [hzl]; exact hj) hl
    refine forkD (fun h => ?_) (fun h => ?_)
    · have hjl : j < X.length := by have : (j : Int) < (X.length : Int) := h; omega
      obtain ⟨c, hc⟩ : ∃ c, X[j]? = some c := ⟨_, List.getElem?_eq_getElem (by omega)⟩
      obtain ⟨mm, hm⟩ : ∃ m, Y[j]? = some m := ⟨_, List.getElem?_eq_getElem (by omega)⟩
      have hz : (X.zip Y)[j]? = some (c, mm) := List.getElem?_zip_eq_some.2 ⟨hc, hm⟩
      have hL := shP_isL hsh (c, mm) (List.mem_of_getElem? hz)
      have hbX : (0 : Int) ≤ (j : Nat) ∧ ((j : Nat) : Int) < (X.length : Nat) := by omega
      have hbY : (0 : Int) ≤ (j : Nat) ∧ ((j : Nat) : Int) < (Y.length : Nat) := by omega
      have hmm : X.length - j = X.length - (j + 1) + 1 := by omega
      have hbad : ∀ e, rd1P (c, mm) (rest s m) = .err e → begN (X.zip Y) s (X.zip Y).length = .err e ∧ 0 < e := fun e he => by
        have h1 : begN (X.zip Y) s (j + 1) = .err e := by rw [begN_ok hl hz, he]
        have h2 := begN_err h1 ((X.zip Y).length - (j + 1))
        rw [show j + 1 + ((X.zip Y).length - (j + 1)) = (X.zip Y).length by rw [hzl]; omega] at h2
        exact ⟨h2, rd1P_e he⟩
      have hgood : ∀ x k, rd1P (c, mm) (rest s m) = .ok x k → begN (X.zip Y) s (j + 1) = .ok (l ++ [x]) (m + k) := fun x k he => by rw [begN_ok hl hz, he]
      refine Ob.intro hbX ?_
      refine optK_intro (nth_map hc) ?_
      refine Ob.intro hbY ?_
      refine optK_intro (nth_map hm) ?_
      cases mm with
      | true =>
        have hone := plist_ok c (rest s m) hL (by rw [rest_size]; omega)
        refine ⟨[0, 0, 0, 1, 0, 0, 2, 2, 3, 4], [[], [], [], [1, 2], [0], [], [0, 1, 2, 3, 4, 5], [0, 1, 2, 3, 4, 5, 6], [0, 1, 2, 3, 4, 5, 6, 7], [0, 1, 2, 3, 4, 5, 6]], [0, 0, 0, 0, 0, 0, 1, 1, 1, 1], [3, 6, 8, 9], [[4], [10], [12], [37, 38], [36], [], [36, 41], [42, 40], [43, 39], [4, 42]], Ob.intro (by kernel_rfl) ?_⟩
        repeat refine same ?_
        refine callS hone [3] ⟨.inl rfl, True.intro⟩ rfl ?_
        intro E G hE _
        cases hq : lstP c (rest s m) with
        | err e =>
          rw [hq] at hE
          obtain ⟨rfl, rfl⟩ := hE
          obtain ⟨hb1, hb2⟩ := hbad e hq
          rw [hb1]
          refine ⟨_, [.row [.slc 4 0 l.length 4], .row [i64 0], .row [i64 0], .dead, .row (flat itC l), .row [u64 0, str ⟨#[]⟩, nilS, nilS]], rfl, rfl, ?_⟩
          refine acallsD_of_rec hT mixed Try.func74 rfl (by kernel_rfl) (by kernel_rfl) rfl rfl rfl (plain_flt e) (Nat.le_of_ble_eq_true rfl) ?_
          refine ⟨rfl, [.row [.slc 4 0 l.length 4], .row [i64 0], .row [i64 e], .dead, .dead, .dead], _, ⟨⟨_, rfl, rfl⟩, ⟨.inl rfl, .inl rfl, .inl rfl, .inl rfl, .inr rfl, .inr rfl, True.intro⟩, Nat.le_refl 6, rfl⟩, True.intro, ?_⟩
          refine acallsD_of_awp hT mixed Try.func99 rfl (by kernel_rfl) (by kernel_rfl) (Nat.le_of_ble_eq_true rfl) ?_
          refine fork (fun h => ?_) (fun h => absurd (bne_eq_false_iff_eq.1 h) (by omega))
          exact ⟨rfl, [.row [nilS], .row [i64 0], .row [i64 e], .dead, .dead, .dead], _, ⟨⟨_, rfl, rfl⟩, ⟨.inl rfl, .inl rfl, .inl rfl, .inl rfl, .inr rfl, .inr rfl, True.intro⟩, Nat.le_refl 6, rfl⟩, True.intro, [], _, ⟨⟨_, rfl, rfl⟩, True.intro, Nat.zero_le _, rfl⟩, rfl, rfl⟩
        | ok x kk =>
          rw [hq] at hE
          obtain ⟨rfl, rfl⟩ := hE
          obtain ⟨n2, s2, l2, k2⟩ := x
          refine ⟨.ret (.agg [u64n n2, str s2, us l2, .view k2.length (itsC k2)]), [.row [.slc 4 0 l.length 4], .row [i64 0], .row [i64 0], .row [str (rest s (m + kk))], .row (flat itC l), .row [u64 0, str ⟨#[]⟩, nilS, nilS]], rfl, by rw [rest_rest]; rfl, ?_⟩
          repeat refine same ?_
          refine Ob.intro rfl ?_
          refine optK_intro (rdN_all (cs := flat itC l) rfl (by rw [flat_len itC_len])) ?_
          refine Ob.intro (show (l.length + 1) * 72 ≤ 140737488355328 ∧ l.length + 1 ≤ 9223372036854775807 by omega) ?_
          have hbl : (0 : Int) ≤ (l.length : Nat) ∧ ((l.length : Nat) : Int) < ((l.length + 1 : Nat) : Int) := by omega
          refine Ob.intro hbl ?_
          repeat first | refine same ?_ | refine Ob.intro hbl ?_
          refine Ob.intro (by kernel_rfl) ⟨?_, ?_⟩
          · refine wr_it (L := l) (x := .mk n2 s2 l2 k2) rfl rfl (by show 0 + ((l.length : Nat) : Int).toNat * 4 = _; rw [Int.toNat_natCast, Nat.zero_add]) ?_
            repeat first | refine same ?_ | refine Ob.intro hbl ?_
            refine hK ⟨j + 1, l ++ [.mk n2 s2 l2 k2], m + kk, by rw [hzl]; exact hjl, hgood (.mk n2 s2 l2 k2) kk hq⟩ [] [0, 1, 2, 3, 6] _ (show X.length - j = X.length - (j + 1) + 1 by omega) ⟨⟨rfl, rfl, rfl, rfl, rfl, rfl, rfl, rfl, congrArg i64 hinc, True.intro⟩, ⟨.inl ?_, .inl rfl, .inl rfl, .inl rfl, .inl ?_, True.intro⟩, rfl, rfl, rfl⟩
            · show some (AObj.row [.slc 6 0 (l.length + 1) 4]) = some (renO _ (.row [.slc 4 0 (l ++ [It.mk n2 s2 l2 k2]).length 4]))
              rw [List.length_append]
              rfl
            · show some (AObj.row (flat itC (l ++ [.mk n2 s2 l2 k2]))) = some (renO _ (.row (flat itC (l ++ [It.mk n2 s2 l2 k2]))))
              rw [renO_its]
          · repeat first | refine same ?_ | refine Ob.intro hbl ?_
            refine wr_it (L := l) (x := .mk n2 s2 l2 k2) rfl rfl (by show 0 + ((l.length : Nat) : Int).toNat * 4 = _; rw [Int.toNat_natCast, Nat.zero_add]) ?_
            repeat first | refine same ?_ | refine Ob.intro hbl ?_
            refine hK ⟨j + 1, l ++ [.mk n2 s2 l2 k2], m + kk, by rw [hzl]; exact hjl, hgood (.mk n2 s2 l2 k2) kk hq⟩ [] [0, 1, 2, 3, 6] _ (show X.length - j = X.length - (j + 1) + 1 by omega) ⟨⟨rfl, rfl, rfl, rfl, rfl, rfl, rfl, rfl, congrArg i64 hinc, True.intro⟩, ⟨.inl ?_, .inl rfl, .inl rfl, .inl rfl, .inl ?_, True.intro⟩, rfl, rfl, rfl⟩
            · show some (AObj.row [.slc 6 0 (l.length + 1) 4]) = some (renO _ (.row [.slc 4 0 (l ++ [It.mk n2 s2 l2 k2]).length 4]))
              rw [List.length_append]
              rfl
            · show some (AObj.row (flat itC (l ++ [.mk n2 s2 l2 k2]))) = some (renO _ (.row (flat itC (l ++ [It.mk n2 s2 l2 k2]))))
              rw [renO_its]
      | false =>
        have hone := pone_ok c (rest s m) hL (by rw [rest_size]; omega)
        refine ⟨[0, 0, 0, 1, 0, 0, 2, 2, 3, 4], [[], [], [], [1, 2], [0], [], [0, 1, 2, 3, 4, 5], [0, 1, 2, 3, 4, 5, 6], [0, 1, 2, 3, 4, 5, 6, 7], [0, 1, 2, 3, 4, 5, 6]], [0, 0, 0, 0, 0, 0, 1, 1, 1, 1], [3, 6, 8, 9], [[4], [10], [12], [45, 46], [44], [], [44, 49], [50, 48], [51, 47], [4, 50]], Ob.intro (by kernel_rfl) ?_⟩
        repeat refine same ?_
        refine callS hone [3] ⟨.inl rfl, True.intro⟩ rfl ?_
        intro E G hE _
        cases hq : rdP c (rest s m) with
        | err e =>
          rw [hq] at hE
          obtain ⟨rfl, rfl⟩ := hE
          obtain ⟨hb1, hb2⟩ := hbad e hq
          rw [hb1]
          refine ⟨_, [.row [.slc 4 0 l.length 4], .row [i64 0], .row [i64 0], .dead, .row (flat itC l), .row [u64 0, str ⟨#[]⟩, nilS, nilS]], rfl, rfl, ?_⟩
          refine acallsD_of_rec hT mixed Try.func74 rfl (by kernel_rfl) (by kernel_rfl) rfl rfl rfl (plain_flt e) (Nat.le_of_ble_eq_true rfl) ?_
          refine ⟨rfl, [.row [.slc 4 0 l.length 4], .row [i64 0], .row [i64 e], .dead, .dead, .dead], _, ⟨⟨_, rfl, rfl⟩, ⟨.inl rfl, .inl rfl, .inl rfl, .inl rfl, .inr rfl, .inr rfl, True.intro⟩, Nat.le_refl 6, rfl⟩, True.intro, ?_⟩
          refine acallsD_of_awp hT mixed Try.func99 rfl (by kernel_rfl) (by kernel_rfl) (Nat.le_of_ble_eq_true rfl) ?_
          refine fork (fun h => ?_) (fun h => absurd (bne_eq_false_iff_eq.1 h) (by omega))
          exact ⟨rfl, [.row [nilS], .row [i64 0], .row [i64 e], .dead, .dead, .dead], _, ⟨⟨_, rfl, rfl⟩, ⟨.inl rfl, .inl rfl, .inl rfl, .inl rfl, .inr rfl, .inr rfl, True.intro⟩, Nat.le_refl 6, rfl⟩, True.intro, [], _, ⟨⟨_, rfl, rfl⟩, True.intro, Nat.zero_le _, rfl⟩, rfl, rfl⟩
        | ok x kk =>
          rw [hq] at hE
          obtain ⟨rfl, rfl⟩ := hE
          obtain ⟨n2, s2, l2, k2⟩ := x
          refine ⟨.ret (.agg [u64n n2, str s2, us l2, .view k2.length (itsC k2)]), [.row [.slc 4 0 l.length 4], .row [i64 0], .row [i64 0], .row [str (rest s (m + kk))], .row (flat itC l), .row [u64 0, str ⟨#[]⟩, nilS, nilS]], rfl, by rw [rest_rest]; rfl, ?_⟩
          repeat refine same ?_
          refine Ob.intro rfl ?_
          refine optK_intro (rdN_all (cs := flat itC l) rfl (by rw [flat_len itC_len])) ?_
          refine Ob.intro (show (l.length + 1) * 72 ≤ 140737488355328 ∧ l.length + 1 ≤ 9223372036854775807 by omega) ?_
          have hbl : (0 : Int) ≤ (l.length : Nat) ∧ ((l.length : Nat) : Int) < ((l.length + 1 : Nat) : Int) := by omega
          refine Ob.intro hbl ?_
          repeat first | refine same ?_ | refine Ob.intro hbl ?_
          refine Ob.intro (by kernel_rfl) ⟨?_, ?_⟩
          · refine wr_it (L := l) (x := .mk n2 s2 l2 k2) rfl rfl (by show 0 + ((l.length : Nat) : Int).toNat * 4 = _; rw [Int.toNat_natCast, Nat.zero_add]) ?_
            repeat first | refine same ?_ | refine Ob.intro hbl ?_
            refine hK ⟨j + 1, l ++ [.mk n2 s2 l2 k2], m + kk, by rw [hzl]; exact hjl, hgood (.mk n2 s2 l2 k2) kk hq⟩ [] [0, 1, 2, 3, 6] _ (show X.length - j = X.length - (j + 1) + 1 by omega) ⟨⟨rfl, rfl, rfl, rfl, rfl, rfl, rfl, rfl, congrArg i64 hinc, True.intro⟩, ⟨.inl ?_, .inl rfl, .inl rfl, .inl rfl, .inl ?_, True.intro⟩, rfl, rfl, rfl⟩
            · show some (AObj.row [.slc 6 0 (l.length + 1) 4]) = some (renO _ (.row [.slc 4 0 (l ++ [It.mk n2 s2 l2 k2]).length 4]))
              rw [List.length_append]
              rfl
            · show some (AObj.row (flat itC (l ++ [.mk n2 s2 l2 k2]))) = some (renO _ (.row (flat itC (l ++ [It.mk n2 s2 l2 k2]))))
              rw [renO_its]
          · repeat first | refine same ?_ | refine Ob.intro hbl ?_
            refine wr_it (L := l) (x := .mk n2 s2 l2 k2) rfl rfl (by show 0 + ((l.length : Nat) : Int).toNat * 4 = _; rw [Int.toNat_natCast, Nat.zero_add]) ?_
            repeat first | refine same ?_ | refine Ob.intro hbl ?_
            refine hK ⟨j + 1, l ++ [.mk n2 s2 l2 k2], m + kk, by rw [hzl]; exact hjl, hgood (.mk n2 s2 l2 k2) kk hq⟩ [] [0, 1, 2, 3, 6] _ (show X.length - j = X.length - (j + 1) + 1 by omega) ⟨⟨rfl, rfl, rfl, rfl, rfl, rfl, rfl, rfl, congrArg i64 hinc, True.intro⟩, ⟨.inl ?_, .inl rfl, .inl rfl, .inl rfl, .inl ?_, True.intro⟩, rfl, rfl, rfl⟩
            · show some (AObj.row [.slc 6 0 (l.length + 1) 4]) = some (renO _ (.row [.slc 4 0 (l ++ [It.mk n2 s2 l2 k2]).length 4]))
              rw [List.length_append]
              rfl
            · show some (AObj.row (flat itC (l ++ [.mk n2 s2 l2 k2]))) = some (renO _ (.row (flat itC (l ++ [It.mk n2 s2 l2 k2]))))
              rw [renO_its]
    · have hjl : j = X.length := by have : ¬ (j : Int) < (X.length : Int) := h; omega
      have hfull : begN (X.zip Y) s (X.zip Y).length = .ok l m := by rw [hzl, ← hjl]; exact hl
      rw [hfull]
      have hsz : wrp .i64 ((s.size : Int) - ((rest s m).size : Int)) = ((m : Nat) : Int) := by rw [rest_size, wrpE, wi64]; omega
      refine ⟨[0, 0, 0, 0, 0, 0, 0, 0, 0, 1, 2, 3], [[], [], [1], [], [3], [3, 4], [3, 4, 5], [3, 4, 5, 6], [1, 2, 3, 4, 5, 6, 7], [0], [0, 1, 2, 3, 4, 5, 6, 7, 8, 9], [0, 1, 2, 3, 4, 5, 6, 7, 8, 9, 10]], [0, 0, 0, 0, 0, 0, 0, 0, 0, 0, 0, 0], [9, 10, 11], [[4], [1], [54], [10], [56], [57], [58], [59], [55, 60], [4, 53], [5, 61], [6]], Ob.intro (by kernel_rfl) ?_⟩
      repeat first | refine same ?_
      refine acallsD_of_rec hT mixed Try.func74 rfl (by kernel_rfl) (by kernel_rfl) rfl rfl rfl (fun u b h => by cases h) (Nat.le_of_ble_eq_true rfl) ?_
      refine ⟨rfl, [.row [.slc 4 0 l.length 4], .row [i64 (wrp .i64 ((s.size : Int) - ((rest s m).size : Int)))], .row [i64 0], .dead, .row (flat itC l)], _, ⟨⟨_, rfl, rfl⟩, ⟨.inl rfl, .inl rfl, .inl rfl, .inr rfl, .inl rfl, True.intro⟩, Nat.le_refl 5, belowH_bg l _⟩, True.intro, ?_⟩
      refine acallsD_of_awp hT mixed Try.func99 rfl (by kernel_rfl) (by kernel_rfl) (Nat.le_of_ble_eq_true rfl) ?_
      refine ⟨rfl, [.row [.slc 4 0 l.length 4], .row [i64 (wrp .i64 ((s.size : Int) - ((rest s m).size : Int)))], .row [i64 0], .dead, .row (flat itC l)], _, ⟨⟨_, rfl, rfl⟩, ⟨.inl rfl, .inl rfl, .inl rfl, .inr rfl, .inl rfl, True.intro⟩, Nat.le_refl 5, belowH_bg l _⟩, True.intro, [], .tup [itsV l, i64 (wrp .i64 ((s.size : Int) - ((rest s m).size : Int))), i64 0], ⟨⟨_, rfl, ?_⟩, True.intro, Nat.zero_le _, rfl⟩, rfl, ?_⟩
      · have hf : frz [.row [.slc 4 0 l.length 4], .row [i64 (wrp .i64 ((s.size : Int) - ((rest s m).size : Int)))], .row [i64 0], .dead, .row (flat itC l)] 0 7 (.slc 4 0 l.length 4) = some (itsV l) := frz_its (k := 4) rfl rfl rfl
        exact frz_tup (k := 7) (show mapO (frz [.row [.slc 4 0 l.length 4], .row [i64 (wrp .i64 ((s.size : Int) - ((rest s m).size : Int)))], .row [i64 0], .dead, .row (flat itC l)] 0 7) [.slc 4 0 l.length 4, i64 (wrp .i64 ((s.size : Int) - ((rest s m).size : Int))), i64 0] = _ from by simp only [mapO, hf]; rfl)
      · rw [hsz]
theorem begP_e {b : List Nat} {s : ByteArray} {e : Int} (h : begP b s = .err e) : 0 < e := by
  unfold begP at h
  cases hL : shP b with
  | none => rw [hL] at h; cases h; decide
  | some L => rw [hL] at h; exact begN_e (Nat.le_refl _) h
theorem begP_le {b : List Nat} {s : ByteArray} {l : List It} {m : Nat} (h : begP b s = .ok l m) : m ≤ s.size := by
  unfold begP at h
  cases hL : shP b with
  | none => rw [hL] at h; cases h
  | some L => rw [hL] at h; exact (begN_le (Nat.le_refl _) h).1
end Go.Proofs.Ytgchhmfobkcnfaa.A
