/- ask, the reference: Unpack of a program, of any bytes. No condition. -/
import Derived.Test.YtgchhmfobkcnfaaTe
namespace Go.Proofs.Ytgchhmfobkcnfaa.A
open Go
set_option linter.unusedVariables false
set_option linter.unusedSimpArgs false
set_option maxRecDepth 100000
set_option pp.maxSteps 400

/-- Steps of a program, as the reference reads them. -/
def rcP : Nat → ByteArray → Option (List (Int × Nat) × ByteArray)
  | 0, t => some ([], t)
  | n + 1, t => match begP [110, 110] t with
    | .ok [.mk a _ _ _, .mk b _ _ _] m => if a ≤ 16 then (rcP n (rest t m)).map fun r => ((((a : Nat) : Int), b) :: r.1, r.2) else none
    | _ => none
theorem rcP_ok {n : Nat} {t : ByteArray} {a : Nat} {s1 : ByteArray} {l1 : List Nat} {k1 : List It} {b : Nat} {s2 : ByteArray} {l2 : List Nat} {k2 : List It} {m : Nat} (h : begP [110, 110] t = .ok [.mk a s1 l1 k1, .mk b s2 l2 k2] m) : rcP (n + 1) t = if a ≤ 16 then (rcP n (rest t m)).map fun r => ((((a : Nat) : Int), b) :: r.1, r.2) else none := by
  rw [show rcP (n + 1) t = (match begP [110, 110] t with | .ok [.mk a _ _ _, .mk b _ _ _] m => if a ≤ 16 then (rcP n (rest t m)).map fun r => ((((a : Nat) : Int), b) :: r.1, r.2) else none | _ => none) from rfl, h]
theorem rcP_err {n : Nat} {t : ByteArray} {e : Int} (h : begP [110, 110] t = .err e) : rcP (n + 1) t = none := by
  rw [show rcP (n + 1) t = (match begP [110, 110] t with | .ok [.mk a _ _ _, .mk b _ _ _] m => if a ≤ 16 then (rcP n (rest t m)).map fun r => ((((a : Nat) : Int), b) :: r.1, r.2) else none | _ => none) from rfl, h]
theorem rc_cs : ∀ (n : Nat) (t : ByteArray), rcP n t = match csP n t with
    | some (c, j) => if c.all (fun x => decide (x.1 ≤ 16)) = true then some (c, rest t j) else none
    | none => none
  | 0, t => by
    show some ([], t) = some ([], rest t 0)
    rw [rest_zero]
  | n + 1, t => by
    have ih := fun u => rc_cs n u
    unfold csP ccP
    cases hp : begP [110, 110] t with
    | err e => rw [rcP_err hp]
    | ok l m =>
      have hl := begP_length sh_1nn hp
      match l, hl, hp with
      | [.mk a s1 l1 k1, .mk b s2 l2 k2], _, hp =>
        rw [rcP_ok hp]
        dsimp only
        by_cases h16 : a ≤ 16
        · rw [if_pos h16, if_pos (show a ≤ 2147483647 by omega), ih]
          dsimp only
          cases csP n (rest t m) with
          | none => rfl
          | some r =>
            obtain ⟨c, j⟩ := r
            show (if c.all (fun x => decide (x.1 ≤ 16)) = true then some (c, rest (rest t m) j) else none).map _ = (if (decide ((a : Int) ≤ 16) && c.all (fun x => decide (x.1 ≤ 16))) = true then some ((((a : Nat) : Int), b) :: c, rest t (m + j)) else none)
            rw [decide_eq_true (show (a : Int) ≤ 16 by omega), Bool.true_and, rest_rest]
            split <;> rfl
        · rw [if_neg h16]
          by_cases hM : a ≤ 2147483647
          · rw [if_pos hM]
            dsimp only
            cases csP n (rest t m) with
            | none => rfl
            | some r =>
              obtain ⟨c, j⟩ := r
              show none = (if (decide ((a : Int) ≤ 16) && c.all (fun x => decide (x.1 ≤ 16))) = true then some ((((a : Nat) : Int), b) :: c, rest t (m + j)) else none)
              rw [decide_eq_false (show ¬ (a : Int) ≤ 16 by omega), Bool.false_and]
              rfl
          · rw [if_neg hM]
theorem csP_len {n : Nat} {t : ByteArray} {c : List (Int × Nat)} {j : Nat} (h : csP n t = some (c, j)) : c.length = n := (csP_can h).1
theorem rcP_len {n : Nat} {t : ByteArray} {c : List (Int × Nat)} {u : ByteArray} (h : rcP n t = some (c, u)) : c.length = n := by
  rw [rc_cs] at h
  cases hc : csP n t with
  | none => rw [hc] at h; cases h
  | some r =>
    obtain ⟨c', j⟩ := r
    rw [hc] at h
    dsimp only at h
    split at h
    · cases h; exact csP_len hc
    · cases h
theorem begN_posS {L : List (Nat × Bool)} {s : ByteArray} {j : Nat} {l : List It} {m : Nat} (hj : j + 1 ≤ L.length) (h : begN L s (j + 1) = .ok l m) : 0 < m := by
  obtain ⟨p, hp⟩ : ∃ p, L[j]? = some p := ⟨_, List.getElem?_eq_getElem (by omega)⟩
  cases hq : begN L s j with
  | err e => rw [show begN L s (j + 1) = _ from begN_err hq 1] at h; cases h
  | ok l2 m2 =>
    rw [begN_ok hq hp] at h
    cases hr : rd1P p (rest s m2) with
    | err e => rw [hr] at h; cases h
    | ok x k =>
      rw [hr] at h
      cases h
      have := (rd1P_le hr).1
      omega
theorem begP_posS {b : List Nat} {s : ByteArray} {l : List It} {m : Nat} {p : Nat × Bool} {L : List (Nat × Bool)} (hL : shP b = some (p :: L)) (h : begP b s = .ok l m) : 0 < m := by
  unfold begP at h
  rw [hL] at h
  exact begN_posS (j := L.length) (Nat.le_refl _) h
def q16 (r : Int) (key : ByteArray) (c : List (Int × Nat)) : Rq := ⟨16, 0, [], 0, false, r, key, false, ⟨#[]⟩, 0, ⟨#[]⟩, ⟨#[]⟩, 0, 0, c⟩
theorem fin16_none {r : Int} {key : ByteArray} {c : List (Int × Nat)} {t : ByteArray} (h : rightP c = false) : finQ (q16 r key c) t = none := by
  refine if_neg fun hh => ?_
  have := ((rq_iff _).1 hh.2).2.2 9 (show 9 ∈ [4, 5, 9] by decide)
  rw [show nmB (q16 r key c) 9 = rightP c from rfl, h] at this
  cases this
theorem rightP_long {c : List (Int × Nat)} (h : 32 < c.length) : rightP c = false := by
  cases hq : rightP c with
  | false => rfl
  | true => have := (rightP_cd hq).1; omega
theorem rightP_high {c : List (Int × Nat)} (h : c.all (fun x => decide (x.1 ≤ 16)) = false) : rightP c = false := by
  cases hq : rightP c with
  | false => rfl
  | true =>
    have := (rightP_cd hq).2
    rw [List.all_eq_false] at h
    obtain ⟨x, hx, hn⟩ := h
    exact absurd (decide_eq_true (this x hx).2) hn
theorem fd9_at (q : Rq) (tt : ByteArray) {a3 j3 : Nat} (hs3 : smP tt = if a3 ≤ 2147483647 then some (a3, j3) else none) : fdA 9 q tt = if a3 ≤ 2147483647 then (if a3 ≤ 32 then (csP a3 (rest tt j3)).map fun r => ({ q with c := r.1 }, j3 + r.2) else none) else none := by
  show fd9 q tt = _
  unfold fd9
  rw [hs3]
  by_cases hc1 : a3 ≤ 2147483647
  · rw [if_pos hc1, if_pos hc1]
  · rw [if_neg hc1, if_neg hc1]
set_option maxHeartbeats 1000000 in
theorem rqk_16 {s : ByteArray} {a0 : Nat} {s0 : ByteArray} {l0 : List Nat} {k0 : List It} {a1 : Nat} {s1 : ByteArray} {l1 : List Nat} {k1 : List It} {a2 : Nat} {s2 : ByteArray} {l2 : List Nat} {k2 : List It} {a3 : Nat} {s3 : ByteArray} {l3 : List Nat} {k3 : List It} {m : Nat} (h : begP [98, 110, 116, 110] s = .ok [.mk a0 s0 l0 k0, .mk a1 s1 l1 k1, .mk a2 s2 l2 k2, .mk a3 s3 l3 k3] m) (h0 : octB s 0 = 16) :
    rqP s = (if a1 ≤ 2147483647 then (if a3 ≤ 2147483647 then (match rcP a3 (rest s m) with | some (c, t) => finQ (q16 ((a1 : Nat) : Int) s2 c) t | none => none) else none) else none) ∧ a2 = 0 := by
  obtain ⟨x0, m0, r1, j1, hb0, hr1, e0, em0⟩ := begP_cat_ok (b1 := [98]) (b2 := [110, 116, 110]) (L1 := [(98, false)]) (L2 := [(110, false), (116, false), (110, false)]) (by decide) (by decide) (by decide) h
  obtain ⟨n0, t0, q0, z0, rfl⟩ := beg_1 sh_1b hb0
  cases e0
  obtain ⟨y1, m1, r2, j2, hb1, hr2, e1, em1⟩ := begP_cat_ok (b1 := [110]) (b2 := [116, 110]) (L1 := [(110, false)]) (L2 := [(116, false), (110, false)]) (by decide) (by decide) (by decide) hr1
  obtain ⟨n1, t1, q1, z1, rfl⟩ := beg_1 sh_1n hb1
  cases e1
  obtain ⟨y2, m2, r3, j3, hb2, hb3, e2, em2⟩ := begP_cat_ok (b1 := [116]) (b2 := [110]) (L1 := [(116, false)]) (L2 := [(110, false)]) (by decide) (by decide) (by decide) hr2
  obtain ⟨n2, t2, q2, z2, rfl⟩ := beg_1 sh_1t hb2
  cases e2
  subst em2 em1 em0
  refine ⟨?_, t_zero hb2⟩
  have hn := (b_first hb0).1.trans h0
  subst hn
  have hL : fldL ((16 : Nat) : Int) = [4, 5, 9] := by decide
  unfold rqP
  rw [hb0]
  dsimp only
  rw [hL]
  rw [fdsP_cons, fq_4 hb1]
  by_cases hc0 : a1 ≤ 2147483647
  rotate_left
  · simp only [if_neg hc0]
  simp only [if_pos hc0]
  rw [fdsP_cons, fq_5 hb2]
  dsimp only
  have hs3 : smP (rest (rest (rest s m0) m1) m2) = if a3 ≤ 2147483647 then some (a3, j3) else none := by
    unfold smP
    rw [hb3]
  rw [show rest s (m0 + (m1 + (m2 + j3))) = rest (rest (rest (rest s m0) m1) m2) j3 by simp only [rest_rest, Nat.add_assoc]]
  generalize rest (rest (rest s m0) m1) m2 = tt at hs3 ⊢
  rw [fdsP_cons, fd9_at _ _ hs3]
  by_cases hc1 : a3 ≤ 2147483647
  rotate_left
  · simp only [if_neg hc1]
  simp only [if_pos hc1]
  by_cases h32 : a3 ≤ 32
  · simp only [if_pos h32]
    rw [rc_cs]
    cases hc : csP a3 (rest tt j3) with
    | none => simp only [Option.map]
    | some x =>
      obtain ⟨c, j⟩ := x
      simp only [Option.map]
      rw [← rest_rest]
      cases hall : c.all (fun x => decide (x.1 ≤ 16)) with
      | true =>
        simp only [if_true]
        rfl
      | false =>
        refine Eq.trans (b := finQ (q16 ((a1 : Nat) : Int) s2 c) (rest (rest tt j3) j)) rfl ?_
        rw [fin16_none (rightP_high hall)]
        simp
  · simp only [if_neg h32]
    cases hc : rcP a3 (rest tt j3) with
    | none => rfl
    | some x =>
      obtain ⟨c, t⟩ := x
      exact (fin16_none (rightP_long (by rw [rcP_len hc]; omega))).symm
theorem frz_b16 (H : Heap) (q : Rq) (b : Bool) (h : nth H 2 = some (.row (flat cd q.c))) : frz H 0 8 (.tup [.agg (rqR nilS (.slc 2 0 q.c.length 2) q), bo b]) = some (.tup [.agg (rqR nilS (cdV q.c) q), bo b]) :=
  frz_tup (k := 7) (by simp only [mapO]; rw [frz_agg (k := 6) (frz_rq (k := 4) h)]; rfl)
structure Rc16 (M : Option (List (Int × Nat) × ByteArray)) (n : Nat) where
  j : Nat
  L : List (Int × Nat)
  t : ByteArray
  hj : j + L.length = n
  ht : L.length + t.size ≤ 1000000
  hb : ∀ x ∈ L, x.2 < 18446744073709551616
  eq : M = (rcP j t).map fun r => (L ++ r.1, r.2)
set_option maxHeartbeats 4000000 in
theorem ru_16 (s : ByteArray) (hs : s.size ≤ 1000000) (h0 : octB s 0 = 16) (hsz : s.size ≠ 0) {a0 : Nat} {s0 : ByteArray} {l0 : List Nat} {k0 : List It} {a1 : Nat} {s1 : ByteArray} {l1 : List Nat} {k1 : List It} {a2 : Nat} {s2 : ByteArray} {l2 : List Nat} {k2 : List It} {a3 : Nat} {s3 : ByteArray} {l3 : List Nat} {k3 : List It} {m : Nat} (h : begP [98, 110, 116, 110] s = .ok [.mk a0 s0 l0 k0, .mk a1 s1 l1 k1, .mk a2 s2 l2 k2, .mk a3 s3 l3 k3] m) : ACalls Try.prog 14 [str s] [] (UrW (rqP s)) := by
  obtain ⟨hq, z2⟩ := rqk_16 h h0
  obtain ⟨O, hO⟩ : ∃ O, O = rqP s := ⟨_, rfl⟩
  rw [← hO]
  rw [hq] at hO
  clear hq
  have hi : (0 : Int) ≤ 0 ∧ (0 : Int) < (s.size : Int) := by omega
  have hw : wrp .i64 ((octB s 0 : Nat) : Int) = ((16 : Nat) : Int) := by rw [wrpE, wi64]; omega
  have hsh := shape_ok 16 (by decide)
  rw [← hw] at hsh
  have hb := rbegin_ok (shK 16) s (by decide) hs
  rw [show byL (shK 16) = [98, 110, 116, 110] from rfl, h] at hb
  have hm := begP_le h
  obtain ⟨t, ht⟩ : ∃ t, t = rest s m := ⟨_, rfl⟩
  rw [← ht] at hO
  have htz : t.size ≤ 1000000 := by rw [ht, rest_size]; omega
  refine acalls_of_awp hT mixed Try.func14 rfl (by kernel_rfl) (by kernel_rfl) (Nat.le_of_ble_eq_true rfl) ?_
  refine fork (fun g => absurd (show (s.size : Int) = 0 from beq_iff_eq.1 g) (by omega)) (fun _ => ?_)
  refine Ob.intro hi ?_
  refine forkD (fun g => absurd (show ((octB s 0 : Nat) : Int) < 1 from g) (by omega)) (fun _ => ?_)
  refine Ob.intro hi ?_
  refine forkD (fun g => absurd (show ((octB s 0 : Nat) : Int) > 17 from g) (by omega)) (fun _ => ?_)
  refine Ob.intro hi ?_
  refine callP hsh rfl rfl ?_
  refine callP hb rfl rfl ?_
  refine Ob.intro (show (0 : Int) ≤ (m : Nat) ∧ ((m : Nat) : Int) ≤ (s.size : Int) ∧ (s.size : Int) ≤ (s.size : Int) by omega) ?_
  refine loopI (α := { j : Nat // 1 ≤ j ∧ j ≤ 4 ∧ (1 < j → a1 ≤ 2147483647) ∧ (3 < j → a3 ≤ 2147483647) }) (fun x => [(0, str t), (2, .ptr 0 0), (3, bo false), (4, .ptr 1 0), (5, i64 16), (6, itsV [.mk a0 s0 l0 k0, .mk a1 s1 l1 k1, .mk a2 s2 l2 k2, .mk a3 s3 l3 k3]), (9, i64 (x.val : Nat))]) (fun _ => [.row (rqR nilS nilS (q00 0)), .row (rqR nilS nilS (q00 0))]) (fun x => 4 - x.val) ⟨1, by decide, by decide, fun g => absurd g (by decide), fun g => absurd g (by decide)⟩ [0, 1] ⟨⟨congrArg str ht.symm, rfl, rfl, rfl, congrArg i64 hw, rfl, rfl, True.intro⟩, ⟨.inl rfl, .inl rfl, True.intro⟩, rfl, rfl, rfl⟩ ?_
  rintro ⟨j, hj1, hj2, b1, b3⟩ K hK
  have hj' : j = 1 ∨ j = 2 ∨ j = 3 ∨ j = 4 := by omega
  rcases hj' with rfl | rfl | rfl | rfl <;> dsimp only at hj1 hj2 b1 b3 ⊢
  · refine Ob.intro (show (0 : Int) ≤ ((1 : Nat) : Int) ∧ ((1 : Nat) : Int) < ((4 : Nat) : Int) by omega) ?_
    refine forkD (fun g2 => ?_) (fun g2 => ?_)
    · have hO2 : O = none := by rw [hO, if_neg (show ¬ a1 ≤ 2147483647 by have : (a1 : Int) > 2147483647 := g2; omega)]
      rw [hO2]
      exact ⟨rfl, [], .tup [.agg (rqR nilS nilS (q00 0)), bo false], ⟨⟨_, rfl, rfl⟩, True.intro, Nat.zero_le _, rfl⟩, rfl, _, le_zero, rfl⟩
    · exact hK ⟨2, by decide, by decide, (fun g => by have : ¬ (a1 : Int) > 2147483647 := g2; omega), fun g => absurd g (by decide)⟩ [0, 1] _ rfl ⟨⟨rfl, rfl, rfl, rfl, rfl, rfl, congrArg i64 (by rw [wrpE, wi64]; rfl), True.intro⟩, ⟨.inl rfl, .inl rfl, True.intro⟩, rfl, rfl, rfl⟩
  · refine Ob.intro (show (0 : Int) ≤ ((2 : Nat) : Int) ∧ ((2 : Nat) : Int) < ((4 : Nat) : Int) by omega) ?_
    refine forkD (fun g2 => absurd (show (a2 : Int) > 2147483647 from g2) (by omega)) (fun g2 => ?_)
    exact hK ⟨3, by decide, by decide, (fun g => b1 (by decide)), fun g => absurd g (by decide)⟩ [0, 1] _ rfl ⟨⟨rfl, rfl, rfl, rfl, rfl, rfl, congrArg i64 (by rw [wrpE, wi64]; rfl), True.intro⟩, ⟨.inl rfl, .inl rfl, True.intro⟩, rfl, rfl, rfl⟩
  · refine Ob.intro (show (0 : Int) ≤ ((3 : Nat) : Int) ∧ ((3 : Nat) : Int) < ((4 : Nat) : Int) by omega) ?_
    refine forkD (fun g2 => ?_) (fun g2 => ?_)
    · have hO2 : O = none := by rw [hO, if_pos (b1 (by decide)), if_neg (show ¬ a3 ≤ 2147483647 by have : (a3 : Int) > 2147483647 := g2; omega)]
      rw [hO2]
      exact ⟨rfl, [], .tup [.agg (rqR nilS nilS (q00 0)), bo false], ⟨⟨_, rfl, rfl⟩, True.intro, Nat.zero_le _, rfl⟩, rfl, _, le_zero, rfl⟩
    · exact hK ⟨4, by decide, by decide, (fun g => b1 (by decide)), (fun g => by have : ¬ (a3 : Int) > 2147483647 := g2; omega)⟩ [0, 1] _ rfl ⟨⟨rfl, rfl, rfl, rfl, rfl, rfl, congrArg i64 (by rw [wrpE, wi64]; rfl), True.intro⟩, ⟨.inl rfl, .inl rfl, True.intro⟩, rfl, rfl, rfl⟩
  · have w1 : wrp .i64 ((a1 : Nat) : Int) = ((a1 : Nat) : Int) := by have := b1 (by decide); rw [wrpE, wi64]; omega
    have ha3 := b3 (by decide)
    rw [if_pos (b1 (by decide)), if_pos ha3] at hO
    obtain ⟨M, hM⟩ : ∃ M, M = rcP a3 t := ⟨_, rfl⟩
    rw [← hM] at hO
    have i3 : (0 : Int) ≤ 3 ∧ (3 : Int) < ((4 : Nat) : Int) := by omega
    refine Ob.intro (show (0 : Int) ≤ 1 ∧ (1 : Int) < ((4 : Nat) : Int) by omega) ?_
    refine Ob.intro (show (0 : Int) ≤ 2 ∧ (2 : Int) < ((4 : Nat) : Int) by omega) ?_
    refine loopG (α := Rc16 M a3) (fun z => [(0, str z.t), (2, .ptr 0 0), (3, bo false), (4, .ptr 1 0), (5, i64 16), (6, itsV [.mk a0 s0 l0 k0, .mk a1 s1 l1 k1, .mk a2 s2 l2 k2, .mk a3 s3 l3 k3]), (13, u64n z.L.length)]) (fun z => [.row (rqR nilS nilS (q00 0)), .row (rqR nilS (.slc 2 0 z.L.length 2) (q16 (wrp .i64 ((a1 : Nat) : Int)) s2 [])), .row (flat cd z.L)]) [] (fun z => z.j) ⟨a3, [], t, rfl, by simp only [List.length_nil]; omega, (fun x hx => by cases hx), by rw [hM]; cases rcP a3 t <;> rfl⟩ [.cell 1 14 2] [0, 1, 2] ⟨⟨rfl, rfl, rfl, rfl, rfl, rfl, rfl, True.intro⟩, ⟨.inl rfl, .inl rfl, .inl rfl, True.intro⟩, rfl, rfl, rfl⟩ ?_
    clear hK hM ht htz
    rintro ⟨j, L, t, hj, htz, hLb, eq⟩ K hK
    dsimp only at hj htz hLb eq ⊢
    refine Ob.intro i3 ?_
    refine forkD (fun g => ?_) (fun g => ?_)
    · obtain ⟨j, rfl⟩ : ∃ i, j = i + 1 := ⟨j - 1, by have : (L.length : Int) < (a3 : Int) := g; omega⟩
      have hb2 := rbegin_ok ⟨#[110, 110]⟩ t (by decide) (by omega)
      rw [show byL ⟨#[110, 110]⟩ = [110, 110] from rfl] at hb2
      cases hbp : begP [110, 110] t with
      | err e =>
        rw [hbp] at hb2
        rw [rcP_err hbp] at eq
        have he := begP_e hbp
        have hO2 : O = none := by rw [hO, eq]; rfl
        rw [hO2]
        refine callP hb2 rfl rfl ?_
        refine fork (fun _ => ?_) (fun g => absurd (show e = 0 from bne_eq_false_iff_eq.1 g) (by omega))
        exact ⟨rfl, [], .tup [.agg (rqR nilS nilS (q00 0)), bo false], ⟨⟨_, rfl, rfl⟩, True.intro, Nat.zero_le _, rfl⟩, rfl, _, le_zero, rfl⟩
      | ok L1 j1 =>
        rw [hbp] at hb2
        have hl2 := begP_length sh_1nn hbp
        match L1, hl2, hbp, hb2 with
        | [.mk xa sa la ka, .mk xb sb lb kb], _, hbp, hb2 =>
          rw [rcP_ok hbp] at eq
          have hjl := begP_le hbp
          have hjp : 0 < j1 := begP_posS sh_1nn hbp
          have hxb : xb < 18446744073709551616 := num_ok (n := xb) (t := sb) (x := lb) (k := kb) hbp (by simp)
          have i0 : (0 : Int) ≤ 0 ∧ (0 : Int) < ((2 : Nat) : Int) := by omega
          have i1 : (0 : Int) ≤ 1 ∧ (1 : Int) < ((2 : Nat) : Int) := by omega
          have hob : (L.length + 1) * 16 ≤ 140737488355328 ∧ L.length + 1 ≤ 9223372036854775807 := by omega
          refine callP hb2 rfl rfl ?_
          refine Ob.intro i0 ?_
          by_cases hxa : xa ≤ 16
          · rw [if_pos hxa] at eq
            have wa : wrp .i64 ((xa : Nat) : Int) = ((xa : Nat) : Int) := by rw [wrpE, wi64]; omega
            refine forkD (fun g => absurd (show (xa : Int) > 16 from g) (by omega)) (fun _ => ?_)
            refine ⟨[0, 0, 0, 0, 0, 0, 0, 0, 0, 0, 0, 0, 0, 1, 1, 2], [[], [0], [], [2], [2, 3], [2, 3, 4], [2, 3, 4, 5], [], [7], [7, 8], [7, 8, 9], [2, 3, 4, 5, 6, 7, 8, 9, 10], [2, 3, 4, 5, 6, 7, 8, 9, 10, 11], [0, 1, 2, 3, 4, 5, 6, 7, 8, 9, 10, 11, 12], [0, 1, 2, 3, 4, 5, 6, 7, 8, 9, 10, 11, 12, 13], [0, 1, 2, 3, 4, 5, 6, 7, 8, 9, 10, 11, 12, 13, 14]], [0, 0, 0, 0, 0, 0, 0, 0, 0, 0, 0, 0, 0, 1, 1, 1], [13, 15], [[4], [218], [14], [220], [221], [222], [223], [14], [225], [226], [227], [224, 228], [229], [219, 230], [4], [232, 231]], Ob.intro (by kernel_rfl) ?_⟩
            repeat first | refine same ?_ | refine Ob.intro i0 ?_ | refine Ob.intro i1 ?_
            refine Ob.intro rfl ?_
            refine optK_intro (rdN_all (cs := flat cd L) rfl (by rw [flat_len cd_len])) ?_
            refine Ob.intro hob ?_
            repeat first | refine same ?_ | refine Ob.intro i0 ?_ | refine Ob.intro i1 ?_
            refine Ob.intro (show (0 : Int) ≤ (j1 : Nat) ∧ ((j1 : Nat) : Int) ≤ (t.size : Int) ∧ (t.size : Int) ≤ (t.size : Int) by omega) ?_
            have hinc : wrp .u64 ((L.length : Int) + 1) = ((L.length + 1 : Nat) : Int) := by rw [wrpE, wu64]; omega
            refine hK ⟨j, L ++ [((xa : Int), xb)], rest t j1, by rw [List.length_append]; simp only [List.length_cons, List.length_nil]; omega, by rw [List.length_append, rest_size]; simp only [List.length_cons, List.length_nil]; omega, (fun x hx => (List.mem_append.1 hx).elim (hLb x) (fun hx => by rw [List.mem_singleton.1 hx]; exact hxb)), by rw [eq]; cases rcP j (rest t j1) <;> simp⟩ [] [0, 1, 4] _ rfl ⟨⟨rfl, rfl, rfl, rfl, rfl, rfl, ?_, True.intro⟩, ⟨.inl rfl, .inl ?_, .inl ?_, True.intro⟩, rfl, rfl, rfl⟩
            · rw [show (L ++ [((xa : Int), xb)]).length = L.length + 1 by simp]
              exact congrArg u64 hinc
            · rw [show (L ++ [((xa : Int), xb)]).length = L.length + 1 by simp]
              rfl
            · show some (AObj.row (flat cd L ++ cd (wrp .i64 ((xa : Nat) : Int), xb))) = some (renO _ (.row (flat cd (L ++ [_]))))
              rw [renO_cd, flat_append, wa]
              rfl
          · rw [if_neg hxa] at eq
            have hO2 : O = none := by rw [hO, eq]; rfl
            rw [hO2]
            refine forkD (fun _ => ?_) (fun g => absurd (show (xa : Int) > 16 by omega) g)
            exact ⟨rfl, [], .tup [.agg (rqR nilS nilS (q00 0)), bo false], ⟨⟨_, rfl, rfl⟩, True.intro, Nat.zero_le _, rfl⟩, rfl, _, le_zero, rfl⟩
    · have hj0 : j = 0 := by have : ¬ (L.length : Int) < (a3 : Int) := g; omega
      subst hj0
      have eq2 : M = some (L, t) := by rw [eq]; simp [rcP]
      rw [eq2] at hO
      dsimp only at hO
      have hok : Rq.ok (q16 ((a1 : Nat) : Int) s2 L) := ⟨(by decide : (0 : Nat) < 4611686018427387904), (fun y hy => by cases hy), (by decide : (0 : Nat) < 18446744073709551616), (by decide : (0 : Nat) < 18446744073709551616), (by show L.length < _; omega), hLb⟩
      have hle : LeL (rqR nilS (cdV L) (q16 (wrp .i64 ((a1 : Nat) : Int)) s2 L)) (Rq.C (q16 ((a1 : Nat) : Int) s2 L)) := by
        rw [w1]
        exact le_rqc (q := q16 ((a1 : Nat) : Int) s2 L) rfl
      have hR := argsLe (cs := [.agg (rqR nilS (cdV L) (q16 (wrp .i64 ((a1 : Nat) : Int)) s2 L))]) (ds := [.agg (Rq.C (q16 ((a1 : Nat) : Int) s2 L))]) ⟨fun X v hv => VR_agLe hle hv, True.intro⟩ (rr_ok _ hok)
      have hfa : ∀ (H : Heap), nth H 2 = some (.row (flat cd L)) → mapO (frz H 0 8) [.agg (rqR nilS (.slc 2 0 L.length 2) (q16 (wrp .i64 ((a1 : Nat) : Int)) s2 []))] = some [.agg (rqR nilS (cdV L) (q16 (wrp .i64 ((a1 : Nat) : Int)) s2 L))] := fun H hh => by
        have := frz_agg (k := 7) (frz_rq (k := 5) (q := (q16 (wrp .i64 ((a1 : Nat) : Int)) s2 L)) hh)
        simp only [mapO]
        rw [show frz H 0 8 (.agg (rqR nilS (.slc 2 0 L.length 2) (q16 (wrp .i64 ((a1 : Nat) : Int)) s2 []))) = _ from this]
        rfl
      by_cases hz : t.size = 0
      · refine forkD (fun g => absurd (show (t.size : Int) > 0 from g) (by omega)) (fun _ => ?_)
        cases hb2 : rqB (q16 ((a1 : Nat) : Int) s2 L) with
        | true =>
          rw [hb2] at hR
          have hO2 : O = some (q16 ((a1 : Nat) : Int) s2 L) := by rw [hO]; exact if_pos ⟨hz, hb2⟩
          rw [hO2]
          refine callF hR (hfa _ rfl) rfl ?_
          refine ⟨rfl, [], .tup [.agg (rqR nilS (cdV L) (q16 (wrp .i64 ((a1 : Nat) : Int)) s2 L)), bo true], ⟨⟨_, rfl, ?_⟩, True.intro, Nat.zero_le _, rfl⟩, rfl, _, hle, rfl⟩
          exact frz_b16 _ (q16 (wrp .i64 ((a1 : Nat) : Int)) s2 L) true rfl
        | false =>
          rw [hb2] at hR
          have hO2 : O = none := by rw [hO]; exact if_neg (fun hh => by rw [hb2] at hh; cases hh.2)
          rw [hO2]
          refine callF hR (hfa _ rfl) rfl ?_
          exact ⟨rfl, [], .tup [.agg (rqR nilS nilS (q00 0)), bo false], ⟨⟨_, rfl, rfl⟩, True.intro, Nat.zero_le _, rfl⟩, rfl, _, le_zero, rfl⟩
      · have hO2 : O = none := by rw [hO]; exact if_neg (fun hh => hz hh.1)
        rw [hO2]
        refine forkD (fun _ => ?_) (fun g => absurd (show (t.size : Int) > 0 by omega) g)
        exact ⟨rfl, [], .tup [.agg (rqR nilS nilS (q00 0)), bo false], ⟨⟨_, rfl, rfl⟩, True.intro, Nat.zero_le _, rfl⟩, rfl, _, le_zero, rfl⟩
end Go.Proofs.Ytgchhmfobkcnfaa.A
