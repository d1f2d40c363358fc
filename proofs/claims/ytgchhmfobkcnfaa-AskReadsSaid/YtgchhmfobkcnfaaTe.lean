/- ask, the reference: Unpack, kind by kind. No condition. -/
import Derived.Test.YtgchhmfobkcnfaaTd
namespace Go.Proofs.Ytgchhmfobkcnfaa.A
open Go
set_option linter.unusedVariables false
set_option linter.unusedSimpArgs false
set_option maxRecDepth 100000
set_option pp.maxSteps 400

theorem b_first {s : ByteArray} {n : Nat} {s1 : ByteArray} {l1 : List Nat} {k1 : List It} {m : Nat} (h : begP [98] s = .ok [.mk n s1 l1 k1] m) : n = octB s 0 ∧ s.size ≠ 0 := by
  unfold begP at h
  rw [sh_1b] at h
  replace h : (match rdP 98 (rest s 0) with | .err e => Rs.err e | .ok x k => .ok ([] ++ [x]) (0 + k)) = .ok [.mk n s1 l1 k1] m := h
  rw [rest_zero, rdP_b] at h
  split at h
  · rename_i h1
    split at h1
    · cases h
    · cases h1
  · rename_i h1
    split at h1
    · cases h1
    · rename_i h2
      cases h1
      cases h
      exact ⟨rfl, h2⟩
theorem fdsP_cons (f : Nat) (L : List Nat) (q : Rq) (t : ByteArray) : fdsP (f :: L) q t = match fdA f q t with
    | some (q', m) => fdsP L q' (rest t m)
    | none => none := rfl
theorem lab_ok {b : List Nat} {s : ByteArray} {l : List It} {m : Nat} (h : begP b s = .ok l m) {n : Nat} {t : ByteArray} {x : List Nat} {k : List It} (hm : It.mk n t x k ∈ l) : x.length < 4611686018427387904 ∧ ∀ y ∈ x, y < 18446744073709551616 := by
  have hw := (beg_can h).2.2 _ hm
  cases hw
  rename_i h1 h2 h3 h4 h5 h6
  exact ⟨by omega, by assumption⟩
theorem num_ok {b : List Nat} {s : ByteArray} {l : List It} {m : Nat} (h : begP b s = .ok l m) {n : Nat} {t : ByteArray} {x : List Nat} {k : List It} (hm : It.mk n t x k ∈ l) : n < 18446744073709551616 := by
  have hw := (beg_can h).2.2 _ hm
  cases hw
  assumption
theorem rqk_1 {s : ByteArray} {a0 : Nat} {s0 : ByteArray} {l0 : List Nat} {k0 : List It} {a1 : Nat} {s1 : ByteArray} {l1 : List Nat} {k1 : List It} {m : Nat} (h : begP [98, 110] s = .ok [.mk a0 s0 l0 k0, .mk a1 s1 l1 k1] m) (h0 : octB s 0 = 1) : rqP s = (if a1 ≤ 2147483647 then finQ ⟨1, ((a1 : Nat) : Int), [], 0, false, 0, ⟨#[]⟩, false, ⟨#[]⟩, 0, ⟨#[]⟩, ⟨#[]⟩, 0, 0, []⟩ (rest s m) else none) := by
  obtain ⟨x0, m0, r1, j1, hb0, hr1, e0, em0⟩ := begP_cat_ok (b1 := [98]) (b2 := [110]) (L1 := [(98, false)]) (L2 := [(110, false)]) (by decide) (by decide) (by decide) h
  obtain ⟨n0, t0, q0, z0, rfl⟩ := beg_1 sh_1b hb0
  cases e0
  have hb1 := hr1
  subst em0
  have hn := (b_first hb0).1.trans h0
  subst hn
  have hL : fldL ((1 : Nat) : Int) = [0] := by decide
  unfold rqP
  rw [hb0]
  dsimp only
  rw [hL]
  rw [fdsP_cons, fq_0 hb1]
  by_cases hc0 : a1 ≤ 2147483647
  rotate_left
  · simp only [if_neg hc0]
  simp only [if_pos hc0]
  try dsimp only
  simp only [rest_rest, Nat.add_assoc]
  rfl
set_option maxHeartbeats 4000000 in
theorem ru_1 (s : ByteArray) (hs : s.size ≤ 1000000) (h0 : octB s 0 = 1) (hsz : s.size ≠ 0) {a0 : Nat} {s0 : ByteArray} {l0 : List Nat} {k0 : List It} {a1 : Nat} {s1 : ByteArray} {l1 : List Nat} {k1 : List It} {m : Nat} (h : begP [98, 110] s = .ok [.mk a0 s0 l0 k0, .mk a1 s1 l1 k1] m) : ACalls Try.prog 14 [str s] [] (UrW (rqP s)) := by
  have hq := rqk_1 h h0
  obtain ⟨O, hO⟩ : ∃ O, O = rqP s := ⟨_, rfl⟩
  rw [← hO]
  rw [hq] at hO
  clear hq
  have hi : (0 : Int) ≤ 0 ∧ (0 : Int) < (s.size : Int) := by omega
  have hw : wrp .i64 ((octB s 0 : Nat) : Int) = ((1 : Nat) : Int) := by rw [wrpE, wi64]; omega
  have hsh := shape_ok 1 (by decide)
  rw [← hw] at hsh
  have hb := rbegin_ok (shK 1) s (by decide) hs
  rw [show byL (shK 1) = [98, 110] from rfl, h] at hb
  have hm := begP_le h
  obtain ⟨t, ht⟩ : ∃ t, t = rest s m := ⟨_, rfl⟩
  rw [← ht] at hO
  refine acalls_of_awp hT mixed Try.func14 rfl (by kernel_rfl) (by kernel_rfl) (Nat.le_of_ble_eq_true rfl) ?_
  refine fork (fun g => absurd (show (s.size : Int) = 0 from beq_iff_eq.1 g) (by omega)) (fun _ => ?_)
  refine Ob.intro hi ?_
  refine forkD (fun g => absurd (show ((octB s 0 : Nat) : Int) < 1 from g) (by omega)) (fun _ => ?_)
  refine Ob.intro hi ?_
  refine forkD (fun g => absurd (show ((octB s 0 : Nat) : Int) > 17 from g) (by omega)) (fun _ => ?_)
  refine Ob.intro hi ?_
  refine callP hsh rfl rfl ?_
  refine callP hb rfl rfl ?_
  refine Ob.intro (show (0 : Int) ≤ (m : Nat) ∧ ((m : Nat) : Int) ≤ (s.size : Int) ∧ (s.size : Int) ≤ (s.size : Int) by omega) ?_
  refine loopI (α := { j : Nat // 1 ≤ j ∧ j ≤ 2 ∧ (1 < j → a1 ≤ 2147483647) }) (fun x => [(0, str t), (2, .ptr 0 0), (3, bo false), (4, .ptr 1 0), (5, i64 1), (6, itsV [.mk a0 s0 l0 k0, .mk a1 s1 l1 k1]), (9, i64 (x.val : Nat))]) (fun _ => [.row (rqR nilS nilS (q00 0)), .row (rqR nilS nilS (q00 0))]) (fun x => 2 - x.val) ⟨1, by decide, by decide, fun g => absurd g (by decide)⟩ [0, 1] ⟨⟨congrArg str ht.symm, rfl, rfl, rfl, congrArg i64 hw, rfl, rfl, True.intro⟩, ⟨.inl rfl, .inl rfl, True.intro⟩, rfl, rfl, rfl⟩ ?_
  rintro ⟨j, hj1, hj2, b1⟩ K hK
  have hj' : j = 1 ∨ j = 2 := by omega
  rcases hj' with rfl | rfl <;> dsimp only at hj1 hj2 b1 ⊢
  · refine Ob.intro (show (0 : Int) ≤ ((1 : Nat) : Int) ∧ ((1 : Nat) : Int) < ((2 : Nat) : Int) by omega) ?_
    refine forkD (fun g2 => ?_) (fun g2 => ?_)
    · have hbig : ¬ a1 ≤ 2147483647 := by have : (a1 : Int) > 2147483647 := g2; omega
      have hO2 : O = none := by rw [hO, if_neg (show ¬ a1 ≤ 2147483647 by omega)]
      rw [hO2]
      exact ⟨rfl, [], .tup [.agg (rqR nilS nilS (q00 0)), bo false], ⟨⟨_, rfl, rfl⟩, True.intro, Nat.zero_le _, rfl⟩, rfl, _, le_zero, rfl⟩
    · exact hK ⟨2, by decide, by decide, (fun g => by have : ¬ (a1 : Int) > 2147483647 := g2; omega)⟩ [0, 1] _ rfl ⟨⟨rfl, rfl, rfl, rfl, rfl, rfl, congrArg i64 (by rw [wrpE, wi64]; rfl), True.intro⟩, ⟨.inl rfl, .inl rfl, True.intro⟩, rfl, rfl, rfl⟩
  · have w1 : wrp .i64 ((a1 : Nat) : Int) = ((a1 : Nat) : Int) := by have := b1 (by decide); rw [wrpE, wi64]; omega
    rw [if_pos (b1 (by decide))] at hO
    refine Ob.intro (show (0 : Int) ≤ 1 ∧ (1 : Int) < ((2 : Nat) : Int) by omega) ?_
    have hok : Rq.ok ⟨1, ((a1 : Nat) : Int), [], 0, false, 0, ⟨#[]⟩, false, ⟨#[]⟩, 0, ⟨#[]⟩, ⟨#[]⟩, 0, 0, []⟩ := ⟨(by decide : (0 : Nat) < 4611686018427387904), (fun y hy => by cases hy), (by decide : (0 : Nat) < 18446744073709551616), (by decide : (0 : Nat) < 18446744073709551616), (by decide : (0 : Nat) < 4611686018427387904), (fun y hy => by cases hy)⟩
    have hle : LeL (rqR nilS nilS ⟨1, (wrp .i64 ((a1 : Nat) : Int)), [], 0, false, 0, ⟨#[]⟩, false, ⟨#[]⟩, 0, ⟨#[]⟩, ⟨#[]⟩, 0, 0, []⟩) (Rq.C ⟨1, ((a1 : Nat) : Int), [], 0, false, 0, ⟨#[]⟩, false, ⟨#[]⟩, 0, ⟨#[]⟩, ⟨#[]⟩, 0, 0, []⟩) := by
      rw [w1]
      exact le_lac (b := false) (q := ⟨1, ((a1 : Nat) : Int), [], 0, false, 0, ⟨#[]⟩, false, ⟨#[]⟩, 0, ⟨#[]⟩, ⟨#[]⟩, 0, 0, []⟩) (fun _ => rfl) rfl
    have hR := argsLe (cs := [.agg (rqR nilS nilS ⟨1, (wrp .i64 ((a1 : Nat) : Int)), [], 0, false, 0, ⟨#[]⟩, false, ⟨#[]⟩, 0, ⟨#[]⟩, ⟨#[]⟩, 0, 0, []⟩)]) (ds := [.agg (Rq.C ⟨1, ((a1 : Nat) : Int), [], 0, false, 0, ⟨#[]⟩, false, ⟨#[]⟩, 0, ⟨#[]⟩, ⟨#[]⟩, 0, 0, []⟩)]) ⟨fun X v hv => VR_agLe hle hv, True.intro⟩ (rr_ok _ hok)
    by_cases hz : t.size = 0
    · refine forkD (fun g => absurd (show (t.size : Int) > 0 from g) (by omega)) (fun _ => ?_)
      cases hb2 : rqB ⟨1, ((a1 : Nat) : Int), [], 0, false, 0, ⟨#[]⟩, false, ⟨#[]⟩, 0, ⟨#[]⟩, ⟨#[]⟩, 0, 0, []⟩ with
      | true =>
        rw [hb2] at hR
        have hO2 : O = some ⟨1, ((a1 : Nat) : Int), [], 0, false, 0, ⟨#[]⟩, false, ⟨#[]⟩, 0, ⟨#[]⟩, ⟨#[]⟩, 0, 0, []⟩ := by rw [hO]; exact if_pos ⟨hz, hb2⟩
        rw [hO2]
        refine callP hR rfl rfl ?_
        exact ⟨rfl, [], .tup [.agg (rqR nilS nilS ⟨1, (wrp .i64 ((a1 : Nat) : Int)), [], 0, false, 0, ⟨#[]⟩, false, ⟨#[]⟩, 0, ⟨#[]⟩, ⟨#[]⟩, 0, 0, []⟩), bo true], ⟨⟨_, rfl, rfl⟩, True.intro, Nat.zero_le _, rfl⟩, rfl, _, hle, rfl⟩
      | false =>
        rw [hb2] at hR
        have hO2 : O = none := by rw [hO]; exact if_neg (fun hh => by rw [hb2] at hh; cases hh.2)
        rw [hO2]
        refine callP hR rfl rfl ?_
        exact ⟨rfl, [], .tup [.agg (rqR nilS nilS (q00 0)), bo false], ⟨⟨_, rfl, rfl⟩, True.intro, Nat.zero_le _, rfl⟩, rfl, _, le_zero, rfl⟩
    · have hO2 : O = none := by rw [hO]; exact if_neg (fun hh => hz hh.1)
      rw [hO2]
      refine forkD (fun _ => ?_) (fun g => absurd (show (t.size : Int) > 0 by omega) g)
      exact ⟨rfl, [], .tup [.agg (rqR nilS nilS (q00 0)), bo false], ⟨⟨_, rfl, rfl⟩, True.intro, Nat.zero_le _, rfl⟩, rfl, _, le_zero, rfl⟩
theorem rqk_2 {s : ByteArray} {a0 : Nat} {s0 : ByteArray} {l0 : List Nat} {k0 : List It} {m : Nat} (h : begP [98] s = .ok [.mk a0 s0 l0 k0] m) (h0 : octB s 0 = 2) : rqP s = finQ ⟨2, 0, [], 0, false, 0, ⟨#[]⟩, false, ⟨#[]⟩, 0, ⟨#[]⟩, ⟨#[]⟩, 0, 0, []⟩ (rest s m) := by
  have hb0 := h
  have hn := (b_first hb0).1.trans h0
  subst hn
  have hL : fldL ((2 : Nat) : Int) = [] := by decide
  unfold rqP
  rw [hb0]
  dsimp only
  rw [hL]
  rfl
set_option maxHeartbeats 4000000 in
theorem ru_2 (s : ByteArray) (hs : s.size ≤ 1000000) (h0 : octB s 0 = 2) (hsz : s.size ≠ 0) {a0 : Nat} {s0 : ByteArray} {l0 : List Nat} {k0 : List It} {m : Nat} (h : begP [98] s = .ok [.mk a0 s0 l0 k0] m) : ACalls Try.prog 14 [str s] [] (UrW (rqP s)) := by
  have hq := rqk_2 h h0
  obtain ⟨O, hO⟩ : ∃ O, O = rqP s := ⟨_, rfl⟩
  rw [← hO]
  rw [hq] at hO
  clear hq
  have hi : (0 : Int) ≤ 0 ∧ (0 : Int) < (s.size : Int) := by omega
  have hw : wrp .i64 ((octB s 0 : Nat) : Int) = ((2 : Nat) : Int) := by rw [wrpE, wi64]; omega
  have hsh := shape_ok 2 (by decide)
  rw [← hw] at hsh
  have hb := rbegin_ok (shK 2) s (by decide) hs
  rw [show byL (shK 2) = [98] from rfl, h] at hb
  have hm := begP_le h
  obtain ⟨t, ht⟩ : ∃ t, t = rest s m := ⟨_, rfl⟩
  rw [← ht] at hO
  refine acalls_of_awp hT mixed Try.func14 rfl (by kernel_rfl) (by kernel_rfl) (Nat.le_of_ble_eq_true rfl) ?_
  refine fork (fun g => absurd (show (s.size : Int) = 0 from beq_iff_eq.1 g) (by omega)) (fun _ => ?_)
  refine Ob.intro hi ?_
  refine forkD (fun g => absurd (show ((octB s 0 : Nat) : Int) < 1 from g) (by omega)) (fun _ => ?_)
  refine Ob.intro hi ?_
  refine forkD (fun g => absurd (show ((octB s 0 : Nat) : Int) > 17 from g) (by omega)) (fun _ => ?_)
  refine Ob.intro hi ?_
  refine callP hsh rfl rfl ?_
  refine callP hb rfl rfl ?_
  refine Ob.intro (show (0 : Int) ≤ (m : Nat) ∧ ((m : Nat) : Int) ≤ (s.size : Int) ∧ (s.size : Int) ≤ (s.size : Int) by omega) ?_
  refine loopI (α := { j : Nat // 1 ≤ j ∧ j ≤ 1 }) (fun x => [(0, str t), (2, .ptr 0 0), (3, bo false), (4, .ptr 1 0), (5, i64 2), (6, itsV [.mk a0 s0 l0 k0]), (9, i64 (x.val : Nat))]) (fun _ => [.row (rqR nilS nilS (q00 0)), .row (rqR nilS nilS (q00 0))]) (fun x => 1 - x.val) ⟨1, by decide, by decide⟩ [0, 1] ⟨⟨congrArg str ht.symm, rfl, rfl, rfl, congrArg i64 hw, rfl, rfl, True.intro⟩, ⟨.inl rfl, .inl rfl, True.intro⟩, rfl, rfl, rfl⟩ ?_
  rintro ⟨j, hj1, hj2⟩ K hK
  have hj' : j = 1 := by omega
  subst hj'
  dsimp only at hj1 hj2 ⊢
  · have hok : Rq.ok ⟨2, 0, [], 0, false, 0, ⟨#[]⟩, false, ⟨#[]⟩, 0, ⟨#[]⟩, ⟨#[]⟩, 0, 0, []⟩ := ⟨(by decide : (0 : Nat) < 4611686018427387904), (fun y hy => by cases hy), (by decide : (0 : Nat) < 18446744073709551616), (by decide : (0 : Nat) < 18446744073709551616), (by decide : (0 : Nat) < 4611686018427387904), (fun y hy => by cases hy)⟩
    have hle : LeL (rqR nilS nilS ⟨2, 0, [], 0, false, 0, ⟨#[]⟩, false, ⟨#[]⟩, 0, ⟨#[]⟩, ⟨#[]⟩, 0, 0, []⟩) (Rq.C ⟨2, 0, [], 0, false, 0, ⟨#[]⟩, false, ⟨#[]⟩, 0, ⟨#[]⟩, ⟨#[]⟩, 0, 0, []⟩) := by
      exact le_lac (b := false) (q := ⟨2, 0, [], 0, false, 0, ⟨#[]⟩, false, ⟨#[]⟩, 0, ⟨#[]⟩, ⟨#[]⟩, 0, 0, []⟩) (fun _ => rfl) rfl
    have hR := argsLe (cs := [.agg (rqR nilS nilS ⟨2, 0, [], 0, false, 0, ⟨#[]⟩, false, ⟨#[]⟩, 0, ⟨#[]⟩, ⟨#[]⟩, 0, 0, []⟩)]) (ds := [.agg (Rq.C ⟨2, 0, [], 0, false, 0, ⟨#[]⟩, false, ⟨#[]⟩, 0, ⟨#[]⟩, ⟨#[]⟩, 0, 0, []⟩)]) ⟨fun X v hv => VR_agLe hle hv, True.intro⟩ (rr_ok _ hok)
    by_cases hz : t.size = 0
    · refine forkD (fun g => absurd (show (t.size : Int) > 0 from g) (by omega)) (fun _ => ?_)
      cases hb2 : rqB ⟨2, 0, [], 0, false, 0, ⟨#[]⟩, false, ⟨#[]⟩, 0, ⟨#[]⟩, ⟨#[]⟩, 0, 0, []⟩ with
      | true =>
        rw [hb2] at hR
        have hO2 : O = some ⟨2, 0, [], 0, false, 0, ⟨#[]⟩, false, ⟨#[]⟩, 0, ⟨#[]⟩, ⟨#[]⟩, 0, 0, []⟩ := by rw [hO]; exact if_pos ⟨hz, hb2⟩
        rw [hO2]
        refine callP hR rfl rfl ?_
        exact ⟨rfl, [], .tup [.agg (rqR nilS nilS ⟨2, 0, [], 0, false, 0, ⟨#[]⟩, false, ⟨#[]⟩, 0, ⟨#[]⟩, ⟨#[]⟩, 0, 0, []⟩), bo true], ⟨⟨_, rfl, rfl⟩, True.intro, Nat.zero_le _, rfl⟩, rfl, _, hle, rfl⟩
      | false =>
        rw [hb2] at hR
        have hO2 : O = none := by rw [hO]; exact if_neg (fun hh => by rw [hb2] at hh; cases hh.2)
        rw [hO2]
        refine callP hR rfl rfl ?_
        exact ⟨rfl, [], .tup [.agg (rqR nilS nilS (q00 0)), bo false], ⟨⟨_, rfl, rfl⟩, True.intro, Nat.zero_le _, rfl⟩, rfl, _, le_zero, rfl⟩
    · have hO2 : O = none := by rw [hO]; exact if_neg (fun hh => hz hh.1)
      rw [hO2]
      refine forkD (fun _ => ?_) (fun g => absurd (show (t.size : Int) > 0 by omega) g)
      exact ⟨rfl, [], .tup [.agg (rqR nilS nilS (q00 0)), bo false], ⟨⟨_, rfl, rfl⟩, True.intro, Nat.zero_le _, rfl⟩, rfl, _, le_zero, rfl⟩
theorem rqk_3 {s : ByteArray} {a0 : Nat} {s0 : ByteArray} {l0 : List Nat} {k0 : List It} {a1 : Nat} {s1 : ByteArray} {l1 : List Nat} {k1 : List It} {m : Nat} (h : begP [98, 108] s = .ok [.mk a0 s0 l0 k0, .mk a1 s1 l1 k1] m) (h0 : octB s 0 = 3) : rqP s = finQ ⟨3, 0, l1, 0, false, 0, ⟨#[]⟩, false, ⟨#[]⟩, 0, ⟨#[]⟩, ⟨#[]⟩, 0, 0, []⟩ (rest s m) ∧ a1 = 0 := by
  obtain ⟨x0, m0, r1, j1, hb0, hr1, e0, em0⟩ := begP_cat_ok (b1 := [98]) (b2 := [108]) (L1 := [(98, false)]) (L2 := [(108, false)]) (by decide) (by decide) (by decide) h
  obtain ⟨n0, t0, q0, z0, rfl⟩ := beg_1 sh_1b hb0
  cases e0
  have hb1 := hr1
  subst em0
  refine ⟨?_, l_zero hb1⟩
  have hn := (b_first hb0).1.trans h0
  subst hn
  have hL : fldL ((3 : Nat) : Int) = [1] := by decide
  unfold rqP
  rw [hb0]
  dsimp only
  rw [hL]
  rw [fdsP_cons, fq_1 hb1]
  try dsimp only
  simp only [rest_rest, Nat.add_assoc]
  rfl
set_option maxHeartbeats 4000000 in
theorem ru_3 (s : ByteArray) (hs : s.size ≤ 1000000) (h0 : octB s 0 = 3) (hsz : s.size ≠ 0) {a0 : Nat} {s0 : ByteArray} {l0 : List Nat} {k0 : List It} {a1 : Nat} {s1 : ByteArray} {l1 : List Nat} {k1 : List It} {m : Nat} (h : begP [98, 108] s = .ok [.mk a0 s0 l0 k0, .mk a1 s1 l1 k1] m) : ACalls Try.prog 14 [str s] [] (UrW (rqP s)) := by
  obtain ⟨hq, z0⟩ := rqk_3 h h0
  obtain ⟨O, hO⟩ : ∃ O, O = rqP s := ⟨_, rfl⟩
  rw [← hO]
  rw [hq] at hO
  clear hq
  have ⟨hll, hlx⟩ : l1.length < 4611686018427387904 ∧ ∀ y ∈ l1, y < 18446744073709551616 := lab_ok (n := a1) (t := s1) (x := l1) (k := k1) h (by simp)
  have hi : (0 : Int) ≤ 0 ∧ (0 : Int) < (s.size : Int) := by omega
  have hw : wrp .i64 ((octB s 0 : Nat) : Int) = ((3 : Nat) : Int) := by rw [wrpE, wi64]; omega
  have hsh := shape_ok 3 (by decide)
  rw [← hw] at hsh
  have hb := rbegin_ok (shK 3) s (by decide) hs
  rw [show byL (shK 3) = [98, 108] from rfl, h] at hb
  have hm := begP_le h
  obtain ⟨t, ht⟩ : ∃ t, t = rest s m := ⟨_, rfl⟩
  rw [← ht] at hO
  refine acalls_of_awp hT mixed Try.func14 rfl (by kernel_rfl) (by kernel_rfl) (Nat.le_of_ble_eq_true rfl) ?_
  refine fork (fun g => absurd (show (s.size : Int) = 0 from beq_iff_eq.1 g) (by omega)) (fun _ => ?_)
  refine Ob.intro hi ?_
  refine forkD (fun g => absurd (show ((octB s 0 : Nat) : Int) < 1 from g) (by omega)) (fun _ => ?_)
  refine Ob.intro hi ?_
  refine forkD (fun g => absurd (show ((octB s 0 : Nat) : Int) > 17 from g) (by omega)) (fun _ => ?_)
  refine Ob.intro hi ?_
  refine callP hsh rfl rfl ?_
  refine callP hb rfl rfl ?_
  refine Ob.intro (show (0 : Int) ≤ (m : Nat) ∧ ((m : Nat) : Int) ≤ (s.size : Int) ∧ (s.size : Int) ≤ (s.size : Int) by omega) ?_
  refine loopI (α := { j : Nat // 1 ≤ j ∧ j ≤ 2 }) (fun x => [(0, str t), (2, .ptr 0 0), (3, bo false), (4, .ptr 1 0), (5, i64 3), (6, itsV [.mk a0 s0 l0 k0, .mk a1 s1 l1 k1]), (9, i64 (x.val : Nat))]) (fun _ => [.row (rqR nilS nilS (q00 0)), .row (rqR nilS nilS (q00 0))]) (fun x => 2 - x.val) ⟨1, by decide, by decide⟩ [0, 1] ⟨⟨congrArg str ht.symm, rfl, rfl, rfl, congrArg i64 hw, rfl, rfl, True.intro⟩, ⟨.inl rfl, .inl rfl, True.intro⟩, rfl, rfl, rfl⟩ ?_
  rintro ⟨j, hj1, hj2⟩ K hK
  have hj' : j = 1 ∨ j = 2 := by omega
  rcases hj' with rfl | rfl <;> dsimp only at hj1 hj2  ⊢
  · refine Ob.intro (show (0 : Int) ≤ ((1 : Nat) : Int) ∧ ((1 : Nat) : Int) < ((2 : Nat) : Int) by omega) ?_
    refine forkD (fun g2 => absurd (show (a1 : Int) > 2147483647 from g2) (by omega)) (fun g2 => ?_)
    exact hK ⟨2, by decide, by decide⟩ [0, 1] _ rfl ⟨⟨rfl, rfl, rfl, rfl, rfl, rfl, congrArg i64 (by rw [wrpE, wi64]; rfl), True.intro⟩, ⟨.inl rfl, .inl rfl, True.intro⟩, rfl, rfl, rfl⟩
  · refine Ob.intro (show (0 : Int) ≤ 1 ∧ (1 : Int) < ((2 : Nat) : Int) by omega) ?_
    have hok : Rq.ok ⟨3, 0, l1, 0, false, 0, ⟨#[]⟩, false, ⟨#[]⟩, 0, ⟨#[]⟩, ⟨#[]⟩, 0, 0, []⟩ := ⟨hll, hlx, (by decide : (0 : Nat) < 18446744073709551616), (by decide : (0 : Nat) < 18446744073709551616), (by decide : (0 : Nat) < 4611686018427387904), (fun y hy => by cases hy)⟩
    have hle : LeL (rqR (us l1) nilS ⟨3, 0, l1, 0, false, 0, ⟨#[]⟩, false, ⟨#[]⟩, 0, ⟨#[]⟩, ⟨#[]⟩, 0, 0, []⟩) (Rq.C ⟨3, 0, l1, 0, false, 0, ⟨#[]⟩, false, ⟨#[]⟩, 0, ⟨#[]⟩, ⟨#[]⟩, 0, 0, []⟩) := by
      exact le_lac (b := true) (q := ⟨3, 0, l1, 0, false, 0, ⟨#[]⟩, false, ⟨#[]⟩, 0, ⟨#[]⟩, ⟨#[]⟩, 0, 0, []⟩) (fun g => by cases g) rfl
    have hR := argsLe (cs := [.agg (rqR (us l1) nilS ⟨3, 0, l1, 0, false, 0, ⟨#[]⟩, false, ⟨#[]⟩, 0, ⟨#[]⟩, ⟨#[]⟩, 0, 0, []⟩)]) (ds := [.agg (Rq.C ⟨3, 0, l1, 0, false, 0, ⟨#[]⟩, false, ⟨#[]⟩, 0, ⟨#[]⟩, ⟨#[]⟩, 0, 0, []⟩)]) ⟨fun X v hv => VR_agLe hle hv, True.intro⟩ (rr_ok _ hok)
    by_cases hz : t.size = 0
    · refine forkD (fun g => absurd (show (t.size : Int) > 0 from g) (by omega)) (fun _ => ?_)
      cases hb2 : rqB ⟨3, 0, l1, 0, false, 0, ⟨#[]⟩, false, ⟨#[]⟩, 0, ⟨#[]⟩, ⟨#[]⟩, 0, 0, []⟩ with
      | true =>
        rw [hb2] at hR
        have hO2 : O = some ⟨3, 0, l1, 0, false, 0, ⟨#[]⟩, false, ⟨#[]⟩, 0, ⟨#[]⟩, ⟨#[]⟩, 0, 0, []⟩ := by rw [hO]; exact if_pos ⟨hz, hb2⟩
        rw [hO2]
        refine callP hR rfl rfl ?_
        exact ⟨rfl, [], .tup [.agg (rqR (us l1) nilS ⟨3, 0, l1, 0, false, 0, ⟨#[]⟩, false, ⟨#[]⟩, 0, ⟨#[]⟩, ⟨#[]⟩, 0, 0, []⟩), bo true], ⟨⟨_, rfl, rfl⟩, True.intro, Nat.zero_le _, rfl⟩, rfl, _, hle, rfl⟩
      | false =>
        rw [hb2] at hR
        have hO2 : O = none := by rw [hO]; exact if_neg (fun hh => by rw [hb2] at hh; cases hh.2)
        rw [hO2]
        refine callP hR rfl rfl ?_
        exact ⟨rfl, [], .tup [.agg (rqR nilS nilS (q00 0)), bo false], ⟨⟨_, rfl, rfl⟩, True.intro, Nat.zero_le _, rfl⟩, rfl, _, le_zero, rfl⟩
    · have hO2 : O = none := by rw [hO]; exact if_neg (fun hh => hz hh.1)
      rw [hO2]
      refine forkD (fun _ => ?_) (fun g => absurd (show (t.size : Int) > 0 by omega) g)
      exact ⟨rfl, [], .tup [.agg (rqR nilS nilS (q00 0)), bo false], ⟨⟨_, rfl, rfl⟩, True.intro, Nat.zero_le _, rfl⟩, rfl, _, le_zero, rfl⟩
theorem rqk_4 {s : ByteArray} {a0 : Nat} {s0 : ByteArray} {l0 : List Nat} {k0 : List It} {a1 : Nat} {s1 : ByteArray} {l1 : List Nat} {k1 : List It} {m : Nat} (h : begP [98, 110] s = .ok [.mk a0 s0 l0 k0, .mk a1 s1 l1 k1] m) (h0 : octB s 0 = 4) : rqP s = finQ ⟨4, 0, [], a1, false, 0, ⟨#[]⟩, false, ⟨#[]⟩, 0, ⟨#[]⟩, ⟨#[]⟩, 0, 0, []⟩ (rest s m) := by
  obtain ⟨x0, m0, r1, j1, hb0, hr1, e0, em0⟩ := begP_cat_ok (b1 := [98]) (b2 := [110]) (L1 := [(98, false)]) (L2 := [(110, false)]) (by decide) (by decide) (by decide) h
  obtain ⟨n0, t0, q0, z0, rfl⟩ := beg_1 sh_1b hb0
  cases e0
  have hb1 := hr1
  subst em0
  have hn := (b_first hb0).1.trans h0
  subst hn
  have hL : fldL ((4 : Nat) : Int) = [2] := by decide
  unfold rqP
  rw [hb0]
  dsimp only
  rw [hL]
  rw [fdsP_cons, fq_2 hb1]
  try dsimp only
  simp only [rest_rest, Nat.add_assoc]
  rfl
set_option maxHeartbeats 4000000 in
theorem ru_4 (s : ByteArray) (hs : s.size ≤ 1000000) (h0 : octB s 0 = 4) (hsz : s.size ≠ 0) {a0 : Nat} {s0 : ByteArray} {l0 : List Nat} {k0 : List It} {a1 : Nat} {s1 : ByteArray} {l1 : List Nat} {k1 : List It} {m : Nat} (h : begP [98, 110] s = .ok [.mk a0 s0 l0 k0, .mk a1 s1 l1 k1] m) : ACalls Try.prog 14 [str s] [] (UrW (rqP s)) := by
  have hq := rqk_4 h h0
  obtain ⟨O, hO⟩ : ∃ O, O = rqP s := ⟨_, rfl⟩
  rw [← hO]
  rw [hq] at hO
  clear hq
  have hgg : a1 < 18446744073709551616 := num_ok (n := a1) (t := s1) (x := l1) (k := k1) h (by simp)
  have hi : (0 : Int) ≤ 0 ∧ (0 : Int) < (s.size : Int) := by omega
  have hw : wrp .i64 ((octB s 0 : Nat) : Int) = ((4 : Nat) : Int) := by rw [wrpE, wi64]; omega
  have hsh := shape_ok 4 (by decide)
  rw [← hw] at hsh
  have hb := rbegin_ok (shK 4) s (by decide) hs
  rw [show byL (shK 4) = [98, 110] from rfl, h] at hb
  have hm := begP_le h
  obtain ⟨t, ht⟩ : ∃ t, t = rest s m := ⟨_, rfl⟩
  rw [← ht] at hO
  refine acalls_of_awp hT mixed Try.func14 rfl (by kernel_rfl) (by kernel_rfl) (Nat.le_of_ble_eq_true rfl) ?_
  refine fork (fun g => absurd (show (s.size : Int) = 0 from beq_iff_eq.1 g) (by omega)) (fun _ => ?_)
  refine Ob.intro hi ?_
  refine forkD (fun g => absurd (show ((octB s 0 : Nat) : Int) < 1 from g) (by omega)) (fun _ => ?_)
  refine Ob.intro hi ?_
  refine forkD (fun g => absurd (show ((octB s 0 : Nat) : Int) > 17 from g) (by omega)) (fun _ => ?_)
  refine Ob.intro hi ?_
  refine callP hsh rfl rfl ?_
  refine callP hb rfl rfl ?_
  refine Ob.intro (show (0 : Int) ≤ (m : Nat) ∧ ((m : Nat) : Int) ≤ (s.size : Int) ∧ (s.size : Int) ≤ (s.size : Int) by omega) ?_
  refine loopI (α := { j : Nat // 1 ≤ j ∧ j ≤ 2 }) (fun x => [(0, str t), (2, .ptr 0 0), (3, bo false), (4, .ptr 1 0), (5, i64 4), (6, itsV [.mk a0 s0 l0 k0, .mk a1 s1 l1 k1]), (9, i64 (x.val : Nat))]) (fun _ => [.row (rqR nilS nilS (q00 0)), .row (rqR nilS nilS (q00 0))]) (fun x => 2 - x.val) ⟨1, by decide, by decide⟩ [0, 1] ⟨⟨congrArg str ht.symm, rfl, rfl, rfl, congrArg i64 hw, rfl, rfl, True.intro⟩, ⟨.inl rfl, .inl rfl, True.intro⟩, rfl, rfl, rfl⟩ ?_
  rintro ⟨j, hj1, hj2⟩ K hK
  have hj' : j = 1 ∨ j = 2 := by omega
  rcases hj' with rfl | rfl <;> dsimp only at hj1 hj2  ⊢
  · refine Ob.intro (show (0 : Int) ≤ ((1 : Nat) : Int) ∧ ((1 : Nat) : Int) < ((2 : Nat) : Int) by omega) ?_
    refine forkD (fun g2 => ?_) (fun g2 => ?_)
    · exact hK ⟨2, by decide, by decide⟩ [0, 1] _ rfl ⟨⟨rfl, rfl, rfl, rfl, rfl, rfl, congrArg i64 (by rw [wrpE, wi64]; rfl), True.intro⟩, ⟨.inl rfl, .inl rfl, True.intro⟩, rfl, rfl, rfl⟩
    · exact hK ⟨2, by decide, by decide⟩ [0, 1] _ rfl ⟨⟨rfl, rfl, rfl, rfl, rfl, rfl, congrArg i64 (by rw [wrpE, wi64]; rfl), True.intro⟩, ⟨.inl rfl, .inl rfl, True.intro⟩, rfl, rfl, rfl⟩
  · refine Ob.intro (show (0 : Int) ≤ 1 ∧ (1 : Int) < ((2 : Nat) : Int) by omega) ?_
    have hok : Rq.ok ⟨4, 0, [], a1, false, 0, ⟨#[]⟩, false, ⟨#[]⟩, 0, ⟨#[]⟩, ⟨#[]⟩, 0, 0, []⟩ := ⟨(by decide : (0 : Nat) < 4611686018427387904), (fun y hy => by cases hy), hgg, (by decide : (0 : Nat) < 18446744073709551616), (by decide : (0 : Nat) < 4611686018427387904), (fun y hy => by cases hy)⟩
    have hle : LeL (rqR nilS nilS ⟨4, 0, [], a1, false, 0, ⟨#[]⟩, false, ⟨#[]⟩, 0, ⟨#[]⟩, ⟨#[]⟩, 0, 0, []⟩) (Rq.C ⟨4, 0, [], a1, false, 0, ⟨#[]⟩, false, ⟨#[]⟩, 0, ⟨#[]⟩, ⟨#[]⟩, 0, 0, []⟩) := by
      exact le_lac (b := false) (q := ⟨4, 0, [], a1, false, 0, ⟨#[]⟩, false, ⟨#[]⟩, 0, ⟨#[]⟩, ⟨#[]⟩, 0, 0, []⟩) (fun _ => rfl) rfl
    have hR := argsLe (cs := [.agg (rqR nilS nilS ⟨4, 0, [], a1, false, 0, ⟨#[]⟩, false, ⟨#[]⟩, 0, ⟨#[]⟩, ⟨#[]⟩, 0, 0, []⟩)]) (ds := [.agg (Rq.C ⟨4, 0, [], a1, false, 0, ⟨#[]⟩, false, ⟨#[]⟩, 0, ⟨#[]⟩, ⟨#[]⟩, 0, 0, []⟩)]) ⟨fun X v hv => VR_agLe hle hv, True.intro⟩ (rr_ok _ hok)
    by_cases hz : t.size = 0
    · refine forkD (fun g => absurd (show (t.size : Int) > 0 from g) (by omega)) (fun _ => ?_)
      cases hb2 : rqB ⟨4, 0, [], a1, false, 0, ⟨#[]⟩, false, ⟨#[]⟩, 0, ⟨#[]⟩, ⟨#[]⟩, 0, 0, []⟩ with
      | true =>
        rw [hb2] at hR
        have hO2 : O = some ⟨4, 0, [], a1, false, 0, ⟨#[]⟩, false, ⟨#[]⟩, 0, ⟨#[]⟩, ⟨#[]⟩, 0, 0, []⟩ := by rw [hO]; exact if_pos ⟨hz, hb2⟩
        rw [hO2]
        refine callP hR rfl rfl ?_
        exact ⟨rfl, [], .tup [.agg (rqR nilS nilS ⟨4, 0, [], a1, false, 0, ⟨#[]⟩, false, ⟨#[]⟩, 0, ⟨#[]⟩, ⟨#[]⟩, 0, 0, []⟩), bo true], ⟨⟨_, rfl, rfl⟩, True.intro, Nat.zero_le _, rfl⟩, rfl, _, hle, rfl⟩
      | false =>
        rw [hb2] at hR
        have hO2 : O = none := by rw [hO]; exact if_neg (fun hh => by rw [hb2] at hh; cases hh.2)
        rw [hO2]
        refine callP hR rfl rfl ?_
        exact ⟨rfl, [], .tup [.agg (rqR nilS nilS (q00 0)), bo false], ⟨⟨_, rfl, rfl⟩, True.intro, Nat.zero_le _, rfl⟩, rfl, _, le_zero, rfl⟩
    · have hO2 : O = none := by rw [hO]; exact if_neg (fun hh => hz hh.1)
      rw [hO2]
      refine forkD (fun _ => ?_) (fun g => absurd (show (t.size : Int) > 0 by omega) g)
      exact ⟨rfl, [], .tup [.agg (rqR nilS nilS (q00 0)), bo false], ⟨⟨_, rfl, rfl⟩, True.intro, Nat.zero_le _, rfl⟩, rfl, _, le_zero, rfl⟩
theorem rqk_5 {s : ByteArray} {a0 : Nat} {s0 : ByteArray} {l0 : List Nat} {k0 : List It} {m : Nat} (h : begP [98] s = .ok [.mk a0 s0 l0 k0] m) (h0 : octB s 0 = 5) : rqP s = finQ ⟨5, 0, [], 0, false, 0, ⟨#[]⟩, false, ⟨#[]⟩, 0, ⟨#[]⟩, ⟨#[]⟩, 0, 0, []⟩ (rest s m) := by
  have hb0 := h
  have hn := (b_first hb0).1.trans h0
  subst hn
  have hL : fldL ((5 : Nat) : Int) = [] := by decide
  unfold rqP
  rw [hb0]
  dsimp only
  rw [hL]
  rfl
set_option maxHeartbeats 4000000 in
theorem ru_5 (s : ByteArray) (hs : s.size ≤ 1000000) (h0 : octB s 0 = 5) (hsz : s.size ≠ 0) {a0 : Nat} {s0 : ByteArray} {l0 : List Nat} {k0 : List It} {m : Nat} (h : begP [98] s = .ok [.mk a0 s0 l0 k0] m) : ACalls Try.prog 14 [str s] [] (UrW (rqP s)) := by
  have hq := rqk_5 h h0
  obtain ⟨O, hO⟩ : ∃ O, O = rqP s := ⟨_, rfl⟩
  rw [← hO]
  rw [hq] at hO
  clear hq
  have hi : (0 : Int) ≤ 0 ∧ (0 : Int) < (s.size : Int) := by omega
  have hw : wrp .i64 ((octB s 0 : Nat) : Int) = ((5 : Nat) : Int) := by rw [wrpE, wi64]; omega
  have hsh := shape_ok 5 (by decide)
  rw [← hw] at hsh
  have hb := rbegin_ok (shK 5) s (by decide) hs
  rw [show byL (shK 5) = [98] from rfl, h] at hb
  have hm := begP_le h
  obtain ⟨t, ht⟩ : ∃ t, t = rest s m := ⟨_, rfl⟩
  rw [← ht] at hO
  refine acalls_of_awp hT mixed Try.func14 rfl (by kernel_rfl) (by kernel_rfl) (Nat.le_of_ble_eq_true rfl) ?_
  refine fork (fun g => absurd (show (s.size : Int) = 0 from beq_iff_eq.1 g) (by omega)) (fun _ => ?_)
  refine Ob.intro hi ?_
  refine forkD (fun g => absurd (show ((octB s 0 : Nat) : Int) < 1 from g) (by omega)) (fun _ => ?_)
  refine Ob.intro hi ?_
  refine forkD (fun g => absurd (show ((octB s 0 : Nat) : Int) > 17 from g) (by omega)) (fun _ => ?_)
  refine Ob.intro hi ?_
  refine callP hsh rfl rfl ?_
  refine callP hb rfl rfl ?_
  refine Ob.intro (show (0 : Int) ≤ (m : Nat) ∧ ((m : Nat) : Int) ≤ (s.size : Int) ∧ (s.size : Int) ≤ (s.size : Int) by omega) ?_
  refine loopI (α := { j : Nat // 1 ≤ j ∧ j ≤ 1 }) (fun x => [(0, str t), (2, .ptr 0 0), (3, bo false), (4, .ptr 1 0), (5, i64 5), (6, itsV [.mk a0 s0 l0 k0]), (9, i64 (x.val : Nat))]) (fun _ => [.row (rqR nilS nilS (q00 0)), .row (rqR nilS nilS (q00 0))]) (fun x => 1 - x.val) ⟨1, by decide, by decide⟩ [0, 1] ⟨⟨congrArg str ht.symm, rfl, rfl, rfl, congrArg i64 hw, rfl, rfl, True.intro⟩, ⟨.inl rfl, .inl rfl, True.intro⟩, rfl, rfl, rfl⟩ ?_
  rintro ⟨j, hj1, hj2⟩ K hK
  have hj' : j = 1 := by omega
  subst hj'
  dsimp only at hj1 hj2 ⊢
  · have hok : Rq.ok ⟨5, 0, [], 0, false, 0, ⟨#[]⟩, false, ⟨#[]⟩, 0, ⟨#[]⟩, ⟨#[]⟩, 0, 0, []⟩ := ⟨(by decide : (0 : Nat) < 4611686018427387904), (fun y hy => by cases hy), (by decide : (0 : Nat) < 18446744073709551616), (by decide : (0 : Nat) < 18446744073709551616), (by decide : (0 : Nat) < 4611686018427387904), (fun y hy => by cases hy)⟩
    have hle : LeL (rqR nilS nilS ⟨5, 0, [], 0, false, 0, ⟨#[]⟩, false, ⟨#[]⟩, 0, ⟨#[]⟩, ⟨#[]⟩, 0, 0, []⟩) (Rq.C ⟨5, 0, [], 0, false, 0, ⟨#[]⟩, false, ⟨#[]⟩, 0, ⟨#[]⟩, ⟨#[]⟩, 0, 0, []⟩) := by
      exact le_lac (b := false) (q := ⟨5, 0, [], 0, false, 0, ⟨#[]⟩, false, ⟨#[]⟩, 0, ⟨#[]⟩, ⟨#[]⟩, 0, 0, []⟩) (fun _ => rfl) rfl
    have hR := argsLe (cs := [.agg (rqR nilS nilS ⟨5, 0, [], 0, false, 0, ⟨#[]⟩, false, ⟨#[]⟩, 0, ⟨#[]⟩, ⟨#[]⟩, 0, 0, []⟩)]) (ds := [.agg (Rq.C ⟨5, 0, [], 0, false, 0, ⟨#[]⟩, false, ⟨#[]⟩, 0, ⟨#[]⟩, ⟨#[]⟩, 0, 0, []⟩)]) ⟨fun X v hv => VR_agLe hle hv, True.intro⟩ (rr_ok _ hok)
    by_cases hz : t.size = 0
    · refine forkD (fun g => absurd (show (t.size : Int) > 0 from g) (by omega)) (fun _ => ?_)
      cases hb2 : rqB ⟨5, 0, [], 0, false, 0, ⟨#[]⟩, false, ⟨#[]⟩, 0, ⟨#[]⟩, ⟨#[]⟩, 0, 0, []⟩ with
      | true =>
        rw [hb2] at hR
        have hO2 : O = some ⟨5, 0, [], 0, false, 0, ⟨#[]⟩, false, ⟨#[]⟩, 0, ⟨#[]⟩, ⟨#[]⟩, 0, 0, []⟩ := by rw [hO]; exact if_pos ⟨hz, hb2⟩
        rw [hO2]
        refine callP hR rfl rfl ?_
        exact ⟨rfl, [], .tup [.agg (rqR nilS nilS ⟨5, 0, [], 0, false, 0, ⟨#[]⟩, false, ⟨#[]⟩, 0, ⟨#[]⟩, ⟨#[]⟩, 0, 0, []⟩), bo true], ⟨⟨_, rfl, rfl⟩, True.intro, Nat.zero_le _, rfl⟩, rfl, _, hle, rfl⟩
      | false =>
        rw [hb2] at hR
        have hO2 : O = none := by rw [hO]; exact if_neg (fun hh => by rw [hb2] at hh; cases hh.2)
        rw [hO2]
        refine callP hR rfl rfl ?_
        exact ⟨rfl, [], .tup [.agg (rqR nilS nilS (q00 0)), bo false], ⟨⟨_, rfl, rfl⟩, True.intro, Nat.zero_le _, rfl⟩, rfl, _, le_zero, rfl⟩
    · have hO2 : O = none := by rw [hO]; exact if_neg (fun hh => hz hh.1)
      rw [hO2]
      refine forkD (fun _ => ?_) (fun g => absurd (show (t.size : Int) > 0 by omega) g)
      exact ⟨rfl, [], .tup [.agg (rqR nilS nilS (q00 0)), bo false], ⟨⟨_, rfl, rfl⟩, True.intro, Nat.zero_le _, rfl⟩, rfl, _, le_zero, rfl⟩
theorem rqk_6 {s : ByteArray} {a0 : Nat} {s0 : ByteArray} {l0 : List Nat} {k0 : List It} {a1 : Nat} {s1 : ByteArray} {l1 : List Nat} {k1 : List It} {a2 : Nat} {s2 : ByteArray} {l2 : List Nat} {k2 : List It} {a3 : Nat} {s3 : ByteArray} {l3 : List Nat} {k3 : List It} {m : Nat} (h : begP [98, 110, 110, 98] s = .ok [.mk a0 s0 l0 k0, .mk a1 s1 l1 k1, .mk a2 s2 l2 k2, .mk a3 s3 l3 k3] m) (h0 : octB s 0 = 6) : rqP s = (if a1 ≤ 2147483647 then (if a3 ≤ 1 then finQ ⟨6, ((a1 : Nat) : Int), [], a2, decide (a3 = 1), 0, ⟨#[]⟩, false, ⟨#[]⟩, 0, ⟨#[]⟩, ⟨#[]⟩, 0, 0, []⟩ (rest s m) else none) else none) := by
  obtain ⟨x0, m0, r1, j1, hb0, hr1, e0, em0⟩ := begP_cat_ok (b1 := [98]) (b2 := [110, 110, 98]) (L1 := [(98, false)]) (L2 := [(110, false), (110, false), (98, false)]) (by decide) (by decide) (by decide) h
  obtain ⟨n0, t0, q0, z0, rfl⟩ := beg_1 sh_1b hb0
  cases e0
  obtain ⟨y1, m1, r2, j2, hb1, hr2, e1, em1⟩ := begP_cat_ok (b1 := [110]) (b2 := [110, 98]) (L1 := [(110, false)]) (L2 := [(110, false), (98, false)]) (by decide) (by decide) (by decide) hr1
  obtain ⟨n1, t1, q1, z1, rfl⟩ := beg_1 sh_1n hb1
  cases e1
  obtain ⟨y2, m2, r3, j3, hb2, hr3, e2, em2⟩ := begP_cat_ok (b1 := [110]) (b2 := [98]) (L1 := [(110, false)]) (L2 := [(98, false)]) (by decide) (by decide) (by decide) hr2
  obtain ⟨n2, t2, q2, z2, rfl⟩ := beg_1 sh_1n hb2
  cases e2
  have hb3 := hr3
  subst em2 em1 em0
  have hn := (b_first hb0).1.trans h0
  subst hn
  have hL : fldL ((6 : Nat) : Int) = [0, 2, 3] := by decide
  unfold rqP
  rw [hb0]
  dsimp only
  rw [hL]
  rw [fdsP_cons, fq_0 hb1]
  by_cases hc0 : a1 ≤ 2147483647
  rotate_left
  · simp only [if_neg hc0]
  simp only [if_pos hc0]
  try dsimp only
  rw [fdsP_cons, fq_2 hb2]
  try dsimp only
  rw [fdsP_cons, fq_3 hb3]
  by_cases hc2 : a3 ≤ 1
  rotate_left
  · simp only [if_neg hc2]
  simp only [if_pos hc2]
  try dsimp only
  simp only [rest_rest, Nat.add_assoc]
  rfl
set_option maxHeartbeats 4000000 in
theorem ru_6 (s : ByteArray) (hs : s.size ≤ 1000000) (h0 : octB s 0 = 6) (hsz : s.size ≠ 0) {a0 : Nat} {s0 : ByteArray} {l0 : List Nat} {k0 : List It} {a1 : Nat} {s1 : ByteArray} {l1 : List Nat} {k1 : List It} {a2 : Nat} {s2 : ByteArray} {l2 : List Nat} {k2 : List It} {a3 : Nat} {s3 : ByteArray} {l3 : List Nat} {k3 : List It} {m : Nat} (h : begP [98, 110, 110, 98] s = .ok [.mk a0 s0 l0 k0, .mk a1 s1 l1 k1, .mk a2 s2 l2 k2, .mk a3 s3 l3 k3] m) : ACalls Try.prog 14 [str s] [] (UrW (rqP s)) := by
  have hq := rqk_6 h h0
  obtain ⟨O, hO⟩ : ∃ O, O = rqP s := ⟨_, rfl⟩
  rw [← hO]
  rw [hq] at hO
  clear hq
  have hgg : a2 < 18446744073709551616 := num_ok (n := a2) (t := s2) (x := l2) (k := k2) h (by simp)
  have hi : (0 : Int) ≤ 0 ∧ (0 : Int) < (s.size : Int) := by omega
  have hw : wrp .i64 ((octB s 0 : Nat) : Int) = ((6 : Nat) : Int) := by rw [wrpE, wi64]; omega
  have hsh := shape_ok 6 (by decide)
  rw [← hw] at hsh
  have hb := rbegin_ok (shK 6) s (by decide) hs
  rw [show byL (shK 6) = [98, 110, 110, 98] from rfl, h] at hb
  have hm := begP_le h
  obtain ⟨t, ht⟩ : ∃ t, t = rest s m := ⟨_, rfl⟩
  rw [← ht] at hO
  have hd : decide (a3 = 1) = true ∨ decide (a3 = 1) = false := by cases decide (a3 = 1) <;> simp
  refine acalls_of_awp hT mixed Try.func14 rfl (by kernel_rfl) (by kernel_rfl) (Nat.le_of_ble_eq_true rfl) ?_
  refine fork (fun g => absurd (show (s.size : Int) = 0 from beq_iff_eq.1 g) (by omega)) (fun _ => ?_)
  refine Ob.intro hi ?_
  refine forkD (fun g => absurd (show ((octB s 0 : Nat) : Int) < 1 from g) (by omega)) (fun _ => ?_)
  refine Ob.intro hi ?_
  refine forkD (fun g => absurd (show ((octB s 0 : Nat) : Int) > 17 from g) (by omega)) (fun _ => ?_)
  refine Ob.intro hi ?_
  refine callP hsh rfl rfl ?_
  refine callP hb rfl rfl ?_
  refine Ob.intro (show (0 : Int) ≤ (m : Nat) ∧ ((m : Nat) : Int) ≤ (s.size : Int) ∧ (s.size : Int) ≤ (s.size : Int) by omega) ?_
  refine loopI (α := { j : Nat // 1 ≤ j ∧ j ≤ 4 ∧ (1 < j → a1 ≤ 2147483647) ∧ (3 < j → a3 ≤ 2147483647) }) (fun x => [(0, str t), (2, .ptr 0 0), (3, bo false), (4, .ptr 1 0), (5, i64 6), (6, itsV [.mk a0 s0 l0 k0, .mk a1 s1 l1 k1, .mk a2 s2 l2 k2, .mk a3 s3 l3 k3]), (9, i64 (x.val : Nat))]) (fun _ => [.row (rqR nilS nilS (q00 0)), .row (rqR nilS nilS (q00 0))]) (fun x => 4 - x.val) ⟨1, by decide, by decide, fun g => absurd g (by decide), fun g => absurd g (by decide)⟩ [0, 1] ⟨⟨congrArg str ht.symm, rfl, rfl, rfl, congrArg i64 hw, rfl, rfl, True.intro⟩, ⟨.inl rfl, .inl rfl, True.intro⟩, rfl, rfl, rfl⟩ ?_
  rintro ⟨j, hj1, hj2, b1, b3⟩ K hK
  have hj' : j = 1 ∨ j = 2 ∨ j = 3 ∨ j = 4 := by omega
  rcases hj' with rfl | rfl | rfl | rfl <;> dsimp only at hj1 hj2 b1 b3 ⊢
  · refine Ob.intro (show (0 : Int) ≤ ((1 : Nat) : Int) ∧ ((1 : Nat) : Int) < ((4 : Nat) : Int) by omega) ?_
    refine forkD (fun g2 => ?_) (fun g2 => ?_)
    · have hbig : ¬ a1 ≤ 2147483647 := by have : (a1 : Int) > 2147483647 := g2; omega
      have hO2 : O = none := by rw [hO, if_neg (show ¬ a1 ≤ 2147483647 by omega)]
      rw [hO2]
      exact ⟨rfl, [], .tup [.agg (rqR nilS nilS (q00 0)), bo false], ⟨⟨_, rfl, rfl⟩, True.intro, Nat.zero_le _, rfl⟩, rfl, _, le_zero, rfl⟩
    · exact hK ⟨2, by decide, by decide, (fun g => by have : ¬ (a1 : Int) > 2147483647 := g2; omega), fun g => absurd g (by decide)⟩ [0, 1] _ rfl ⟨⟨rfl, rfl, rfl, rfl, rfl, rfl, congrArg i64 (by rw [wrpE, wi64]; rfl), True.intro⟩, ⟨.inl rfl, .inl rfl, True.intro⟩, rfl, rfl, rfl⟩
  · refine Ob.intro (show (0 : Int) ≤ ((2 : Nat) : Int) ∧ ((2 : Nat) : Int) < ((4 : Nat) : Int) by omega) ?_
    refine forkD (fun g2 => ?_) (fun g2 => ?_)
    · exact hK ⟨3, by decide, by decide, (fun g => by have := b1 (by decide); omega), fun g => absurd g (by decide)⟩ [0, 1] _ rfl ⟨⟨rfl, rfl, rfl, rfl, rfl, rfl, congrArg i64 (by rw [wrpE, wi64]; rfl), True.intro⟩, ⟨.inl rfl, .inl rfl, True.intro⟩, rfl, rfl, rfl⟩
    · exact hK ⟨3, by decide, by decide, (fun g => by have := b1 (by decide); omega), fun g => absurd g (by decide)⟩ [0, 1] _ rfl ⟨⟨rfl, rfl, rfl, rfl, rfl, rfl, congrArg i64 (by rw [wrpE, wi64]; rfl), True.intro⟩, ⟨.inl rfl, .inl rfl, True.intro⟩, rfl, rfl, rfl⟩
  · refine Ob.intro (show (0 : Int) ≤ ((3 : Nat) : Int) ∧ ((3 : Nat) : Int) < ((4 : Nat) : Int) by omega) ?_
    refine forkD (fun g2 => ?_) (fun g2 => ?_)
    · have hbig : ¬ a3 ≤ 2147483647 := by have : (a3 : Int) > 2147483647 := g2; omega
      have hO2 : O = none := by rw [hO, if_pos (b1 (by decide)), if_neg (show ¬ a3 ≤ 1 by omega)]
      rw [hO2]
      exact ⟨rfl, [], .tup [.agg (rqR nilS nilS (q00 0)), bo false], ⟨⟨_, rfl, rfl⟩, True.intro, Nat.zero_le _, rfl⟩, rfl, _, le_zero, rfl⟩
    · exact hK ⟨4, by decide, by decide, (fun g => by have := b1 (by decide); omega), (fun g => by have : ¬ (a3 : Int) > 2147483647 := g2; omega)⟩ [0, 1] _ rfl ⟨⟨rfl, rfl, rfl, rfl, rfl, rfl, congrArg i64 (by rw [wrpE, wi64]; rfl), True.intro⟩, ⟨.inl rfl, .inl rfl, True.intro⟩, rfl, rfl, rfl⟩
  · have w1 : wrp .i64 ((a1 : Nat) : Int) = ((a1 : Nat) : Int) := by have := b1 (by decide); rw [wrpE, wi64]; omega
    rw [if_pos (b1 (by decide))] at hO
    refine Ob.intro (show (0 : Int) ≤ 1 ∧ (1 : Int) < ((4 : Nat) : Int) by omega) ?_
    refine Ob.intro (show (0 : Int) ≤ 2 ∧ (2 : Int) < ((4 : Nat) : Int) by omega) ?_
    refine Ob.intro (show (0 : Int) ≤ 3 ∧ (3 : Int) < ((4 : Nat) : Int) by omega) ?_
    refine fork (fun g3 => ?_) (fun g3 => ?_)
    · have e3 : a3 = 1 := by have : (a3 : Int) = 1 := beq_iff_eq.1 g3; omega
      refine Ob.intro (show (0 : Int) ≤ 3 ∧ (3 : Int) < ((4 : Nat) : Int) by omega) ?_
      refine forkD (fun g => absurd (show (a3 : Int) > 1 from g) (by omega)) (fun _ => ?_)
      rw [if_pos (show a3 ≤ 1 by omega), decide_eq_true (show a3 = 1 by omega)] at hO
      have hok : Rq.ok ⟨6, ((a1 : Nat) : Int), [], a2, true, 0, ⟨#[]⟩, false, ⟨#[]⟩, 0, ⟨#[]⟩, ⟨#[]⟩, 0, 0, []⟩ := ⟨(by decide : (0 : Nat) < 4611686018427387904), (fun y hy => by cases hy), hgg, (by decide : (0 : Nat) < 18446744073709551616), (by decide : (0 : Nat) < 4611686018427387904), (fun y hy => by cases hy)⟩
      have hle : LeL (rqR nilS nilS ⟨6, (wrp .i64 ((a1 : Nat) : Int)), [], a2, true, 0, ⟨#[]⟩, false, ⟨#[]⟩, 0, ⟨#[]⟩, ⟨#[]⟩, 0, 0, []⟩) (Rq.C ⟨6, ((a1 : Nat) : Int), [], a2, true, 0, ⟨#[]⟩, false, ⟨#[]⟩, 0, ⟨#[]⟩, ⟨#[]⟩, 0, 0, []⟩) := by
        rw [w1]
        exact le_lac (b := false) (q := ⟨6, ((a1 : Nat) : Int), [], a2, true, 0, ⟨#[]⟩, false, ⟨#[]⟩, 0, ⟨#[]⟩, ⟨#[]⟩, 0, 0, []⟩) (fun _ => rfl) rfl
      have hR := argsLe (cs := [.agg (rqR nilS nilS ⟨6, (wrp .i64 ((a1 : Nat) : Int)), [], a2, true, 0, ⟨#[]⟩, false, ⟨#[]⟩, 0, ⟨#[]⟩, ⟨#[]⟩, 0, 0, []⟩)]) (ds := [.agg (Rq.C ⟨6, ((a1 : Nat) : Int), [], a2, true, 0, ⟨#[]⟩, false, ⟨#[]⟩, 0, ⟨#[]⟩, ⟨#[]⟩, 0, 0, []⟩)]) ⟨fun X v hv => VR_agLe hle hv, True.intro⟩ (rr_ok _ hok)
      by_cases hz : t.size = 0
      · refine forkD (fun g => absurd (show (t.size : Int) > 0 from g) (by omega)) (fun _ => ?_)
        cases hb2 : rqB ⟨6, ((a1 : Nat) : Int), [], a2, true, 0, ⟨#[]⟩, false, ⟨#[]⟩, 0, ⟨#[]⟩, ⟨#[]⟩, 0, 0, []⟩ with
        | true =>
          rw [hb2] at hR
          have hO2 : O = some ⟨6, ((a1 : Nat) : Int), [], a2, true, 0, ⟨#[]⟩, false, ⟨#[]⟩, 0, ⟨#[]⟩, ⟨#[]⟩, 0, 0, []⟩ := by rw [hO]; exact if_pos ⟨hz, hb2⟩
          rw [hO2]
          refine callP hR rfl rfl ?_
          exact ⟨rfl, [], .tup [.agg (rqR nilS nilS ⟨6, (wrp .i64 ((a1 : Nat) : Int)), [], a2, true, 0, ⟨#[]⟩, false, ⟨#[]⟩, 0, ⟨#[]⟩, ⟨#[]⟩, 0, 0, []⟩), bo true], ⟨⟨_, rfl, rfl⟩, True.intro, Nat.zero_le _, rfl⟩, rfl, _, hle, rfl⟩
        | false =>
          rw [hb2] at hR
          have hO2 : O = none := by rw [hO]; exact if_neg (fun hh => by rw [hb2] at hh; cases hh.2)
          rw [hO2]
          refine callP hR rfl rfl ?_
          exact ⟨rfl, [], .tup [.agg (rqR nilS nilS (q00 0)), bo false], ⟨⟨_, rfl, rfl⟩, True.intro, Nat.zero_le _, rfl⟩, rfl, _, le_zero, rfl⟩
      · have hO2 : O = none := by rw [hO]; exact if_neg (fun hh => hz hh.1)
        rw [hO2]
        refine forkD (fun _ => ?_) (fun g => absurd (show (t.size : Int) > 0 by omega) g)
        exact ⟨rfl, [], .tup [.agg (rqR nilS nilS (q00 0)), bo false], ⟨⟨_, rfl, rfl⟩, True.intro, Nat.zero_le _, rfl⟩, rfl, _, le_zero, rfl⟩
    · have e3 : ¬ a3 = 1 := by have : (a3 : Int) ≠ 1 := beq_eq_false_iff_ne.1 g3; omega
      refine Ob.intro (show (0 : Int) ≤ 3 ∧ (3 : Int) < ((4 : Nat) : Int) by omega) ?_
      refine forkD (fun g => ?_) (fun g => ?_)
      · have hO2 : O = none := by rw [hO, if_neg (show ¬ a3 ≤ 1 by have : (a3 : Int) > 1 := g; omega)]
        rw [hO2]
        exact ⟨rfl, [], .tup [.agg (rqR nilS nilS (q00 0)), bo false], ⟨⟨_, rfl, rfl⟩, True.intro, Nat.zero_le _, rfl⟩, rfl, _, le_zero, rfl⟩
      · have e4 : a3 = 0 := by have : ¬ (a3 : Int) > 1 := g; omega
        rw [if_pos (show a3 ≤ 1 by omega), decide_eq_false (show ¬ a3 = 1 by omega)] at hO
        have hok : Rq.ok ⟨6, ((a1 : Nat) : Int), [], a2, false, 0, ⟨#[]⟩, false, ⟨#[]⟩, 0, ⟨#[]⟩, ⟨#[]⟩, 0, 0, []⟩ := ⟨(by decide : (0 : Nat) < 4611686018427387904), (fun y hy => by cases hy), hgg, (by decide : (0 : Nat) < 18446744073709551616), (by decide : (0 : Nat) < 4611686018427387904), (fun y hy => by cases hy)⟩
        have hle : LeL (rqR nilS nilS ⟨6, (wrp .i64 ((a1 : Nat) : Int)), [], a2, false, 0, ⟨#[]⟩, false, ⟨#[]⟩, 0, ⟨#[]⟩, ⟨#[]⟩, 0, 0, []⟩) (Rq.C ⟨6, ((a1 : Nat) : Int), [], a2, false, 0, ⟨#[]⟩, false, ⟨#[]⟩, 0, ⟨#[]⟩, ⟨#[]⟩, 0, 0, []⟩) := by
          rw [w1]
          exact le_lac (b := false) (q := ⟨6, ((a1 : Nat) : Int), [], a2, false, 0, ⟨#[]⟩, false, ⟨#[]⟩, 0, ⟨#[]⟩, ⟨#[]⟩, 0, 0, []⟩) (fun _ => rfl) rfl
        have hR := argsLe (cs := [.agg (rqR nilS nilS ⟨6, (wrp .i64 ((a1 : Nat) : Int)), [], a2, false, 0, ⟨#[]⟩, false, ⟨#[]⟩, 0, ⟨#[]⟩, ⟨#[]⟩, 0, 0, []⟩)]) (ds := [.agg (Rq.C ⟨6, ((a1 : Nat) : Int), [], a2, false, 0, ⟨#[]⟩, false, ⟨#[]⟩, 0, ⟨#[]⟩, ⟨#[]⟩, 0, 0, []⟩)]) ⟨fun X v hv => VR_agLe hle hv, True.intro⟩ (rr_ok _ hok)
        by_cases hz : t.size = 0
        · refine forkD (fun g => absurd (show (t.size : Int) > 0 from g) (by omega)) (fun _ => ?_)
          cases hb2 : rqB ⟨6, ((a1 : Nat) : Int), [], a2, false, 0, ⟨#[]⟩, false, ⟨#[]⟩, 0, ⟨#[]⟩, ⟨#[]⟩, 0, 0, []⟩ with
          | true =>
            rw [hb2] at hR
            have hO2 : O = some ⟨6, ((a1 : Nat) : Int), [], a2, false, 0, ⟨#[]⟩, false, ⟨#[]⟩, 0, ⟨#[]⟩, ⟨#[]⟩, 0, 0, []⟩ := by rw [hO]; exact if_pos ⟨hz, hb2⟩
            rw [hO2]
            refine callP hR rfl rfl ?_
            exact ⟨rfl, [], .tup [.agg (rqR nilS nilS ⟨6, (wrp .i64 ((a1 : Nat) : Int)), [], a2, false, 0, ⟨#[]⟩, false, ⟨#[]⟩, 0, ⟨#[]⟩, ⟨#[]⟩, 0, 0, []⟩), bo true], ⟨⟨_, rfl, rfl⟩, True.intro, Nat.zero_le _, rfl⟩, rfl, _, hle, rfl⟩
          | false =>
            rw [hb2] at hR
            have hO2 : O = none := by rw [hO]; exact if_neg (fun hh => by rw [hb2] at hh; cases hh.2)
            rw [hO2]
            refine callP hR rfl rfl ?_
            exact ⟨rfl, [], .tup [.agg (rqR nilS nilS (q00 0)), bo false], ⟨⟨_, rfl, rfl⟩, True.intro, Nat.zero_le _, rfl⟩, rfl, _, le_zero, rfl⟩
        · have hO2 : O = none := by rw [hO]; exact if_neg (fun hh => hz hh.1)
          rw [hO2]
          refine forkD (fun _ => ?_) (fun g => absurd (show (t.size : Int) > 0 by omega) g)
          exact ⟨rfl, [], .tup [.agg (rqR nilS nilS (q00 0)), bo false], ⟨⟨_, rfl, rfl⟩, True.intro, Nat.zero_le _, rfl⟩, rfl, _, le_zero, rfl⟩
theorem rqk_7 {s : ByteArray} {a0 : Nat} {s0 : ByteArray} {l0 : List Nat} {k0 : List It} {m : Nat} (h : begP [98] s = .ok [.mk a0 s0 l0 k0] m) (h0 : octB s 0 = 7) : rqP s = finQ ⟨7, 0, [], 0, false, 0, ⟨#[]⟩, false, ⟨#[]⟩, 0, ⟨#[]⟩, ⟨#[]⟩, 0, 0, []⟩ (rest s m) := by
  have hb0 := h
  have hn := (b_first hb0).1.trans h0
  subst hn
  have hL : fldL ((7 : Nat) : Int) = [] := by decide
  unfold rqP
  rw [hb0]
  dsimp only
  rw [hL]
  rfl
set_option maxHeartbeats 4000000 in
theorem ru_7 (s : ByteArray) (hs : s.size ≤ 1000000) (h0 : octB s 0 = 7) (hsz : s.size ≠ 0) {a0 : Nat} {s0 : ByteArray} {l0 : List Nat} {k0 : List It} {m : Nat} (h : begP [98] s = .ok [.mk a0 s0 l0 k0] m) : ACalls Try.prog 14 [str s] [] (UrW (rqP s)) := by
  have hq := rqk_7 h h0
  obtain ⟨O, hO⟩ : ∃ O, O = rqP s := ⟨_, rfl⟩
  rw [← hO]
  rw [hq] at hO
  clear hq
  have hi : (0 : Int) ≤ 0 ∧ (0 : Int) < (s.size : Int) := by omega
  have hw : wrp .i64 ((octB s 0 : Nat) : Int) = ((7 : Nat) : Int) := by rw [wrpE, wi64]; omega
  have hsh := shape_ok 7 (by decide)
  rw [← hw] at hsh
  have hb := rbegin_ok (shK 7) s (by decide) hs
  rw [show byL (shK 7) = [98] from rfl, h] at hb
  have hm := begP_le h
  obtain ⟨t, ht⟩ : ∃ t, t = rest s m := ⟨_, rfl⟩
  rw [← ht] at hO
  refine acalls_of_awp hT mixed Try.func14 rfl (by kernel_rfl) (by kernel_rfl) (Nat.le_of_ble_eq_true rfl) ?_
  refine fork (fun g => absurd (show (s.size : Int) = 0 from beq_iff_eq.1 g) (by omega)) (fun _ => ?_)
  refine Ob.intro hi ?_
  refine forkD (fun g => absurd (show ((octB s 0 : Nat) : Int) < 1 from g) (by omega)) (fun _ => ?_)
  refine Ob.intro hi ?_
  refine forkD (fun g => absurd (show ((octB s 0 : Nat) : Int) > 17 from g) (by omega)) (fun _ => ?_)
  refine Ob.intro hi ?_
  refine callP hsh rfl rfl ?_
  refine callP hb rfl rfl ?_
  refine Ob.intro (show (0 : Int) ≤ (m : Nat) ∧ ((m : Nat) : Int) ≤ (s.size : Int) ∧ (s.size : Int) ≤ (s.size : Int) by omega) ?_
  refine loopI (α := { j : Nat // 1 ≤ j ∧ j ≤ 1 }) (fun x => [(0, str t), (2, .ptr 0 0), (3, bo false), (4, .ptr 1 0), (5, i64 7), (6, itsV [.mk a0 s0 l0 k0]), (9, i64 (x.val : Nat))]) (fun _ => [.row (rqR nilS nilS (q00 0)), .row (rqR nilS nilS (q00 0))]) (fun x => 1 - x.val) ⟨1, by decide, by decide⟩ [0, 1] ⟨⟨congrArg str ht.symm, rfl, rfl, rfl, congrArg i64 hw, rfl, rfl, True.intro⟩, ⟨.inl rfl, .inl rfl, True.intro⟩, rfl, rfl, rfl⟩ ?_
  rintro ⟨j, hj1, hj2⟩ K hK
  have hj' : j = 1 := by omega
  subst hj'
  dsimp only at hj1 hj2 ⊢
  · have hok : Rq.ok ⟨7, 0, [], 0, false, 0, ⟨#[]⟩, false, ⟨#[]⟩, 0, ⟨#[]⟩, ⟨#[]⟩, 0, 0, []⟩ := ⟨(by decide : (0 : Nat) < 4611686018427387904), (fun y hy => by cases hy), (by decide : (0 : Nat) < 18446744073709551616), (by decide : (0 : Nat) < 18446744073709551616), (by decide : (0 : Nat) < 4611686018427387904), (fun y hy => by cases hy)⟩
    have hle : LeL (rqR nilS nilS ⟨7, 0, [], 0, false, 0, ⟨#[]⟩, false, ⟨#[]⟩, 0, ⟨#[]⟩, ⟨#[]⟩, 0, 0, []⟩) (Rq.C ⟨7, 0, [], 0, false, 0, ⟨#[]⟩, false, ⟨#[]⟩, 0, ⟨#[]⟩, ⟨#[]⟩, 0, 0, []⟩) := by
      exact le_lac (b := false) (q := ⟨7, 0, [], 0, false, 0, ⟨#[]⟩, false, ⟨#[]⟩, 0, ⟨#[]⟩, ⟨#[]⟩, 0, 0, []⟩) (fun _ => rfl) rfl
    have hR := argsLe (cs := [.agg (rqR nilS nilS ⟨7, 0, [], 0, false, 0, ⟨#[]⟩, false, ⟨#[]⟩, 0, ⟨#[]⟩, ⟨#[]⟩, 0, 0, []⟩)]) (ds := [.agg (Rq.C ⟨7, 0, [], 0, false, 0, ⟨#[]⟩, false, ⟨#[]⟩, 0, ⟨#[]⟩, ⟨#[]⟩, 0, 0, []⟩)]) ⟨fun X v hv => VR_agLe hle hv, True.intro⟩ (rr_ok _ hok)
    by_cases hz : t.size = 0
    · refine forkD (fun g => absurd (show (t.size : Int) > 0 from g) (by omega)) (fun _ => ?_)
      cases hb2 : rqB ⟨7, 0, [], 0, false, 0, ⟨#[]⟩, false, ⟨#[]⟩, 0, ⟨#[]⟩, ⟨#[]⟩, 0, 0, []⟩ with
      | true =>
        rw [hb2] at hR
        have hO2 : O = some ⟨7, 0, [], 0, false, 0, ⟨#[]⟩, false, ⟨#[]⟩, 0, ⟨#[]⟩, ⟨#[]⟩, 0, 0, []⟩ := by rw [hO]; exact if_pos ⟨hz, hb2⟩
        rw [hO2]
        refine callP hR rfl rfl ?_
        exact ⟨rfl, [], .tup [.agg (rqR nilS nilS ⟨7, 0, [], 0, false, 0, ⟨#[]⟩, false, ⟨#[]⟩, 0, ⟨#[]⟩, ⟨#[]⟩, 0, 0, []⟩), bo true], ⟨⟨_, rfl, rfl⟩, True.intro, Nat.zero_le _, rfl⟩, rfl, _, hle, rfl⟩
      | false =>
        rw [hb2] at hR
        have hO2 : O = none := by rw [hO]; exact if_neg (fun hh => by rw [hb2] at hh; cases hh.2)
        rw [hO2]
        refine callP hR rfl rfl ?_
        exact ⟨rfl, [], .tup [.agg (rqR nilS nilS (q00 0)), bo false], ⟨⟨_, rfl, rfl⟩, True.intro, Nat.zero_le _, rfl⟩, rfl, _, le_zero, rfl⟩
    · have hO2 : O = none := by rw [hO]; exact if_neg (fun hh => hz hh.1)
      rw [hO2]
      refine forkD (fun _ => ?_) (fun g => absurd (show (t.size : Int) > 0 by omega) g)
      exact ⟨rfl, [], .tup [.agg (rqR nilS nilS (q00 0)), bo false], ⟨⟨_, rfl, rfl⟩, True.intro, Nat.zero_le _, rfl⟩, rfl, _, le_zero, rfl⟩
theorem rqk_8 {s : ByteArray} {a0 : Nat} {s0 : ByteArray} {l0 : List Nat} {k0 : List It} {a1 : Nat} {s1 : ByteArray} {l1 : List Nat} {k1 : List It} {a2 : Nat} {s2 : ByteArray} {l2 : List Nat} {k2 : List It} {m : Nat} (h : begP [98, 110, 116] s = .ok [.mk a0 s0 l0 k0, .mk a1 s1 l1 k1, .mk a2 s2 l2 k2] m) (h0 : octB s 0 = 8) : rqP s = (if a1 ≤ 2147483647 then finQ ⟨8, 0, [], 0, false, ((a1 : Nat) : Int), s2, false, ⟨#[]⟩, 0, ⟨#[]⟩, ⟨#[]⟩, 0, 0, []⟩ (rest s m) else none) ∧ a2 = 0 := by
  obtain ⟨x0, m0, r1, j1, hb0, hr1, e0, em0⟩ := begP_cat_ok (b1 := [98]) (b2 := [110, 116]) (L1 := [(98, false)]) (L2 := [(110, false), (116, false)]) (by decide) (by decide) (by decide) h
  obtain ⟨n0, t0, q0, z0, rfl⟩ := beg_1 sh_1b hb0
  cases e0
  obtain ⟨y1, m1, r2, j2, hb1, hr2, e1, em1⟩ := begP_cat_ok (b1 := [110]) (b2 := [116]) (L1 := [(110, false)]) (L2 := [(116, false)]) (by decide) (by decide) (by decide) hr1
  obtain ⟨n1, t1, q1, z1, rfl⟩ := beg_1 sh_1n hb1
  cases e1
  have hb2 := hr2
  subst em1 em0
  refine ⟨?_, t_zero hb2⟩
  have hn := (b_first hb0).1.trans h0
  subst hn
  have hL : fldL ((8 : Nat) : Int) = [4, 5] := by decide
  unfold rqP
  rw [hb0]
  dsimp only
  rw [hL]
  rw [fdsP_cons, fq_4 hb1]
  by_cases hc0 : a1 ≤ 2147483647
  rotate_left
  · simp only [if_neg hc0]
  simp only [if_pos hc0]
  try dsimp only
  rw [fdsP_cons, fq_5 hb2]
  try dsimp only
  simp only [rest_rest, Nat.add_assoc]
  rfl
set_option maxHeartbeats 4000000 in
theorem ru_8 (s : ByteArray) (hs : s.size ≤ 1000000) (h0 : octB s 0 = 8) (hsz : s.size ≠ 0) {a0 : Nat} {s0 : ByteArray} {l0 : List Nat} {k0 : List It} {a1 : Nat} {s1 : ByteArray} {l1 : List Nat} {k1 : List It} {a2 : Nat} {s2 : ByteArray} {l2 : List Nat} {k2 : List It} {m : Nat} (h : begP [98, 110, 116] s = .ok [.mk a0 s0 l0 k0, .mk a1 s1 l1 k1, .mk a2 s2 l2 k2] m) : ACalls Try.prog 14 [str s] [] (UrW (rqP s)) := by
  obtain ⟨hq, z0⟩ := rqk_8 h h0
  obtain ⟨O, hO⟩ : ∃ O, O = rqP s := ⟨_, rfl⟩
  rw [← hO]
  rw [hq] at hO
  clear hq
  have hi : (0 : Int) ≤ 0 ∧ (0 : Int) < (s.size : Int) := by omega
  have hw : wrp .i64 ((octB s 0 : Nat) : Int) = ((8 : Nat) : Int) := by rw [wrpE, wi64]; omega
  have hsh := shape_ok 8 (by decide)
  rw [← hw] at hsh
  have hb := rbegin_ok (shK 8) s (by decide) hs
  rw [show byL (shK 8) = [98, 110, 116] from rfl, h] at hb
  have hm := begP_le h
  obtain ⟨t, ht⟩ : ∃ t, t = rest s m := ⟨_, rfl⟩
  rw [← ht] at hO
  refine acalls_of_awp hT mixed Try.func14 rfl (by kernel_rfl) (by kernel_rfl) (Nat.le_of_ble_eq_true rfl) ?_
  refine fork (fun g => absurd (show (s.size : Int) = 0 from beq_iff_eq.1 g) (by omega)) (fun _ => ?_)
  refine Ob.intro hi ?_
  refine forkD (fun g => absurd (show ((octB s 0 : Nat) : Int) < 1 from g) (by omega)) (fun _ => ?_)
  refine Ob.intro hi ?_
  refine forkD (fun g => absurd (show ((octB s 0 : Nat) : Int) > 17 from g) (by omega)) (fun _ => ?_)
  refine Ob.intro hi ?_
  refine callP hsh rfl rfl ?_
  refine callP hb rfl rfl ?_
  refine Ob.intro (show (0 : Int) ≤ (m : Nat) ∧ ((m : Nat) : Int) ≤ (s.size : Int) ∧ (s.size : Int) ≤ (s.size : Int) by omega) ?_
  refine loopI (α := { j : Nat // 1 ≤ j ∧ j ≤ 3 ∧ (1 < j → a1 ≤ 2147483647) }) (fun x => [(0, str t), (2, .ptr 0 0), (3, bo false), (4, .ptr 1 0), (5, i64 8), (6, itsV [.mk a0 s0 l0 k0, .mk a1 s1 l1 k1, .mk a2 s2 l2 k2]), (9, i64 (x.val : Nat))]) (fun _ => [.row (rqR nilS nilS (q00 0)), .row (rqR nilS nilS (q00 0))]) (fun x => 3 - x.val) ⟨1, by decide, by decide, fun g => absurd g (by decide)⟩ [0, 1] ⟨⟨congrArg str ht.symm, rfl, rfl, rfl, congrArg i64 hw, rfl, rfl, True.intro⟩, ⟨.inl rfl, .inl rfl, True.intro⟩, rfl, rfl, rfl⟩ ?_
  rintro ⟨j, hj1, hj2, b1⟩ K hK
  have hj' : j = 1 ∨ j = 2 ∨ j = 3 := by omega
  rcases hj' with rfl | rfl | rfl <;> dsimp only at hj1 hj2 b1 ⊢
  · refine Ob.intro (show (0 : Int) ≤ ((1 : Nat) : Int) ∧ ((1 : Nat) : Int) < ((3 : Nat) : Int) by omega) ?_
    refine forkD (fun g2 => ?_) (fun g2 => ?_)
    · have hbig : ¬ a1 ≤ 2147483647 := by have : (a1 : Int) > 2147483647 := g2; omega
      have hO2 : O = none := by rw [hO, if_neg (show ¬ a1 ≤ 2147483647 by omega)]
      rw [hO2]
      exact ⟨rfl, [], .tup [.agg (rqR nilS nilS (q00 0)), bo false], ⟨⟨_, rfl, rfl⟩, True.intro, Nat.zero_le _, rfl⟩, rfl, _, le_zero, rfl⟩
    · exact hK ⟨2, by decide, by decide, (fun g => by have : ¬ (a1 : Int) > 2147483647 := g2; omega)⟩ [0, 1] _ rfl ⟨⟨rfl, rfl, rfl, rfl, rfl, rfl, congrArg i64 (by rw [wrpE, wi64]; rfl), True.intro⟩, ⟨.inl rfl, .inl rfl, True.intro⟩, rfl, rfl, rfl⟩
  · refine Ob.intro (show (0 : Int) ≤ ((2 : Nat) : Int) ∧ ((2 : Nat) : Int) < ((3 : Nat) : Int) by omega) ?_
    refine forkD (fun g2 => absurd (show (a2 : Int) > 2147483647 from g2) (by omega)) (fun g2 => ?_)
    exact hK ⟨3, by decide, by decide, (fun g => by have := b1 (by decide); omega)⟩ [0, 1] _ rfl ⟨⟨rfl, rfl, rfl, rfl, rfl, rfl, congrArg i64 (by rw [wrpE, wi64]; rfl), True.intro⟩, ⟨.inl rfl, .inl rfl, True.intro⟩, rfl, rfl, rfl⟩
  · have w1 : wrp .i64 ((a1 : Nat) : Int) = ((a1 : Nat) : Int) := by have := b1 (by decide); rw [wrpE, wi64]; omega
    rw [if_pos (b1 (by decide))] at hO
    refine Ob.intro (show (0 : Int) ≤ 1 ∧ (1 : Int) < ((3 : Nat) : Int) by omega) ?_
    refine Ob.intro (show (0 : Int) ≤ 2 ∧ (2 : Int) < ((3 : Nat) : Int) by omega) ?_
    have hok : Rq.ok ⟨8, 0, [], 0, false, ((a1 : Nat) : Int), s2, false, ⟨#[]⟩, 0, ⟨#[]⟩, ⟨#[]⟩, 0, 0, []⟩ := ⟨(by decide : (0 : Nat) < 4611686018427387904), (fun y hy => by cases hy), (by decide : (0 : Nat) < 18446744073709551616), (by decide : (0 : Nat) < 18446744073709551616), (by decide : (0 : Nat) < 4611686018427387904), (fun y hy => by cases hy)⟩
    have hle : LeL (rqR nilS nilS ⟨8, 0, [], 0, false, (wrp .i64 ((a1 : Nat) : Int)), s2, false, ⟨#[]⟩, 0, ⟨#[]⟩, ⟨#[]⟩, 0, 0, []⟩) (Rq.C ⟨8, 0, [], 0, false, ((a1 : Nat) : Int), s2, false, ⟨#[]⟩, 0, ⟨#[]⟩, ⟨#[]⟩, 0, 0, []⟩) := by
      rw [w1]
      exact le_lac (b := false) (q := ⟨8, 0, [], 0, false, ((a1 : Nat) : Int), s2, false, ⟨#[]⟩, 0, ⟨#[]⟩, ⟨#[]⟩, 0, 0, []⟩) (fun _ => rfl) rfl
    have hR := argsLe (cs := [.agg (rqR nilS nilS ⟨8, 0, [], 0, false, (wrp .i64 ((a1 : Nat) : Int)), s2, false, ⟨#[]⟩, 0, ⟨#[]⟩, ⟨#[]⟩, 0, 0, []⟩)]) (ds := [.agg (Rq.C ⟨8, 0, [], 0, false, ((a1 : Nat) : Int), s2, false, ⟨#[]⟩, 0, ⟨#[]⟩, ⟨#[]⟩, 0, 0, []⟩)]) ⟨fun X v hv => VR_agLe hle hv, True.intro⟩ (rr_ok _ hok)
    by_cases hz : t.size = 0
    · refine forkD (fun g => absurd (show (t.size : Int) > 0 from g) (by omega)) (fun _ => ?_)
      cases hb2 : rqB ⟨8, 0, [], 0, false, ((a1 : Nat) : Int), s2, false, ⟨#[]⟩, 0, ⟨#[]⟩, ⟨#[]⟩, 0, 0, []⟩ with
      | true =>
        rw [hb2] at hR
        have hO2 : O = some ⟨8, 0, [], 0, false, ((a1 : Nat) : Int), s2, false, ⟨#[]⟩, 0, ⟨#[]⟩, ⟨#[]⟩, 0, 0, []⟩ := by rw [hO]; exact if_pos ⟨hz, hb2⟩
        rw [hO2]
        refine callP hR rfl rfl ?_
        exact ⟨rfl, [], .tup [.agg (rqR nilS nilS ⟨8, 0, [], 0, false, (wrp .i64 ((a1 : Nat) : Int)), s2, false, ⟨#[]⟩, 0, ⟨#[]⟩, ⟨#[]⟩, 0, 0, []⟩), bo true], ⟨⟨_, rfl, rfl⟩, True.intro, Nat.zero_le _, rfl⟩, rfl, _, hle, rfl⟩
      | false =>
        rw [hb2] at hR
        have hO2 : O = none := by rw [hO]; exact if_neg (fun hh => by rw [hb2] at hh; cases hh.2)
        rw [hO2]
        refine callP hR rfl rfl ?_
        exact ⟨rfl, [], .tup [.agg (rqR nilS nilS (q00 0)), bo false], ⟨⟨_, rfl, rfl⟩, True.intro, Nat.zero_le _, rfl⟩, rfl, _, le_zero, rfl⟩
    · have hO2 : O = none := by rw [hO]; exact if_neg (fun hh => hz hh.1)
      rw [hO2]
      refine forkD (fun _ => ?_) (fun g => absurd (show (t.size : Int) > 0 by omega) g)
      exact ⟨rfl, [], .tup [.agg (rqR nilS nilS (q00 0)), bo false], ⟨⟨_, rfl, rfl⟩, True.intro, Nat.zero_le _, rfl⟩, rfl, _, le_zero, rfl⟩
theorem rqk_9 {s : ByteArray} {a0 : Nat} {s0 : ByteArray} {l0 : List Nat} {k0 : List It} {a1 : Nat} {s1 : ByteArray} {l1 : List Nat} {k1 : List It} {a2 : Nat} {s2 : ByteArray} {l2 : List Nat} {k2 : List It} {a3 : Nat} {s3 : ByteArray} {l3 : List Nat} {k3 : List It} {m : Nat} (h : begP [98, 110, 116, 116] s = .ok [.mk a0 s0 l0 k0, .mk a1 s1 l1 k1, .mk a2 s2 l2 k2, .mk a3 s3 l3 k3] m) (h0 : octB s 0 = 9) : rqP s = (if a1 ≤ 2147483647 then (if (upV s3).2.2.2 = 0 then finQ ⟨9, 0, [], 0, false, ((a1 : Nat) : Int), s2, (upV s3).1, (upV s3).2.1, (upV s3).2.2.1, ⟨#[]⟩, ⟨#[]⟩, 0, 0, []⟩ (rest s m) else none) else none) ∧ a2 = 0 ∧ a3 = 0 := by
  obtain ⟨x0, m0, r1, j1, hb0, hr1, e0, em0⟩ := begP_cat_ok (b1 := [98]) (b2 := [110, 116, 116]) (L1 := [(98, false)]) (L2 := [(110, false), (116, false), (116, false)]) (by decide) (by decide) (by decide) h
  obtain ⟨n0, t0, q0, z0, rfl⟩ := beg_1 sh_1b hb0
  cases e0
  obtain ⟨y1, m1, r2, j2, hb1, hr2, e1, em1⟩ := begP_cat_ok (b1 := [110]) (b2 := [116, 116]) (L1 := [(110, false)]) (L2 := [(116, false), (116, false)]) (by decide) (by decide) (by decide) hr1
  obtain ⟨n1, t1, q1, z1, rfl⟩ := beg_1 sh_1n hb1
  cases e1
  obtain ⟨y2, m2, r3, j3, hb2, hr3, e2, em2⟩ := begP_cat_ok (b1 := [116]) (b2 := [116]) (L1 := [(116, false)]) (L2 := [(116, false)]) (by decide) (by decide) (by decide) hr2
  obtain ⟨n2, t2, q2, z2, rfl⟩ := beg_1 sh_1t hb2
  cases e2
  have hb3 := hr3
  subst em2 em1 em0
  refine ⟨?_, t_zero hb2, t_zero hb3⟩
  have hn := (b_first hb0).1.trans h0
  subst hn
  have hL : fldL ((9 : Nat) : Int) = [4, 5, 6] := by decide
  unfold rqP
  rw [hb0]
  dsimp only
  rw [hL]
  rw [fdsP_cons, fq_4 hb1]
  by_cases hc0 : a1 ≤ 2147483647
  rotate_left
  · simp only [if_neg hc0]
  simp only [if_pos hc0]
  try dsimp only
  rw [fdsP_cons, fq_5 hb2]
  try dsimp only
  rw [fdsP_cons, fq_6 hb3]
  by_cases hc2 : (upV s3).2.2.2 = 0
  rotate_left
  · simp only [if_neg hc2]
  simp only [if_pos hc2]
  try dsimp only
  simp only [rest_rest, Nat.add_assoc]
  rfl
set_option maxHeartbeats 4000000 in
theorem ru_9 (s : ByteArray) (hs : s.size ≤ 1000000) (h0 : octB s 0 = 9) (hsz : s.size ≠ 0) {a0 : Nat} {s0 : ByteArray} {l0 : List Nat} {k0 : List It} {a1 : Nat} {s1 : ByteArray} {l1 : List Nat} {k1 : List It} {a2 : Nat} {s2 : ByteArray} {l2 : List Nat} {k2 : List It} {a3 : Nat} {s3 : ByteArray} {l3 : List Nat} {k3 : List It} {m : Nat} (h : begP [98, 110, 116, 116] s = .ok [.mk a0 s0 l0 k0, .mk a1 s1 l1 k1, .mk a2 s2 l2 k2, .mk a3 s3 l3 k3] m) : ACalls Try.prog 14 [str s] [] (UrW (rqP s)) := by
  obtain ⟨hq, z0, z1⟩ := rqk_9 h h0
  obtain ⟨O, hO⟩ : ∃ O, O = rqP s := ⟨_, rfl⟩
  rw [← hO]
  rw [hq] at hO
  clear hq
  have hi : (0 : Int) ≤ 0 ∧ (0 : Int) < (s.size : Int) := by omega
  have hw : wrp .i64 ((octB s 0 : Nat) : Int) = ((9 : Nat) : Int) := by rw [wrpE, wi64]; omega
  have hsh := shape_ok 9 (by decide)
  rw [← hw] at hsh
  have hb := rbegin_ok (shK 9) s (by decide) hs
  rw [show byL (shK 9) = [98, 110, 116, 116] from rfl, h] at hb
  have hm := begP_le h
  obtain ⟨t, ht⟩ : ∃ t, t = rest s m := ⟨_, rfl⟩
  rw [← ht] at hO
  have hu := rUnpack_ok s3
  unfold upR at hu
  have hu2 : (upV s3).2.2.2 = 0 → (upV s3).2.2.1 < 18446744073709551616 := fun e => (up_right (show upV s3 = ((upV s3).1, (upV s3).2.1, (upV s3).2.2.1, 0) by rw [← e])).1
  generalize upV s3 = u at hu hO hu2
  obtain ⟨vn, vt, vb, ve⟩ := u
  dsimp only at hu hO hu2
  refine acalls_of_awp hT mixed Try.func14 rfl (by kernel_rfl) (by kernel_rfl) (Nat.le_of_ble_eq_true rfl) ?_
  refine fork (fun g => absurd (show (s.size : Int) = 0 from beq_iff_eq.1 g) (by omega)) (fun _ => ?_)
  refine Ob.intro hi ?_
  refine forkD (fun g => absurd (show ((octB s 0 : Nat) : Int) < 1 from g) (by omega)) (fun _ => ?_)
  refine Ob.intro hi ?_
  refine forkD (fun g => absurd (show ((octB s 0 : Nat) : Int) > 17 from g) (by omega)) (fun _ => ?_)
  refine Ob.intro hi ?_
  refine callP hsh rfl rfl ?_
  refine callP hb rfl rfl ?_
  refine Ob.intro (show (0 : Int) ≤ (m : Nat) ∧ ((m : Nat) : Int) ≤ (s.size : Int) ∧ (s.size : Int) ≤ (s.size : Int) by omega) ?_
  refine loopI (α := { j : Nat // 1 ≤ j ∧ j ≤ 4 ∧ (1 < j → a1 ≤ 2147483647) }) (fun x => [(0, str t), (2, .ptr 0 0), (3, bo false), (4, .ptr 1 0), (5, i64 9), (6, itsV [.mk a0 s0 l0 k0, .mk a1 s1 l1 k1, .mk a2 s2 l2 k2, .mk a3 s3 l3 k3]), (9, i64 (x.val : Nat))]) (fun _ => [.row (rqR nilS nilS (q00 0)), .row (rqR nilS nilS (q00 0))]) (fun x => 4 - x.val) ⟨1, by decide, by decide, fun g => absurd g (by decide)⟩ [0, 1] ⟨⟨congrArg str ht.symm, rfl, rfl, rfl, congrArg i64 hw, rfl, rfl, True.intro⟩, ⟨.inl rfl, .inl rfl, True.intro⟩, rfl, rfl, rfl⟩ ?_
  rintro ⟨j, hj1, hj2, b1⟩ K hK
  have hj' : j = 1 ∨ j = 2 ∨ j = 3 ∨ j = 4 := by omega
  rcases hj' with rfl | rfl | rfl | rfl <;> dsimp only at hj1 hj2 b1 ⊢
  · refine Ob.intro (show (0 : Int) ≤ ((1 : Nat) : Int) ∧ ((1 : Nat) : Int) < ((4 : Nat) : Int) by omega) ?_
    refine forkD (fun g2 => ?_) (fun g2 => ?_)
    · have hbig : ¬ a1 ≤ 2147483647 := by have : (a1 : Int) > 2147483647 := g2; omega
      have hO2 : O = none := by rw [hO, if_neg (show ¬ a1 ≤ 2147483647 by omega)]
      rw [hO2]
      exact ⟨rfl, [], .tup [.agg (rqR nilS nilS (q00 0)), bo false], ⟨⟨_, rfl, rfl⟩, True.intro, Nat.zero_le _, rfl⟩, rfl, _, le_zero, rfl⟩
    · exact hK ⟨2, by decide, by decide, (fun g => by have : ¬ (a1 : Int) > 2147483647 := g2; omega)⟩ [0, 1] _ rfl ⟨⟨rfl, rfl, rfl, rfl, rfl, rfl, congrArg i64 (by rw [wrpE, wi64]; rfl), True.intro⟩, ⟨.inl rfl, .inl rfl, True.intro⟩, rfl, rfl, rfl⟩
  · refine Ob.intro (show (0 : Int) ≤ ((2 : Nat) : Int) ∧ ((2 : Nat) : Int) < ((4 : Nat) : Int) by omega) ?_
    refine forkD (fun g2 => absurd (show (a2 : Int) > 2147483647 from g2) (by omega)) (fun g2 => ?_)
    exact hK ⟨3, by decide, by decide, (fun g => by have := b1 (by decide); omega)⟩ [0, 1] _ rfl ⟨⟨rfl, rfl, rfl, rfl, rfl, rfl, congrArg i64 (by rw [wrpE, wi64]; rfl), True.intro⟩, ⟨.inl rfl, .inl rfl, True.intro⟩, rfl, rfl, rfl⟩
  · refine Ob.intro (show (0 : Int) ≤ ((3 : Nat) : Int) ∧ ((3 : Nat) : Int) < ((4 : Nat) : Int) by omega) ?_
    refine forkD (fun g2 => absurd (show (a3 : Int) > 2147483647 from g2) (by omega)) (fun g2 => ?_)
    exact hK ⟨4, by decide, by decide, (fun g => by have := b1 (by decide); omega)⟩ [0, 1] _ rfl ⟨⟨rfl, rfl, rfl, rfl, rfl, rfl, congrArg i64 (by rw [wrpE, wi64]; rfl), True.intro⟩, ⟨.inl rfl, .inl rfl, True.intro⟩, rfl, rfl, rfl⟩
  · have w1 : wrp .i64 ((a1 : Nat) : Int) = ((a1 : Nat) : Int) := by have := b1 (by decide); rw [wrpE, wi64]; omega
    rw [if_pos (b1 (by decide))] at hO
    refine Ob.intro (show (0 : Int) ≤ 1 ∧ (1 : Int) < ((4 : Nat) : Int) by omega) ?_
    refine Ob.intro (show (0 : Int) ≤ 2 ∧ (2 : Int) < ((4 : Nat) : Int) by omega) ?_
    refine Ob.intro (show (0 : Int) ≤ 3 ∧ (3 : Int) < ((4 : Nat) : Int) by omega) ?_
    by_cases he : ve = 0
    · rw [if_pos he] at hO
      have hvv := hu2 he
      subst he
      have hok : Rq.ok ⟨9, 0, [], 0, false, ((a1 : Nat) : Int), s2, vn, vt, vb, ⟨#[]⟩, ⟨#[]⟩, 0, 0, []⟩ := ⟨(by decide : (0 : Nat) < 4611686018427387904), (fun y hy => by cases hy), (by decide : (0 : Nat) < 18446744073709551616), hvv, (by decide : (0 : Nat) < 4611686018427387904), (fun y hy => by cases hy)⟩
      have hle : LeL (rqR nilS nilS ⟨9, 0, [], 0, false, (wrp .i64 ((a1 : Nat) : Int)), s2, vn, vt, vb, ⟨#[]⟩, ⟨#[]⟩, 0, 0, []⟩) (Rq.C ⟨9, 0, [], 0, false, ((a1 : Nat) : Int), s2, vn, vt, vb, ⟨#[]⟩, ⟨#[]⟩, 0, 0, []⟩) := by
        rw [w1]
        exact le_lac (b := false) (q := ⟨9, 0, [], 0, false, ((a1 : Nat) : Int), s2, vn, vt, vb, ⟨#[]⟩, ⟨#[]⟩, 0, 0, []⟩) (fun _ => rfl) rfl
      have hR := argsLe (cs := [.agg (rqR nilS nilS ⟨9, 0, [], 0, false, (wrp .i64 ((a1 : Nat) : Int)), s2, vn, vt, vb, ⟨#[]⟩, ⟨#[]⟩, 0, 0, []⟩)]) (ds := [.agg (Rq.C ⟨9, 0, [], 0, false, ((a1 : Nat) : Int), s2, vn, vt, vb, ⟨#[]⟩, ⟨#[]⟩, 0, 0, []⟩)]) ⟨fun X v hv => VR_agLe hle hv, True.intro⟩ (rr_ok _ hok)
      cases vn
      · refine callP hu rfl rfl ?_
        by_cases hz : t.size = 0
        · refine forkD (fun g => absurd (show (t.size : Int) > 0 from g) (by omega)) (fun _ => ?_)
          cases hb2 : rqB ⟨9, 0, [], 0, false, ((a1 : Nat) : Int), s2, false, vt, vb, ⟨#[]⟩, ⟨#[]⟩, 0, 0, []⟩ with
          | true =>
            rw [hb2] at hR
            have hO2 : O = some ⟨9, 0, [], 0, false, ((a1 : Nat) : Int), s2, false, vt, vb, ⟨#[]⟩, ⟨#[]⟩, 0, 0, []⟩ := by rw [hO]; exact if_pos ⟨hz, hb2⟩
            rw [hO2]
            refine callP hR rfl rfl ?_
            exact ⟨rfl, [], .tup [.agg (rqR nilS nilS ⟨9, 0, [], 0, false, (wrp .i64 ((a1 : Nat) : Int)), s2, false, vt, vb, ⟨#[]⟩, ⟨#[]⟩, 0, 0, []⟩), bo true], ⟨⟨_, rfl, rfl⟩, True.intro, Nat.zero_le _, rfl⟩, rfl, _, hle, rfl⟩
          | false =>
            rw [hb2] at hR
            have hO2 : O = none := by rw [hO]; exact if_neg (fun hh => by rw [hb2] at hh; cases hh.2)
            rw [hO2]
            refine callP hR rfl rfl ?_
            exact ⟨rfl, [], .tup [.agg (rqR nilS nilS (q00 0)), bo false], ⟨⟨_, rfl, rfl⟩, True.intro, Nat.zero_le _, rfl⟩, rfl, _, le_zero, rfl⟩
        · have hO2 : O = none := by rw [hO]; exact if_neg (fun hh => hz hh.1)
          rw [hO2]
          refine forkD (fun _ => ?_) (fun g => absurd (show (t.size : Int) > 0 by omega) g)
          exact ⟨rfl, [], .tup [.agg (rqR nilS nilS (q00 0)), bo false], ⟨⟨_, rfl, rfl⟩, True.intro, Nat.zero_le _, rfl⟩, rfl, _, le_zero, rfl⟩
      · refine callP hu rfl rfl ?_
        by_cases hz : t.size = 0
        · refine forkD (fun g => absurd (show (t.size : Int) > 0 from g) (by omega)) (fun _ => ?_)
          cases hb2 : rqB ⟨9, 0, [], 0, false, ((a1 : Nat) : Int), s2, true, vt, vb, ⟨#[]⟩, ⟨#[]⟩, 0, 0, []⟩ with
          | true =>
            rw [hb2] at hR
            have hO2 : O = some ⟨9, 0, [], 0, false, ((a1 : Nat) : Int), s2, true, vt, vb, ⟨#[]⟩, ⟨#[]⟩, 0, 0, []⟩ := by rw [hO]; exact if_pos ⟨hz, hb2⟩
            rw [hO2]
            refine callP hR rfl rfl ?_
            exact ⟨rfl, [], .tup [.agg (rqR nilS nilS ⟨9, 0, [], 0, false, (wrp .i64 ((a1 : Nat) : Int)), s2, true, vt, vb, ⟨#[]⟩, ⟨#[]⟩, 0, 0, []⟩), bo true], ⟨⟨_, rfl, rfl⟩, True.intro, Nat.zero_le _, rfl⟩, rfl, _, hle, rfl⟩
          | false =>
            rw [hb2] at hR
            have hO2 : O = none := by rw [hO]; exact if_neg (fun hh => by rw [hb2] at hh; cases hh.2)
            rw [hO2]
            refine callP hR rfl rfl ?_
            exact ⟨rfl, [], .tup [.agg (rqR nilS nilS (q00 0)), bo false], ⟨⟨_, rfl, rfl⟩, True.intro, Nat.zero_le _, rfl⟩, rfl, _, le_zero, rfl⟩
        · have hO2 : O = none := by rw [hO]; exact if_neg (fun hh => hz hh.1)
          rw [hO2]
          refine forkD (fun _ => ?_) (fun g => absurd (show (t.size : Int) > 0 by omega) g)
          exact ⟨rfl, [], .tup [.agg (rqR nilS nilS (q00 0)), bo false], ⟨⟨_, rfl, rfl⟩, True.intro, Nat.zero_le _, rfl⟩, rfl, _, le_zero, rfl⟩
    · rw [if_neg he] at hO
      rw [hO]
      cases vn <;>
      · refine callP hu rfl rfl ?_
        refine fork (fun _ => ?_) (fun g => absurd (show ve = 0 from bne_eq_false_iff_eq.1 g) he)
        exact ⟨rfl, [], .tup [.agg (rqR nilS nilS (q00 0)), bo false], ⟨⟨_, rfl, rfl⟩, True.intro, Nat.zero_le _, rfl⟩, rfl, _, le_zero, rfl⟩
theorem rqk_10 {s : ByteArray} {a0 : Nat} {s0 : ByteArray} {l0 : List Nat} {k0 : List It} {a1 : Nat} {s1 : ByteArray} {l1 : List Nat} {k1 : List It} {a2 : Nat} {s2 : ByteArray} {l2 : List Nat} {k2 : List It} {m : Nat} (h : begP [98, 110, 116] s = .ok [.mk a0 s0 l0 k0, .mk a1 s1 l1 k1, .mk a2 s2 l2 k2] m) (h0 : octB s 0 = 10) : rqP s = (if a1 ≤ 2147483647 then finQ ⟨10, 0, [], 0, false, ((a1 : Nat) : Int), s2, false, ⟨#[]⟩, 0, ⟨#[]⟩, ⟨#[]⟩, 0, 0, []⟩ (rest s m) else none) ∧ a2 = 0 := by
  obtain ⟨x0, m0, r1, j1, hb0, hr1, e0, em0⟩ := begP_cat_ok (b1 := [98]) (b2 := [110, 116]) (L1 := [(98, false)]) (L2 := [(110, false), (116, false)]) (by decide) (by decide) (by decide) h
  obtain ⟨n0, t0, q0, z0, rfl⟩ := beg_1 sh_1b hb0
  cases e0
  obtain ⟨y1, m1, r2, j2, hb1, hr2, e1, em1⟩ := begP_cat_ok (b1 := [110]) (b2 := [116]) (L1 := [(110, false)]) (L2 := [(116, false)]) (by decide) (by decide) (by decide) hr1
  obtain ⟨n1, t1, q1, z1, rfl⟩ := beg_1 sh_1n hb1
  cases e1
  have hb2 := hr2
  subst em1 em0
  refine ⟨?_, t_zero hb2⟩
  have hn := (b_first hb0).1.trans h0
  subst hn
  have hL : fldL ((10 : Nat) : Int) = [4, 5] := by decide
  unfold rqP
  rw [hb0]
  dsimp only
  rw [hL]
  rw [fdsP_cons, fq_4 hb1]
  by_cases hc0 : a1 ≤ 2147483647
  rotate_left
  · simp only [if_neg hc0]
  simp only [if_pos hc0]
  try dsimp only
  rw [fdsP_cons, fq_5 hb2]
  try dsimp only
  simp only [rest_rest, Nat.add_assoc]
  rfl
set_option maxHeartbeats 4000000 in
theorem ru_10 (s : ByteArray) (hs : s.size ≤ 1000000) (h0 : octB s 0 = 10) (hsz : s.size ≠ 0) {a0 : Nat} {s0 : ByteArray} {l0 : List Nat} {k0 : List It} {a1 : Nat} {s1 : ByteArray} {l1 : List Nat} {k1 : List It} {a2 : Nat} {s2 : ByteArray} {l2 : List Nat} {k2 : List It} {m : Nat} (h : begP [98, 110, 116] s = .ok [.mk a0 s0 l0 k0, .mk a1 s1 l1 k1, .mk a2 s2 l2 k2] m) : ACalls Try.prog 14 [str s] [] (UrW (rqP s)) := by
  obtain ⟨hq, z0⟩ := rqk_10 h h0
  obtain ⟨O, hO⟩ : ∃ O, O = rqP s := ⟨_, rfl⟩
  rw [← hO]
  rw [hq] at hO
  clear hq
  have hi : (0 : Int) ≤ 0 ∧ (0 : Int) < (s.size : Int) := by omega
  have hw : wrp .i64 ((octB s 0 : Nat) : Int) = ((10 : Nat) : Int) := by rw [wrpE, wi64]; omega
  have hsh := shape_ok 10 (by decide)
  rw [← hw] at hsh
  have hb := rbegin_ok (shK 10) s (by decide) hs
  rw [show byL (shK 10) = [98, 110, 116] from rfl, h] at hb
  have hm := begP_le h
  obtain ⟨t, ht⟩ : ∃ t, t = rest s m := ⟨_, rfl⟩
  rw [← ht] at hO
  refine acalls_of_awp hT mixed Try.func14 rfl (by kernel_rfl) (by kernel_rfl) (Nat.le_of_ble_eq_true rfl) ?_
  refine fork (fun g => absurd (show (s.size : Int) = 0 from beq_iff_eq.1 g) (by omega)) (fun _ => ?_)
  refine Ob.intro hi ?_
  refine forkD (fun g => absurd (show ((octB s 0 : Nat) : Int) < 1 from g) (by omega)) (fun _ => ?_)
  refine Ob.intro hi ?_
  refine forkD (fun g => absurd (show ((octB s 0 : Nat) : Int) > 17 from g) (by omega)) (fun _ => ?_)
  refine Ob.intro hi ?_
  refine callP hsh rfl rfl ?_
  refine callP hb rfl rfl ?_
  refine Ob.intro (show (0 : Int) ≤ (m : Nat) ∧ ((m : Nat) : Int) ≤ (s.size : Int) ∧ (s.size : Int) ≤ (s.size : Int) by omega) ?_
  refine loopI (α := { j : Nat // 1 ≤ j ∧ j ≤ 3 ∧ (1 < j → a1 ≤ 2147483647) }) (fun x => [(0, str t), (2, .ptr 0 0), (3, bo false), (4, .ptr 1 0), (5, i64 10), (6, itsV [.mk a0 s0 l0 k0, .mk a1 s1 l1 k1, .mk a2 s2 l2 k2]), (9, i64 (x.val : Nat))]) (fun _ => [.row (rqR nilS nilS (q00 0)), .row (rqR nilS nilS (q00 0))]) (fun x => 3 - x.val) ⟨1, by decide, by decide, fun g => absurd g (by decide)⟩ [0, 1] ⟨⟨congrArg str ht.symm, rfl, rfl, rfl, congrArg i64 hw, rfl, rfl, True.intro⟩, ⟨.inl rfl, .inl rfl, True.intro⟩, rfl, rfl, rfl⟩ ?_
  rintro ⟨j, hj1, hj2, b1⟩ K hK
  have hj' : j = 1 ∨ j = 2 ∨ j = 3 := by omega
  rcases hj' with rfl | rfl | rfl <;> dsimp only at hj1 hj2 b1 ⊢
  · refine Ob.intro (show (0 : Int) ≤ ((1 : Nat) : Int) ∧ ((1 : Nat) : Int) < ((3 : Nat) : Int) by omega) ?_
    refine forkD (fun g2 => ?_) (fun g2 => ?_)
    · have hbig : ¬ a1 ≤ 2147483647 := by have : (a1 : Int) > 2147483647 := g2; omega
      have hO2 : O = none := by rw [hO, if_neg (show ¬ a1 ≤ 2147483647 by omega)]
      rw [hO2]
      exact ⟨rfl, [], .tup [.agg (rqR nilS nilS (q00 0)), bo false], ⟨⟨_, rfl, rfl⟩, True.intro, Nat.zero_le _, rfl⟩, rfl, _, le_zero, rfl⟩
    · exact hK ⟨2, by decide, by decide, (fun g => by have : ¬ (a1 : Int) > 2147483647 := g2; omega)⟩ [0, 1] _ rfl ⟨⟨rfl, rfl, rfl, rfl, rfl, rfl, congrArg i64 (by rw [wrpE, wi64]; rfl), True.intro⟩, ⟨.inl rfl, .inl rfl, True.intro⟩, rfl, rfl, rfl⟩
  · refine Ob.intro (show (0 : Int) ≤ ((2 : Nat) : Int) ∧ ((2 : Nat) : Int) < ((3 : Nat) : Int) by omega) ?_
    refine forkD (fun g2 => absurd (show (a2 : Int) > 2147483647 from g2) (by omega)) (fun g2 => ?_)
    exact hK ⟨3, by decide, by decide, (fun g => by have := b1 (by decide); omega)⟩ [0, 1] _ rfl ⟨⟨rfl, rfl, rfl, rfl, rfl, rfl, congrArg i64 (by rw [wrpE, wi64]; rfl), True.intro⟩, ⟨.inl rfl, .inl rfl, True.intro⟩, rfl, rfl, rfl⟩
  · have w1 : wrp .i64 ((a1 : Nat) : Int) = ((a1 : Nat) : Int) := by have := b1 (by decide); rw [wrpE, wi64]; omega
    rw [if_pos (b1 (by decide))] at hO
    refine Ob.intro (show (0 : Int) ≤ 1 ∧ (1 : Int) < ((3 : Nat) : Int) by omega) ?_
    refine Ob.intro (show (0 : Int) ≤ 2 ∧ (2 : Int) < ((3 : Nat) : Int) by omega) ?_
    have hok : Rq.ok ⟨10, 0, [], 0, false, ((a1 : Nat) : Int), s2, false, ⟨#[]⟩, 0, ⟨#[]⟩, ⟨#[]⟩, 0, 0, []⟩ := ⟨(by decide : (0 : Nat) < 4611686018427387904), (fun y hy => by cases hy), (by decide : (0 : Nat) < 18446744073709551616), (by decide : (0 : Nat) < 18446744073709551616), (by decide : (0 : Nat) < 4611686018427387904), (fun y hy => by cases hy)⟩
    have hle : LeL (rqR nilS nilS ⟨10, 0, [], 0, false, (wrp .i64 ((a1 : Nat) : Int)), s2, false, ⟨#[]⟩, 0, ⟨#[]⟩, ⟨#[]⟩, 0, 0, []⟩) (Rq.C ⟨10, 0, [], 0, false, ((a1 : Nat) : Int), s2, false, ⟨#[]⟩, 0, ⟨#[]⟩, ⟨#[]⟩, 0, 0, []⟩) := by
      rw [w1]
      exact le_lac (b := false) (q := ⟨10, 0, [], 0, false, ((a1 : Nat) : Int), s2, false, ⟨#[]⟩, 0, ⟨#[]⟩, ⟨#[]⟩, 0, 0, []⟩) (fun _ => rfl) rfl
    have hR := argsLe (cs := [.agg (rqR nilS nilS ⟨10, 0, [], 0, false, (wrp .i64 ((a1 : Nat) : Int)), s2, false, ⟨#[]⟩, 0, ⟨#[]⟩, ⟨#[]⟩, 0, 0, []⟩)]) (ds := [.agg (Rq.C ⟨10, 0, [], 0, false, ((a1 : Nat) : Int), s2, false, ⟨#[]⟩, 0, ⟨#[]⟩, ⟨#[]⟩, 0, 0, []⟩)]) ⟨fun X v hv => VR_agLe hle hv, True.intro⟩ (rr_ok _ hok)
    by_cases hz : t.size = 0
    · refine forkD (fun g => absurd (show (t.size : Int) > 0 from g) (by omega)) (fun _ => ?_)
      cases hb2 : rqB ⟨10, 0, [], 0, false, ((a1 : Nat) : Int), s2, false, ⟨#[]⟩, 0, ⟨#[]⟩, ⟨#[]⟩, 0, 0, []⟩ with
      | true =>
        rw [hb2] at hR
        have hO2 : O = some ⟨10, 0, [], 0, false, ((a1 : Nat) : Int), s2, false, ⟨#[]⟩, 0, ⟨#[]⟩, ⟨#[]⟩, 0, 0, []⟩ := by rw [hO]; exact if_pos ⟨hz, hb2⟩
        rw [hO2]
        refine callP hR rfl rfl ?_
        exact ⟨rfl, [], .tup [.agg (rqR nilS nilS ⟨10, 0, [], 0, false, (wrp .i64 ((a1 : Nat) : Int)), s2, false, ⟨#[]⟩, 0, ⟨#[]⟩, ⟨#[]⟩, 0, 0, []⟩), bo true], ⟨⟨_, rfl, rfl⟩, True.intro, Nat.zero_le _, rfl⟩, rfl, _, hle, rfl⟩
      | false =>
        rw [hb2] at hR
        have hO2 : O = none := by rw [hO]; exact if_neg (fun hh => by rw [hb2] at hh; cases hh.2)
        rw [hO2]
        refine callP hR rfl rfl ?_
        exact ⟨rfl, [], .tup [.agg (rqR nilS nilS (q00 0)), bo false], ⟨⟨_, rfl, rfl⟩, True.intro, Nat.zero_le _, rfl⟩, rfl, _, le_zero, rfl⟩
    · have hO2 : O = none := by rw [hO]; exact if_neg (fun hh => hz hh.1)
      rw [hO2]
      refine forkD (fun _ => ?_) (fun g => absurd (show (t.size : Int) > 0 by omega) g)
      exact ⟨rfl, [], .tup [.agg (rqR nilS nilS (q00 0)), bo false], ⟨⟨_, rfl, rfl⟩, True.intro, Nat.zero_le _, rfl⟩, rfl, _, le_zero, rfl⟩
theorem rqk_11 {s : ByteArray} {a0 : Nat} {s0 : ByteArray} {l0 : List Nat} {k0 : List It} {a1 : Nat} {s1 : ByteArray} {l1 : List Nat} {k1 : List It} {a2 : Nat} {s2 : ByteArray} {l2 : List Nat} {k2 : List It} {a3 : Nat} {s3 : ByteArray} {l3 : List Nat} {k3 : List It} {a4 : Nat} {s4 : ByteArray} {l4 : List Nat} {k4 : List It} {m : Nat} (h : begP [98, 108, 116, 116, 110] s = .ok [.mk a0 s0 l0 k0, .mk a1 s1 l1 k1, .mk a2 s2 l2 k2, .mk a3 s3 l3 k3, .mk a4 s4 l4 k4] m) (h0 : octB s 0 = 11) : rqP s = (if a4 ≤ 2147483647 then finQ ⟨11, 0, l1, 0, false, 0, ⟨#[]⟩, false, ⟨#[]⟩, 0, s2, s3, ((a4 : Nat) : Int), 0, []⟩ (rest s m) else none) ∧ a1 = 0 ∧ a2 = 0 ∧ a3 = 0 := by
  obtain ⟨x0, m0, r1, j1, hb0, hr1, e0, em0⟩ := begP_cat_ok (b1 := [98]) (b2 := [108, 116, 116, 110]) (L1 := [(98, false)]) (L2 := [(108, false), (116, false), (116, false), (110, false)]) (by decide) (by decide) (by decide) h
  obtain ⟨n0, t0, q0, z0, rfl⟩ := beg_1 sh_1b hb0
  cases e0
  obtain ⟨y1, m1, r2, j2, hb1, hr2, e1, em1⟩ := begP_cat_ok (b1 := [108]) (b2 := [116, 116, 110]) (L1 := [(108, false)]) (L2 := [(116, false), (116, false), (110, false)]) (by decide) (by decide) (by decide) hr1
  obtain ⟨n1, t1, q1, z1, rfl⟩ := beg_1 sh_1l hb1
  cases e1
  have hb2 := hr2
  subst em1 em0
  refine ⟨?_, l_zero hb1, (ttn_zero hb2).1, (ttn_zero hb2).2⟩
  have hn := (b_first hb0).1.trans h0
  subst hn
  have hL : fldL ((11 : Nat) : Int) = [1, 7] := by decide
  unfold rqP
  rw [hb0]
  dsimp only
  rw [hL]
  rw [fdsP_cons, fq_1 hb1]
  try dsimp only
  rw [fdsP_cons, fq_7 hb2]
  by_cases hc1 : a4 ≤ 2147483647
  rotate_left
  · simp only [if_neg hc1]
  simp only [if_pos hc1]
  try dsimp only
  simp only [rest_rest, Nat.add_assoc]
  rfl
set_option maxHeartbeats 4000000 in
theorem ru_11 (s : ByteArray) (hs : s.size ≤ 1000000) (h0 : octB s 0 = 11) (hsz : s.size ≠ 0) {a0 : Nat} {s0 : ByteArray} {l0 : List Nat} {k0 : List It} {a1 : Nat} {s1 : ByteArray} {l1 : List Nat} {k1 : List It} {a2 : Nat} {s2 : ByteArray} {l2 : List Nat} {k2 : List It} {a3 : Nat} {s3 : ByteArray} {l3 : List Nat} {k3 : List It} {a4 : Nat} {s4 : ByteArray} {l4 : List Nat} {k4 : List It} {m : Nat} (h : begP [98, 108, 116, 116, 110] s = .ok [.mk a0 s0 l0 k0, .mk a1 s1 l1 k1, .mk a2 s2 l2 k2, .mk a3 s3 l3 k3, .mk a4 s4 l4 k4] m) : ACalls Try.prog 14 [str s] [] (UrW (rqP s)) := by
  obtain ⟨hq, z0, z1, z2⟩ := rqk_11 h h0
  obtain ⟨O, hO⟩ : ∃ O, O = rqP s := ⟨_, rfl⟩
  rw [← hO]
  rw [hq] at hO
  clear hq
  have ⟨hll, hlx⟩ : l1.length < 4611686018427387904 ∧ ∀ y ∈ l1, y < 18446744073709551616 := lab_ok (n := a1) (t := s1) (x := l1) (k := k1) h (by simp)
  have hi : (0 : Int) ≤ 0 ∧ (0 : Int) < (s.size : Int) := by omega
  have hw : wrp .i64 ((octB s 0 : Nat) : Int) = ((11 : Nat) : Int) := by rw [wrpE, wi64]; omega
  have hsh := shape_ok 11 (by decide)
  rw [← hw] at hsh
  have hb := rbegin_ok (shK 11) s (by decide) hs
  rw [show byL (shK 11) = [98, 108, 116, 116, 110] from rfl, h] at hb
  have hm := begP_le h
  obtain ⟨t, ht⟩ : ∃ t, t = rest s m := ⟨_, rfl⟩
  rw [← ht] at hO
  refine acalls_of_awp hT mixed Try.func14 rfl (by kernel_rfl) (by kernel_rfl) (Nat.le_of_ble_eq_true rfl) ?_
  refine fork (fun g => absurd (show (s.size : Int) = 0 from beq_iff_eq.1 g) (by omega)) (fun _ => ?_)
  refine Ob.intro hi ?_
  refine forkD (fun g => absurd (show ((octB s 0 : Nat) : Int) < 1 from g) (by omega)) (fun _ => ?_)
  refine Ob.intro hi ?_
  refine forkD (fun g => absurd (show ((octB s 0 : Nat) : Int) > 17 from g) (by omega)) (fun _ => ?_)
  refine Ob.intro hi ?_
  refine callP hsh rfl rfl ?_
  refine callP hb rfl rfl ?_
  refine Ob.intro (show (0 : Int) ≤ (m : Nat) ∧ ((m : Nat) : Int) ≤ (s.size : Int) ∧ (s.size : Int) ≤ (s.size : Int) by omega) ?_
  refine loopI (α := { j : Nat // 1 ≤ j ∧ j ≤ 5 ∧ (4 < j → a4 ≤ 2147483647) }) (fun x => [(0, str t), (2, .ptr 0 0), (3, bo false), (4, .ptr 1 0), (5, i64 11), (6, itsV [.mk a0 s0 l0 k0, .mk a1 s1 l1 k1, .mk a2 s2 l2 k2, .mk a3 s3 l3 k3, .mk a4 s4 l4 k4]), (9, i64 (x.val : Nat))]) (fun _ => [.row (rqR nilS nilS (q00 0)), .row (rqR nilS nilS (q00 0))]) (fun x => 5 - x.val) ⟨1, by decide, by decide, fun g => absurd g (by decide)⟩ [0, 1] ⟨⟨congrArg str ht.symm, rfl, rfl, rfl, congrArg i64 hw, rfl, rfl, True.intro⟩, ⟨.inl rfl, .inl rfl, True.intro⟩, rfl, rfl, rfl⟩ ?_
  rintro ⟨j, hj1, hj2, b4⟩ K hK
  have hj' : j = 1 ∨ j = 2 ∨ j = 3 ∨ j = 4 ∨ j = 5 := by omega
  rcases hj' with rfl | rfl | rfl | rfl | rfl <;> dsimp only at hj1 hj2 b4 ⊢
  · refine Ob.intro (show (0 : Int) ≤ ((1 : Nat) : Int) ∧ ((1 : Nat) : Int) < ((5 : Nat) : Int) by omega) ?_
    refine forkD (fun g2 => absurd (show (a1 : Int) > 2147483647 from g2) (by omega)) (fun g2 => ?_)
    exact hK ⟨2, by decide, by decide, fun g => absurd g (by decide)⟩ [0, 1] _ rfl ⟨⟨rfl, rfl, rfl, rfl, rfl, rfl, congrArg i64 (by rw [wrpE, wi64]; rfl), True.intro⟩, ⟨.inl rfl, .inl rfl, True.intro⟩, rfl, rfl, rfl⟩
  · refine Ob.intro (show (0 : Int) ≤ ((2 : Nat) : Int) ∧ ((2 : Nat) : Int) < ((5 : Nat) : Int) by omega) ?_
    refine forkD (fun g2 => absurd (show (a2 : Int) > 2147483647 from g2) (by omega)) (fun g2 => ?_)
    exact hK ⟨3, by decide, by decide, fun g => absurd g (by decide)⟩ [0, 1] _ rfl ⟨⟨rfl, rfl, rfl, rfl, rfl, rfl, congrArg i64 (by rw [wrpE, wi64]; rfl), True.intro⟩, ⟨.inl rfl, .inl rfl, True.intro⟩, rfl, rfl, rfl⟩
  · refine Ob.intro (show (0 : Int) ≤ ((3 : Nat) : Int) ∧ ((3 : Nat) : Int) < ((5 : Nat) : Int) by omega) ?_
    refine forkD (fun g2 => absurd (show (a3 : Int) > 2147483647 from g2) (by omega)) (fun g2 => ?_)
    exact hK ⟨4, by decide, by decide, fun g => absurd g (by decide)⟩ [0, 1] _ rfl ⟨⟨rfl, rfl, rfl, rfl, rfl, rfl, congrArg i64 (by rw [wrpE, wi64]; rfl), True.intro⟩, ⟨.inl rfl, .inl rfl, True.intro⟩, rfl, rfl, rfl⟩
  · refine Ob.intro (show (0 : Int) ≤ ((4 : Nat) : Int) ∧ ((4 : Nat) : Int) < ((5 : Nat) : Int) by omega) ?_
    refine forkD (fun g2 => ?_) (fun g2 => ?_)
    · have hbig : ¬ a4 ≤ 2147483647 := by have : (a4 : Int) > 2147483647 := g2; omega
      have hO2 : O = none := by rw [hO, if_neg (show ¬ a4 ≤ 2147483647 by omega)]
      rw [hO2]
      exact ⟨rfl, [], .tup [.agg (rqR nilS nilS (q00 0)), bo false], ⟨⟨_, rfl, rfl⟩, True.intro, Nat.zero_le _, rfl⟩, rfl, _, le_zero, rfl⟩
    · exact hK ⟨5, by decide, by decide, (fun g => by have : ¬ (a4 : Int) > 2147483647 := g2; omega)⟩ [0, 1] _ rfl ⟨⟨rfl, rfl, rfl, rfl, rfl, rfl, congrArg i64 (by rw [wrpE, wi64]; rfl), True.intro⟩, ⟨.inl rfl, .inl rfl, True.intro⟩, rfl, rfl, rfl⟩
  · have w4 : wrp .i64 ((a4 : Nat) : Int) = ((a4 : Nat) : Int) := by have := b4 (by decide); rw [wrpE, wi64]; omega
    rw [if_pos (b4 (by decide))] at hO
    refine Ob.intro (show (0 : Int) ≤ 1 ∧ (1 : Int) < ((5 : Nat) : Int) by omega) ?_
    refine ⟨[0, 0, 0, 0, 0, 0, 0, 0, 0, 0, 0, 0, 0, 0, 0, 1], [[], [0], [0, 1], [0, 1, 2], [], [4], [4, 5], [4, 5, 6], [], [8], [8, 9], [8, 9, 10], [8, 9, 10, 11], [0, 1, 2, 3, 4, 5, 6, 7, 8, 9, 10, 11, 12], [0, 1, 2, 3, 4, 5, 6, 7, 8, 9, 10, 11, 12, 13], [0, 1, 2, 3, 4, 5, 6, 7, 8, 9, 10, 11, 12, 13, 14]], [0, 0, 0, 0, 0, 0, 0, 0, 0, 0, 0, 0, 0, 0, 0, 0], [15], [[6], [154], [155], [156], [6], [158], [159], [160], [6], [162], [163], [164], [165], [157, 161, 166], [4], [168, 167]], Ob.intro (by kernel_rfl) ?_⟩
    repeat first | refine same ?_ | refine Ob.intro (show (0 : Int) ≤ 2 ∧ (2 : Int) < ((5 : Nat) : Int) by omega) ?_ | refine Ob.intro (show (0 : Int) ≤ 3 ∧ (3 : Int) < ((5 : Nat) : Int) by omega) ?_ | refine Ob.intro (show (0 : Int) ≤ 4 ∧ (4 : Int) < ((5 : Nat) : Int) by omega) ?_
    have hok : Rq.ok ⟨11, 0, l1, 0, false, 0, ⟨#[]⟩, false, ⟨#[]⟩, 0, s2, s3, ((a4 : Nat) : Int), 0, []⟩ := ⟨hll, hlx, (by decide : (0 : Nat) < 18446744073709551616), (by decide : (0 : Nat) < 18446744073709551616), (by decide : (0 : Nat) < 4611686018427387904), (fun y hy => by cases hy)⟩
    have hle : LeL (rqR (us l1) nilS ⟨11, 0, l1, 0, false, 0, ⟨#[]⟩, false, ⟨#[]⟩, 0, s2, s3, (wrp .i64 ((a4 : Nat) : Int)), 0, []⟩) (Rq.C ⟨11, 0, l1, 0, false, 0, ⟨#[]⟩, false, ⟨#[]⟩, 0, s2, s3, ((a4 : Nat) : Int), 0, []⟩) := by
      rw [w4]
      exact le_lac (b := true) (q := ⟨11, 0, l1, 0, false, 0, ⟨#[]⟩, false, ⟨#[]⟩, 0, s2, s3, ((a4 : Nat) : Int), 0, []⟩) (fun g => by cases g) rfl
    have hR := argsLe (cs := [.agg (rqR (us l1) nilS ⟨11, 0, l1, 0, false, 0, ⟨#[]⟩, false, ⟨#[]⟩, 0, s2, s3, (wrp .i64 ((a4 : Nat) : Int)), 0, []⟩)]) (ds := [.agg (Rq.C ⟨11, 0, l1, 0, false, 0, ⟨#[]⟩, false, ⟨#[]⟩, 0, s2, s3, ((a4 : Nat) : Int), 0, []⟩)]) ⟨fun X v hv => VR_agLe hle hv, True.intro⟩ (rr_ok _ hok)
    by_cases hz : t.size = 0
    · refine forkD (fun g => absurd (show (t.size : Int) > 0 from g) (by omega)) (fun _ => ?_)
      cases hb2 : rqB ⟨11, 0, l1, 0, false, 0, ⟨#[]⟩, false, ⟨#[]⟩, 0, s2, s3, ((a4 : Nat) : Int), 0, []⟩ with
      | true =>
        rw [hb2] at hR
        have hO2 : O = some ⟨11, 0, l1, 0, false, 0, ⟨#[]⟩, false, ⟨#[]⟩, 0, s2, s3, ((a4 : Nat) : Int), 0, []⟩ := by rw [hO]; exact if_pos ⟨hz, hb2⟩
        rw [hO2]
        refine callP hR rfl rfl ?_
        exact ⟨rfl, [], .tup [.agg (rqR (us l1) nilS ⟨11, 0, l1, 0, false, 0, ⟨#[]⟩, false, ⟨#[]⟩, 0, s2, s3, (wrp .i64 ((a4 : Nat) : Int)), 0, []⟩), bo true], ⟨⟨_, rfl, rfl⟩, True.intro, Nat.zero_le _, rfl⟩, rfl, _, hle, rfl⟩
      | false =>
        rw [hb2] at hR
        have hO2 : O = none := by rw [hO]; exact if_neg (fun hh => by rw [hb2] at hh; cases hh.2)
        rw [hO2]
        refine callP hR rfl rfl ?_
        exact ⟨rfl, [], .tup [.agg (rqR nilS nilS (q00 0)), bo false], ⟨⟨_, rfl, rfl⟩, True.intro, Nat.zero_le _, rfl⟩, rfl, _, le_zero, rfl⟩
    · have hO2 : O = none := by rw [hO]; exact if_neg (fun hh => hz hh.1)
      rw [hO2]
      refine forkD (fun _ => ?_) (fun g => absurd (show (t.size : Int) > 0 by omega) g)
      exact ⟨rfl, [], .tup [.agg (rqR nilS nilS (q00 0)), bo false], ⟨⟨_, rfl, rfl⟩, True.intro, Nat.zero_le _, rfl⟩, rfl, _, le_zero, rfl⟩
theorem rqk_12 {s : ByteArray} {a0 : Nat} {s0 : ByteArray} {l0 : List Nat} {k0 : List It} {m : Nat} (h : begP [98] s = .ok [.mk a0 s0 l0 k0] m) (h0 : octB s 0 = 12) : rqP s = finQ ⟨12, 0, [], 0, false, 0, ⟨#[]⟩, false, ⟨#[]⟩, 0, ⟨#[]⟩, ⟨#[]⟩, 0, 0, []⟩ (rest s m) := by
  have hb0 := h
  have hn := (b_first hb0).1.trans h0
  subst hn
  have hL : fldL ((12 : Nat) : Int) = [] := by decide
  unfold rqP
  rw [hb0]
  dsimp only
  rw [hL]
  rfl
set_option maxHeartbeats 4000000 in
theorem ru_12 (s : ByteArray) (hs : s.size ≤ 1000000) (h0 : octB s 0 = 12) (hsz : s.size ≠ 0) {a0 : Nat} {s0 : ByteArray} {l0 : List Nat} {k0 : List It} {m : Nat} (h : begP [98] s = .ok [.mk a0 s0 l0 k0] m) : ACalls Try.prog 14 [str s] [] (UrW (rqP s)) := by
  have hq := rqk_12 h h0
  obtain ⟨O, hO⟩ : ∃ O, O = rqP s := ⟨_, rfl⟩
  rw [← hO]
  rw [hq] at hO
  clear hq
  have hi : (0 : Int) ≤ 0 ∧ (0 : Int) < (s.size : Int) := by omega
  have hw : wrp .i64 ((octB s 0 : Nat) : Int) = ((12 : Nat) : Int) := by rw [wrpE, wi64]; omega
  have hsh := shape_ok 12 (by decide)
  rw [← hw] at hsh
  have hb := rbegin_ok (shK 12) s (by decide) hs
  rw [show byL (shK 12) = [98] from rfl, h] at hb
  have hm := begP_le h
  obtain ⟨t, ht⟩ : ∃ t, t = rest s m := ⟨_, rfl⟩
  rw [← ht] at hO
  refine acalls_of_awp hT mixed Try.func14 rfl (by kernel_rfl) (by kernel_rfl) (Nat.le_of_ble_eq_true rfl) ?_
  refine fork (fun g => absurd (show (s.size : Int) = 0 from beq_iff_eq.1 g) (by omega)) (fun _ => ?_)
  refine Ob.intro hi ?_
  refine forkD (fun g => absurd (show ((octB s 0 : Nat) : Int) < 1 from g) (by omega)) (fun _ => ?_)
  refine Ob.intro hi ?_
  refine forkD (fun g => absurd (show ((octB s 0 : Nat) : Int) > 17 from g) (by omega)) (fun _ => ?_)
  refine Ob.intro hi ?_
  refine callP hsh rfl rfl ?_
  refine callP hb rfl rfl ?_
  refine Ob.intro (show (0 : Int) ≤ (m : Nat) ∧ ((m : Nat) : Int) ≤ (s.size : Int) ∧ (s.size : Int) ≤ (s.size : Int) by omega) ?_
  refine loopI (α := { j : Nat // 1 ≤ j ∧ j ≤ 1 }) (fun x => [(0, str t), (2, .ptr 0 0), (3, bo false), (4, .ptr 1 0), (5, i64 12), (6, itsV [.mk a0 s0 l0 k0]), (9, i64 (x.val : Nat))]) (fun _ => [.row (rqR nilS nilS (q00 0)), .row (rqR nilS nilS (q00 0))]) (fun x => 1 - x.val) ⟨1, by decide, by decide⟩ [0, 1] ⟨⟨congrArg str ht.symm, rfl, rfl, rfl, congrArg i64 hw, rfl, rfl, True.intro⟩, ⟨.inl rfl, .inl rfl, True.intro⟩, rfl, rfl, rfl⟩ ?_
  rintro ⟨j, hj1, hj2⟩ K hK
  have hj' : j = 1 := by omega
  subst hj'
  dsimp only at hj1 hj2 ⊢
  · have hok : Rq.ok ⟨12, 0, [], 0, false, 0, ⟨#[]⟩, false, ⟨#[]⟩, 0, ⟨#[]⟩, ⟨#[]⟩, 0, 0, []⟩ := ⟨(by decide : (0 : Nat) < 4611686018427387904), (fun y hy => by cases hy), (by decide : (0 : Nat) < 18446744073709551616), (by decide : (0 : Nat) < 18446744073709551616), (by decide : (0 : Nat) < 4611686018427387904), (fun y hy => by cases hy)⟩
    have hle : LeL (rqR nilS nilS ⟨12, 0, [], 0, false, 0, ⟨#[]⟩, false, ⟨#[]⟩, 0, ⟨#[]⟩, ⟨#[]⟩, 0, 0, []⟩) (Rq.C ⟨12, 0, [], 0, false, 0, ⟨#[]⟩, false, ⟨#[]⟩, 0, ⟨#[]⟩, ⟨#[]⟩, 0, 0, []⟩) := by
      exact le_lac (b := false) (q := ⟨12, 0, [], 0, false, 0, ⟨#[]⟩, false, ⟨#[]⟩, 0, ⟨#[]⟩, ⟨#[]⟩, 0, 0, []⟩) (fun _ => rfl) rfl
    have hR := argsLe (cs := [.agg (rqR nilS nilS ⟨12, 0, [], 0, false, 0, ⟨#[]⟩, false, ⟨#[]⟩, 0, ⟨#[]⟩, ⟨#[]⟩, 0, 0, []⟩)]) (ds := [.agg (Rq.C ⟨12, 0, [], 0, false, 0, ⟨#[]⟩, false, ⟨#[]⟩, 0, ⟨#[]⟩, ⟨#[]⟩, 0, 0, []⟩)]) ⟨fun X v hv => VR_agLe hle hv, True.intro⟩ (rr_ok _ hok)
    by_cases hz : t.size = 0
    · refine forkD (fun g => absurd (show (t.size : Int) > 0 from g) (by omega)) (fun _ => ?_)
      cases hb2 : rqB ⟨12, 0, [], 0, false, 0, ⟨#[]⟩, false, ⟨#[]⟩, 0, ⟨#[]⟩, ⟨#[]⟩, 0, 0, []⟩ with
      | true =>
        rw [hb2] at hR
        have hO2 : O = some ⟨12, 0, [], 0, false, 0, ⟨#[]⟩, false, ⟨#[]⟩, 0, ⟨#[]⟩, ⟨#[]⟩, 0, 0, []⟩ := by rw [hO]; exact if_pos ⟨hz, hb2⟩
        rw [hO2]
        refine callP hR rfl rfl ?_
        exact ⟨rfl, [], .tup [.agg (rqR nilS nilS ⟨12, 0, [], 0, false, 0, ⟨#[]⟩, false, ⟨#[]⟩, 0, ⟨#[]⟩, ⟨#[]⟩, 0, 0, []⟩), bo true], ⟨⟨_, rfl, rfl⟩, True.intro, Nat.zero_le _, rfl⟩, rfl, _, hle, rfl⟩
      | false =>
        rw [hb2] at hR
        have hO2 : O = none := by rw [hO]; exact if_neg (fun hh => by rw [hb2] at hh; cases hh.2)
        rw [hO2]
        refine callP hR rfl rfl ?_
        exact ⟨rfl, [], .tup [.agg (rqR nilS nilS (q00 0)), bo false], ⟨⟨_, rfl, rfl⟩, True.intro, Nat.zero_le _, rfl⟩, rfl, _, le_zero, rfl⟩
    · have hO2 : O = none := by rw [hO]; exact if_neg (fun hh => hz hh.1)
      rw [hO2]
      refine forkD (fun _ => ?_) (fun g => absurd (show (t.size : Int) > 0 by omega) g)
      exact ⟨rfl, [], .tup [.agg (rqR nilS nilS (q00 0)), bo false], ⟨⟨_, rfl, rfl⟩, True.intro, Nat.zero_le _, rfl⟩, rfl, _, le_zero, rfl⟩
theorem rqk_13 {s : ByteArray} {a0 : Nat} {s0 : ByteArray} {l0 : List Nat} {k0 : List It} {a1 : Nat} {s1 : ByteArray} {l1 : List Nat} {k1 : List It} {m : Nat} (h : begP [98, 110] s = .ok [.mk a0 s0 l0 k0, .mk a1 s1 l1 k1] m) (h0 : octB s 0 = 13) : rqP s = (if a1 ≤ 2147483647 then finQ ⟨13, 0, [], 0, false, 0, ⟨#[]⟩, false, ⟨#[]⟩, 0, ⟨#[]⟩, ⟨#[]⟩, 0, ((a1 : Nat) : Int), []⟩ (rest s m) else none) := by
  obtain ⟨x0, m0, r1, j1, hb0, hr1, e0, em0⟩ := begP_cat_ok (b1 := [98]) (b2 := [110]) (L1 := [(98, false)]) (L2 := [(110, false)]) (by decide) (by decide) (by decide) h
  obtain ⟨n0, t0, q0, z0, rfl⟩ := beg_1 sh_1b hb0
  cases e0
  have hb1 := hr1
  subst em0
  have hn := (b_first hb0).1.trans h0
  subst hn
  have hL : fldL ((13 : Nat) : Int) = [8] := by decide
  unfold rqP
  rw [hb0]
  dsimp only
  rw [hL]
  rw [fdsP_cons, fq_8 hb1]
  by_cases hc0 : a1 ≤ 2147483647
  rotate_left
  · simp only [if_neg hc0]
  simp only [if_pos hc0]
  try dsimp only
  simp only [rest_rest, Nat.add_assoc]
  rfl
set_option maxHeartbeats 4000000 in
theorem ru_13 (s : ByteArray) (hs : s.size ≤ 1000000) (h0 : octB s 0 = 13) (hsz : s.size ≠ 0) {a0 : Nat} {s0 : ByteArray} {l0 : List Nat} {k0 : List It} {a1 : Nat} {s1 : ByteArray} {l1 : List Nat} {k1 : List It} {m : Nat} (h : begP [98, 110] s = .ok [.mk a0 s0 l0 k0, .mk a1 s1 l1 k1] m) : ACalls Try.prog 14 [str s] [] (UrW (rqP s)) := by
  have hq := rqk_13 h h0
  obtain ⟨O, hO⟩ : ∃ O, O = rqP s := ⟨_, rfl⟩
  rw [← hO]
  rw [hq] at hO
  clear hq
  have hi : (0 : Int) ≤ 0 ∧ (0 : Int) < (s.size : Int) := by omega
  have hw : wrp .i64 ((octB s 0 : Nat) : Int) = ((13 : Nat) : Int) := by rw [wrpE, wi64]; omega
  have hsh := shape_ok 13 (by decide)
  rw [← hw] at hsh
  have hb := rbegin_ok (shK 13) s (by decide) hs
  rw [show byL (shK 13) = [98, 110] from rfl, h] at hb
  have hm := begP_le h
  obtain ⟨t, ht⟩ : ∃ t, t = rest s m := ⟨_, rfl⟩
  rw [← ht] at hO
  refine acalls_of_awp hT mixed Try.func14 rfl (by kernel_rfl) (by kernel_rfl) (Nat.le_of_ble_eq_true rfl) ?_
  refine fork (fun g => absurd (show (s.size : Int) = 0 from beq_iff_eq.1 g) (by omega)) (fun _ => ?_)
  refine Ob.intro hi ?_
  refine forkD (fun g => absurd (show ((octB s 0 : Nat) : Int) < 1 from g) (by omega)) (fun _ => ?_)
  refine Ob.intro hi ?_
  refine forkD (fun g => absurd (show ((octB s 0 : Nat) : Int) > 17 from g) (by omega)) (fun _ => ?_)
  refine Ob.intro hi ?_
  refine callP hsh rfl rfl ?_
  refine callP hb rfl rfl ?_
  refine Ob.intro (show (0 : Int) ≤ (m : Nat) ∧ ((m : Nat) : Int) ≤ (s.size : Int) ∧ (s.size : Int) ≤ (s.size : Int) by omega) ?_
  refine loopI (α := { j : Nat // 1 ≤ j ∧ j ≤ 2 ∧ (1 < j → a1 ≤ 2147483647) }) (fun x => [(0, str t), (2, .ptr 0 0), (3, bo false), (4, .ptr 1 0), (5, i64 13), (6, itsV [.mk a0 s0 l0 k0, .mk a1 s1 l1 k1]), (9, i64 (x.val : Nat))]) (fun _ => [.row (rqR nilS nilS (q00 0)), .row (rqR nilS nilS (q00 0))]) (fun x => 2 - x.val) ⟨1, by decide, by decide, fun g => absurd g (by decide)⟩ [0, 1] ⟨⟨congrArg str ht.symm, rfl, rfl, rfl, congrArg i64 hw, rfl, rfl, True.intro⟩, ⟨.inl rfl, .inl rfl, True.intro⟩, rfl, rfl, rfl⟩ ?_
  rintro ⟨j, hj1, hj2, b1⟩ K hK
  have hj' : j = 1 ∨ j = 2 := by omega
  rcases hj' with rfl | rfl <;> dsimp only at hj1 hj2 b1 ⊢
  · refine Ob.intro (show (0 : Int) ≤ ((1 : Nat) : Int) ∧ ((1 : Nat) : Int) < ((2 : Nat) : Int) by omega) ?_
    refine forkD (fun g2 => ?_) (fun g2 => ?_)
    · have hbig : ¬ a1 ≤ 2147483647 := by have : (a1 : Int) > 2147483647 := g2; omega
      have hO2 : O = none := by rw [hO, if_neg (show ¬ a1 ≤ 2147483647 by omega)]
      rw [hO2]
      exact ⟨rfl, [], .tup [.agg (rqR nilS nilS (q00 0)), bo false], ⟨⟨_, rfl, rfl⟩, True.intro, Nat.zero_le _, rfl⟩, rfl, _, le_zero, rfl⟩
    · exact hK ⟨2, by decide, by decide, (fun g => by have : ¬ (a1 : Int) > 2147483647 := g2; omega)⟩ [0, 1] _ rfl ⟨⟨rfl, rfl, rfl, rfl, rfl, rfl, congrArg i64 (by rw [wrpE, wi64]; rfl), True.intro⟩, ⟨.inl rfl, .inl rfl, True.intro⟩, rfl, rfl, rfl⟩
  · have w1 : wrp .i64 ((a1 : Nat) : Int) = ((a1 : Nat) : Int) := by have := b1 (by decide); rw [wrpE, wi64]; omega
    rw [if_pos (b1 (by decide))] at hO
    refine Ob.intro (show (0 : Int) ≤ 1 ∧ (1 : Int) < ((2 : Nat) : Int) by omega) ?_
    have hok : Rq.ok ⟨13, 0, [], 0, false, 0, ⟨#[]⟩, false, ⟨#[]⟩, 0, ⟨#[]⟩, ⟨#[]⟩, 0, ((a1 : Nat) : Int), []⟩ := ⟨(by decide : (0 : Nat) < 4611686018427387904), (fun y hy => by cases hy), (by decide : (0 : Nat) < 18446744073709551616), (by decide : (0 : Nat) < 18446744073709551616), (by decide : (0 : Nat) < 4611686018427387904), (fun y hy => by cases hy)⟩
    have hle : LeL (rqR nilS nilS ⟨13, 0, [], 0, false, 0, ⟨#[]⟩, false, ⟨#[]⟩, 0, ⟨#[]⟩, ⟨#[]⟩, 0, (wrp .i64 ((a1 : Nat) : Int)), []⟩) (Rq.C ⟨13, 0, [], 0, false, 0, ⟨#[]⟩, false, ⟨#[]⟩, 0, ⟨#[]⟩, ⟨#[]⟩, 0, ((a1 : Nat) : Int), []⟩) := by
      rw [w1]
      exact le_lac (b := false) (q := ⟨13, 0, [], 0, false, 0, ⟨#[]⟩, false, ⟨#[]⟩, 0, ⟨#[]⟩, ⟨#[]⟩, 0, ((a1 : Nat) : Int), []⟩) (fun _ => rfl) rfl
    have hR := argsLe (cs := [.agg (rqR nilS nilS ⟨13, 0, [], 0, false, 0, ⟨#[]⟩, false, ⟨#[]⟩, 0, ⟨#[]⟩, ⟨#[]⟩, 0, (wrp .i64 ((a1 : Nat) : Int)), []⟩)]) (ds := [.agg (Rq.C ⟨13, 0, [], 0, false, 0, ⟨#[]⟩, false, ⟨#[]⟩, 0, ⟨#[]⟩, ⟨#[]⟩, 0, ((a1 : Nat) : Int), []⟩)]) ⟨fun X v hv => VR_agLe hle hv, True.intro⟩ (rr_ok _ hok)
    by_cases hz : t.size = 0
    · refine forkD (fun g => absurd (show (t.size : Int) > 0 from g) (by omega)) (fun _ => ?_)
      cases hb2 : rqB ⟨13, 0, [], 0, false, 0, ⟨#[]⟩, false, ⟨#[]⟩, 0, ⟨#[]⟩, ⟨#[]⟩, 0, ((a1 : Nat) : Int), []⟩ with
      | true =>
        rw [hb2] at hR
        have hO2 : O = some ⟨13, 0, [], 0, false, 0, ⟨#[]⟩, false, ⟨#[]⟩, 0, ⟨#[]⟩, ⟨#[]⟩, 0, ((a1 : Nat) : Int), []⟩ := by rw [hO]; exact if_pos ⟨hz, hb2⟩
        rw [hO2]
        refine callP hR rfl rfl ?_
        exact ⟨rfl, [], .tup [.agg (rqR nilS nilS ⟨13, 0, [], 0, false, 0, ⟨#[]⟩, false, ⟨#[]⟩, 0, ⟨#[]⟩, ⟨#[]⟩, 0, (wrp .i64 ((a1 : Nat) : Int)), []⟩), bo true], ⟨⟨_, rfl, rfl⟩, True.intro, Nat.zero_le _, rfl⟩, rfl, _, hle, rfl⟩
      | false =>
        rw [hb2] at hR
        have hO2 : O = none := by rw [hO]; exact if_neg (fun hh => by rw [hb2] at hh; cases hh.2)
        rw [hO2]
        refine callP hR rfl rfl ?_
        exact ⟨rfl, [], .tup [.agg (rqR nilS nilS (q00 0)), bo false], ⟨⟨_, rfl, rfl⟩, True.intro, Nat.zero_le _, rfl⟩, rfl, _, le_zero, rfl⟩
    · have hO2 : O = none := by rw [hO]; exact if_neg (fun hh => hz hh.1)
      rw [hO2]
      refine forkD (fun _ => ?_) (fun g => absurd (show (t.size : Int) > 0 by omega) g)
      exact ⟨rfl, [], .tup [.agg (rqR nilS nilS (q00 0)), bo false], ⟨⟨_, rfl, rfl⟩, True.intro, Nat.zero_le _, rfl⟩, rfl, _, le_zero, rfl⟩
theorem rqk_14 {s : ByteArray} {a0 : Nat} {s0 : ByteArray} {l0 : List Nat} {k0 : List It} {m : Nat} (h : begP [98] s = .ok [.mk a0 s0 l0 k0] m) (h0 : octB s 0 = 14) : rqP s = finQ ⟨14, 0, [], 0, false, 0, ⟨#[]⟩, false, ⟨#[]⟩, 0, ⟨#[]⟩, ⟨#[]⟩, 0, 0, []⟩ (rest s m) := by
  have hb0 := h
  have hn := (b_first hb0).1.trans h0
  subst hn
  have hL : fldL ((14 : Nat) : Int) = [] := by decide
  unfold rqP
  rw [hb0]
  dsimp only
  rw [hL]
  rfl
set_option maxHeartbeats 4000000 in
theorem ru_14 (s : ByteArray) (hs : s.size ≤ 1000000) (h0 : octB s 0 = 14) (hsz : s.size ≠ 0) {a0 : Nat} {s0 : ByteArray} {l0 : List Nat} {k0 : List It} {m : Nat} (h : begP [98] s = .ok [.mk a0 s0 l0 k0] m) : ACalls Try.prog 14 [str s] [] (UrW (rqP s)) := by
  have hq := rqk_14 h h0
  obtain ⟨O, hO⟩ : ∃ O, O = rqP s := ⟨_, rfl⟩
  rw [← hO]
  rw [hq] at hO
  clear hq
  have hi : (0 : Int) ≤ 0 ∧ (0 : Int) < (s.size : Int) := by omega
  have hw : wrp .i64 ((octB s 0 : Nat) : Int) = ((14 : Nat) : Int) := by rw [wrpE, wi64]; omega
  have hsh := shape_ok 14 (by decide)
  rw [← hw] at hsh
  have hb := rbegin_ok (shK 14) s (by decide) hs
  rw [show byL (shK 14) = [98] from rfl, h] at hb
  have hm := begP_le h
  obtain ⟨t, ht⟩ : ∃ t, t = rest s m := ⟨_, rfl⟩
  rw [← ht] at hO
  refine acalls_of_awp hT mixed Try.func14 rfl (by kernel_rfl) (by kernel_rfl) (Nat.le_of_ble_eq_true rfl) ?_
  refine fork (fun g => absurd (show (s.size : Int) = 0 from beq_iff_eq.1 g) (by omega)) (fun _ => ?_)
  refine Ob.intro hi ?_
  refine forkD (fun g => absurd (show ((octB s 0 : Nat) : Int) < 1 from g) (by omega)) (fun _ => ?_)
  refine Ob.intro hi ?_
  refine forkD (fun g => absurd (show ((octB s 0 : Nat) : Int) > 17 from g) (by omega)) (fun _ => ?_)
  refine Ob.intro hi ?_
  refine callP hsh rfl rfl ?_
  refine callP hb rfl rfl ?_
  refine Ob.intro (show (0 : Int) ≤ (m : Nat) ∧ ((m : Nat) : Int) ≤ (s.size : Int) ∧ (s.size : Int) ≤ (s.size : Int) by omega) ?_
  refine loopI (α := { j : Nat // 1 ≤ j ∧ j ≤ 1 }) (fun x => [(0, str t), (2, .ptr 0 0), (3, bo false), (4, .ptr 1 0), (5, i64 14), (6, itsV [.mk a0 s0 l0 k0]), (9, i64 (x.val : Nat))]) (fun _ => [.row (rqR nilS nilS (q00 0)), .row (rqR nilS nilS (q00 0))]) (fun x => 1 - x.val) ⟨1, by decide, by decide⟩ [0, 1] ⟨⟨congrArg str ht.symm, rfl, rfl, rfl, congrArg i64 hw, rfl, rfl, True.intro⟩, ⟨.inl rfl, .inl rfl, True.intro⟩, rfl, rfl, rfl⟩ ?_
  rintro ⟨j, hj1, hj2⟩ K hK
  have hj' : j = 1 := by omega
  subst hj'
  dsimp only at hj1 hj2 ⊢
  · have hok : Rq.ok ⟨14, 0, [], 0, false, 0, ⟨#[]⟩, false, ⟨#[]⟩, 0, ⟨#[]⟩, ⟨#[]⟩, 0, 0, []⟩ := ⟨(by decide : (0 : Nat) < 4611686018427387904), (fun y hy => by cases hy), (by decide : (0 : Nat) < 18446744073709551616), (by decide : (0 : Nat) < 18446744073709551616), (by decide : (0 : Nat) < 4611686018427387904), (fun y hy => by cases hy)⟩
    have hle : LeL (rqR nilS nilS ⟨14, 0, [], 0, false, 0, ⟨#[]⟩, false, ⟨#[]⟩, 0, ⟨#[]⟩, ⟨#[]⟩, 0, 0, []⟩) (Rq.C ⟨14, 0, [], 0, false, 0, ⟨#[]⟩, false, ⟨#[]⟩, 0, ⟨#[]⟩, ⟨#[]⟩, 0, 0, []⟩) := by
      exact le_lac (b := false) (q := ⟨14, 0, [], 0, false, 0, ⟨#[]⟩, false, ⟨#[]⟩, 0, ⟨#[]⟩, ⟨#[]⟩, 0, 0, []⟩) (fun _ => rfl) rfl
    have hR := argsLe (cs := [.agg (rqR nilS nilS ⟨14, 0, [], 0, false, 0, ⟨#[]⟩, false, ⟨#[]⟩, 0, ⟨#[]⟩, ⟨#[]⟩, 0, 0, []⟩)]) (ds := [.agg (Rq.C ⟨14, 0, [], 0, false, 0, ⟨#[]⟩, false, ⟨#[]⟩, 0, ⟨#[]⟩, ⟨#[]⟩, 0, 0, []⟩)]) ⟨fun X v hv => VR_agLe hle hv, True.intro⟩ (rr_ok _ hok)
    by_cases hz : t.size = 0
    · refine forkD (fun g => absurd (show (t.size : Int) > 0 from g) (by omega)) (fun _ => ?_)
      cases hb2 : rqB ⟨14, 0, [], 0, false, 0, ⟨#[]⟩, false, ⟨#[]⟩, 0, ⟨#[]⟩, ⟨#[]⟩, 0, 0, []⟩ with
      | true =>
        rw [hb2] at hR
        have hO2 : O = some ⟨14, 0, [], 0, false, 0, ⟨#[]⟩, false, ⟨#[]⟩, 0, ⟨#[]⟩, ⟨#[]⟩, 0, 0, []⟩ := by rw [hO]; exact if_pos ⟨hz, hb2⟩
        rw [hO2]
        refine callP hR rfl rfl ?_
        exact ⟨rfl, [], .tup [.agg (rqR nilS nilS ⟨14, 0, [], 0, false, 0, ⟨#[]⟩, false, ⟨#[]⟩, 0, ⟨#[]⟩, ⟨#[]⟩, 0, 0, []⟩), bo true], ⟨⟨_, rfl, rfl⟩, True.intro, Nat.zero_le _, rfl⟩, rfl, _, hle, rfl⟩
      | false =>
        rw [hb2] at hR
        have hO2 : O = none := by rw [hO]; exact if_neg (fun hh => by rw [hb2] at hh; cases hh.2)
        rw [hO2]
        refine callP hR rfl rfl ?_
        exact ⟨rfl, [], .tup [.agg (rqR nilS nilS (q00 0)), bo false], ⟨⟨_, rfl, rfl⟩, True.intro, Nat.zero_le _, rfl⟩, rfl, _, le_zero, rfl⟩
    · have hO2 : O = none := by rw [hO]; exact if_neg (fun hh => hz hh.1)
      rw [hO2]
      refine forkD (fun _ => ?_) (fun g => absurd (show (t.size : Int) > 0 by omega) g)
      exact ⟨rfl, [], .tup [.agg (rqR nilS nilS (q00 0)), bo false], ⟨⟨_, rfl, rfl⟩, True.intro, Nat.zero_le _, rfl⟩, rfl, _, le_zero, rfl⟩
theorem rqk_15 {s : ByteArray} {a0 : Nat} {s0 : ByteArray} {l0 : List Nat} {k0 : List It} {m : Nat} (h : begP [98] s = .ok [.mk a0 s0 l0 k0] m) (h0 : octB s 0 = 15) : rqP s = finQ ⟨15, 0, [], 0, false, 0, ⟨#[]⟩, false, ⟨#[]⟩, 0, ⟨#[]⟩, ⟨#[]⟩, 0, 0, []⟩ (rest s m) := by
  have hb0 := h
  have hn := (b_first hb0).1.trans h0
  subst hn
  have hL : fldL ((15 : Nat) : Int) = [] := by decide
  unfold rqP
  rw [hb0]
  dsimp only
  rw [hL]
  rfl
set_option maxHeartbeats 4000000 in
theorem ru_15 (s : ByteArray) (hs : s.size ≤ 1000000) (h0 : octB s 0 = 15) (hsz : s.size ≠ 0) {a0 : Nat} {s0 : ByteArray} {l0 : List Nat} {k0 : List It} {m : Nat} (h : begP [98] s = .ok [.mk a0 s0 l0 k0] m) : ACalls Try.prog 14 [str s] [] (UrW (rqP s)) := by
  have hq := rqk_15 h h0
  obtain ⟨O, hO⟩ : ∃ O, O = rqP s := ⟨_, rfl⟩
  rw [← hO]
  rw [hq] at hO
  clear hq
  have hi : (0 : Int) ≤ 0 ∧ (0 : Int) < (s.size : Int) := by omega
  have hw : wrp .i64 ((octB s 0 : Nat) : Int) = ((15 : Nat) : Int) := by rw [wrpE, wi64]; omega
  have hsh := shape_ok 15 (by decide)
  rw [← hw] at hsh
  have hb := rbegin_ok (shK 15) s (by decide) hs
  rw [show byL (shK 15) = [98] from rfl, h] at hb
  have hm := begP_le h
  obtain ⟨t, ht⟩ : ∃ t, t = rest s m := ⟨_, rfl⟩
  rw [← ht] at hO
  refine acalls_of_awp hT mixed Try.func14 rfl (by kernel_rfl) (by kernel_rfl) (Nat.le_of_ble_eq_true rfl) ?_
  refine fork (fun g => absurd (show (s.size : Int) = 0 from beq_iff_eq.1 g) (by omega)) (fun _ => ?_)
  refine Ob.intro hi ?_
  refine forkD (fun g => absurd (show ((octB s 0 : Nat) : Int) < 1 from g) (by omega)) (fun _ => ?_)
  refine Ob.intro hi ?_
  refine forkD (fun g => absurd (show ((octB s 0 : Nat) : Int) > 17 from g) (by omega)) (fun _ => ?_)
  refine Ob.intro hi ?_
  refine callP hsh rfl rfl ?_
  refine callP hb rfl rfl ?_
  refine Ob.intro (show (0 : Int) ≤ (m : Nat) ∧ ((m : Nat) : Int) ≤ (s.size : Int) ∧ (s.size : Int) ≤ (s.size : Int) by omega) ?_
  refine loopI (α := { j : Nat // 1 ≤ j ∧ j ≤ 1 }) (fun x => [(0, str t), (2, .ptr 0 0), (3, bo false), (4, .ptr 1 0), (5, i64 15), (6, itsV [.mk a0 s0 l0 k0]), (9, i64 (x.val : Nat))]) (fun _ => [.row (rqR nilS nilS (q00 0)), .row (rqR nilS nilS (q00 0))]) (fun x => 1 - x.val) ⟨1, by decide, by decide⟩ [0, 1] ⟨⟨congrArg str ht.symm, rfl, rfl, rfl, congrArg i64 hw, rfl, rfl, True.intro⟩, ⟨.inl rfl, .inl rfl, True.intro⟩, rfl, rfl, rfl⟩ ?_
  rintro ⟨j, hj1, hj2⟩ K hK
  have hj' : j = 1 := by omega
  subst hj'
  dsimp only at hj1 hj2 ⊢
  · have hok : Rq.ok ⟨15, 0, [], 0, false, 0, ⟨#[]⟩, false, ⟨#[]⟩, 0, ⟨#[]⟩, ⟨#[]⟩, 0, 0, []⟩ := ⟨(by decide : (0 : Nat) < 4611686018427387904), (fun y hy => by cases hy), (by decide : (0 : Nat) < 18446744073709551616), (by decide : (0 : Nat) < 18446744073709551616), (by decide : (0 : Nat) < 4611686018427387904), (fun y hy => by cases hy)⟩
    have hle : LeL (rqR nilS nilS ⟨15, 0, [], 0, false, 0, ⟨#[]⟩, false, ⟨#[]⟩, 0, ⟨#[]⟩, ⟨#[]⟩, 0, 0, []⟩) (Rq.C ⟨15, 0, [], 0, false, 0, ⟨#[]⟩, false, ⟨#[]⟩, 0, ⟨#[]⟩, ⟨#[]⟩, 0, 0, []⟩) := by
      exact le_lac (b := false) (q := ⟨15, 0, [], 0, false, 0, ⟨#[]⟩, false, ⟨#[]⟩, 0, ⟨#[]⟩, ⟨#[]⟩, 0, 0, []⟩) (fun _ => rfl) rfl
    have hR := argsLe (cs := [.agg (rqR nilS nilS ⟨15, 0, [], 0, false, 0, ⟨#[]⟩, false, ⟨#[]⟩, 0, ⟨#[]⟩, ⟨#[]⟩, 0, 0, []⟩)]) (ds := [.agg (Rq.C ⟨15, 0, [], 0, false, 0, ⟨#[]⟩, false, ⟨#[]⟩, 0, ⟨#[]⟩, ⟨#[]⟩, 0, 0, []⟩)]) ⟨fun X v hv => VR_agLe hle hv, True.intro⟩ (rr_ok _ hok)
    by_cases hz : t.size = 0
    · refine forkD (fun g => absurd (show (t.size : Int) > 0 from g) (by omega)) (fun _ => ?_)
      cases hb2 : rqB ⟨15, 0, [], 0, false, 0, ⟨#[]⟩, false, ⟨#[]⟩, 0, ⟨#[]⟩, ⟨#[]⟩, 0, 0, []⟩ with
      | true =>
        rw [hb2] at hR
        have hO2 : O = some ⟨15, 0, [], 0, false, 0, ⟨#[]⟩, false, ⟨#[]⟩, 0, ⟨#[]⟩, ⟨#[]⟩, 0, 0, []⟩ := by rw [hO]; exact if_pos ⟨hz, hb2⟩
        rw [hO2]
        refine callP hR rfl rfl ?_
        exact ⟨rfl, [], .tup [.agg (rqR nilS nilS ⟨15, 0, [], 0, false, 0, ⟨#[]⟩, false, ⟨#[]⟩, 0, ⟨#[]⟩, ⟨#[]⟩, 0, 0, []⟩), bo true], ⟨⟨_, rfl, rfl⟩, True.intro, Nat.zero_le _, rfl⟩, rfl, _, hle, rfl⟩
      | false =>
        rw [hb2] at hR
        have hO2 : O = none := by rw [hO]; exact if_neg (fun hh => by rw [hb2] at hh; cases hh.2)
        rw [hO2]
        refine callP hR rfl rfl ?_
        exact ⟨rfl, [], .tup [.agg (rqR nilS nilS (q00 0)), bo false], ⟨⟨_, rfl, rfl⟩, True.intro, Nat.zero_le _, rfl⟩, rfl, _, le_zero, rfl⟩
    · have hO2 : O = none := by rw [hO]; exact if_neg (fun hh => hz hh.1)
      rw [hO2]
      refine forkD (fun _ => ?_) (fun g => absurd (show (t.size : Int) > 0 by omega) g)
      exact ⟨rfl, [], .tup [.agg (rqR nilS nilS (q00 0)), bo false], ⟨⟨_, rfl, rfl⟩, True.intro, Nat.zero_le _, rfl⟩, rfl, _, le_zero, rfl⟩
theorem rqk_17 {s : ByteArray} {a0 : Nat} {s0 : ByteArray} {l0 : List Nat} {k0 : List It} {a1 : Nat} {s1 : ByteArray} {l1 : List Nat} {k1 : List It} {a2 : Nat} {s2 : ByteArray} {l2 : List Nat} {k2 : List It} {a3 : Nat} {s3 : ByteArray} {l3 : List Nat} {k3 : List It} {a4 : Nat} {s4 : ByteArray} {l4 : List Nat} {k4 : List It} {m : Nat} (h : begP [98, 108, 116, 116, 110] s = .ok [.mk a0 s0 l0 k0, .mk a1 s1 l1 k1, .mk a2 s2 l2 k2, .mk a3 s3 l3 k3, .mk a4 s4 l4 k4] m) (h0 : octB s 0 = 17) : rqP s = (if a4 ≤ 2147483647 then finQ ⟨17, 0, l1, 0, false, 0, ⟨#[]⟩, false, ⟨#[]⟩, 0, s2, s3, ((a4 : Nat) : Int), 0, []⟩ (rest s m) else none) ∧ a1 = 0 ∧ a2 = 0 ∧ a3 = 0 := by
  obtain ⟨x0, m0, r1, j1, hb0, hr1, e0, em0⟩ := begP_cat_ok (b1 := [98]) (b2 := [108, 116, 116, 110]) (L1 := [(98, false)]) (L2 := [(108, false), (116, false), (116, false), (110, false)]) (by decide) (by decide) (by decide) h
  obtain ⟨n0, t0, q0, z0, rfl⟩ := beg_1 sh_1b hb0
  cases e0
  obtain ⟨y1, m1, r2, j2, hb1, hr2, e1, em1⟩ := begP_cat_ok (b1 := [108]) (b2 := [116, 116, 110]) (L1 := [(108, false)]) (L2 := [(116, false), (116, false), (110, false)]) (by decide) (by decide) (by decide) hr1
  obtain ⟨n1, t1, q1, z1, rfl⟩ := beg_1 sh_1l hb1
  cases e1
  have hb2 := hr2
  subst em1 em0
  refine ⟨?_, l_zero hb1, (ttn_zero hb2).1, (ttn_zero hb2).2⟩
  have hn := (b_first hb0).1.trans h0
  subst hn
  have hL : fldL ((17 : Nat) : Int) = [1, 7] := by decide
  unfold rqP
  rw [hb0]
  dsimp only
  rw [hL]
  rw [fdsP_cons, fq_1 hb1]
  try dsimp only
  rw [fdsP_cons, fq_7 hb2]
  by_cases hc1 : a4 ≤ 2147483647
  rotate_left
  · simp only [if_neg hc1]
  simp only [if_pos hc1]
  try dsimp only
  simp only [rest_rest, Nat.add_assoc]
  rfl
set_option maxHeartbeats 4000000 in
theorem ru_17 (s : ByteArray) (hs : s.size ≤ 1000000) (h0 : octB s 0 = 17) (hsz : s.size ≠ 0) {a0 : Nat} {s0 : ByteArray} {l0 : List Nat} {k0 : List It} {a1 : Nat} {s1 : ByteArray} {l1 : List Nat} {k1 : List It} {a2 : Nat} {s2 : ByteArray} {l2 : List Nat} {k2 : List It} {a3 : Nat} {s3 : ByteArray} {l3 : List Nat} {k3 : List It} {a4 : Nat} {s4 : ByteArray} {l4 : List Nat} {k4 : List It} {m : Nat} (h : begP [98, 108, 116, 116, 110] s = .ok [.mk a0 s0 l0 k0, .mk a1 s1 l1 k1, .mk a2 s2 l2 k2, .mk a3 s3 l3 k3, .mk a4 s4 l4 k4] m) : ACalls Try.prog 14 [str s] [] (UrW (rqP s)) := by
  obtain ⟨hq, z0, z1, z2⟩ := rqk_17 h h0
  obtain ⟨O, hO⟩ : ∃ O, O = rqP s := ⟨_, rfl⟩
  rw [← hO]
  rw [hq] at hO
  clear hq
  have ⟨hll, hlx⟩ : l1.length < 4611686018427387904 ∧ ∀ y ∈ l1, y < 18446744073709551616 := lab_ok (n := a1) (t := s1) (x := l1) (k := k1) h (by simp)
  have hi : (0 : Int) ≤ 0 ∧ (0 : Int) < (s.size : Int) := by omega
  have hw : wrp .i64 ((octB s 0 : Nat) : Int) = ((17 : Nat) : Int) := by rw [wrpE, wi64]; omega
  have hsh := shape_ok 17 (by decide)
  rw [← hw] at hsh
  have hb := rbegin_ok (shK 17) s (by decide) hs
  rw [show byL (shK 17) = [98, 108, 116, 116, 110] from rfl, h] at hb
  have hm := begP_le h
  obtain ⟨t, ht⟩ : ∃ t, t = rest s m := ⟨_, rfl⟩
  rw [← ht] at hO
  refine acalls_of_awp hT mixed Try.func14 rfl (by kernel_rfl) (by kernel_rfl) (Nat.le_of_ble_eq_true rfl) ?_
  refine fork (fun g => absurd (show (s.size : Int) = 0 from beq_iff_eq.1 g) (by omega)) (fun _ => ?_)
  refine Ob.intro hi ?_
  refine forkD (fun g => absurd (show ((octB s 0 : Nat) : Int) < 1 from g) (by omega)) (fun _ => ?_)
  refine Ob.intro hi ?_
  refine forkD (fun g => absurd (show ((octB s 0 : Nat) : Int) > 17 from g) (by omega)) (fun _ => ?_)
  refine Ob.intro hi ?_
  refine callP hsh rfl rfl ?_
  refine callP hb rfl rfl ?_
  refine Ob.intro (show (0 : Int) ≤ (m : Nat) ∧ ((m : Nat) : Int) ≤ (s.size : Int) ∧ (s.size : Int) ≤ (s.size : Int) by omega) ?_
  refine loopI (α := { j : Nat // 1 ≤ j ∧ j ≤ 5 ∧ (4 < j → a4 ≤ 2147483647) }) (fun x => [(0, str t), (2, .ptr 0 0), (3, bo false), (4, .ptr 1 0), (5, i64 17), (6, itsV [.mk a0 s0 l0 k0, .mk a1 s1 l1 k1, .mk a2 s2 l2 k2, .mk a3 s3 l3 k3, .mk a4 s4 l4 k4]), (9, i64 (x.val : Nat))]) (fun _ => [.row (rqR nilS nilS (q00 0)), .row (rqR nilS nilS (q00 0))]) (fun x => 5 - x.val) ⟨1, by decide, by decide, fun g => absurd g (by decide)⟩ [0, 1] ⟨⟨congrArg str ht.symm, rfl, rfl, rfl, congrArg i64 hw, rfl, rfl, True.intro⟩, ⟨.inl rfl, .inl rfl, True.intro⟩, rfl, rfl, rfl⟩ ?_
  rintro ⟨j, hj1, hj2, b4⟩ K hK
  have hj' : j = 1 ∨ j = 2 ∨ j = 3 ∨ j = 4 ∨ j = 5 := by omega
  rcases hj' with rfl | rfl | rfl | rfl | rfl <;> dsimp only at hj1 hj2 b4 ⊢
  · refine Ob.intro (show (0 : Int) ≤ ((1 : Nat) : Int) ∧ ((1 : Nat) : Int) < ((5 : Nat) : Int) by omega) ?_
    refine forkD (fun g2 => absurd (show (a1 : Int) > 2147483647 from g2) (by omega)) (fun g2 => ?_)
    exact hK ⟨2, by decide, by decide, fun g => absurd g (by decide)⟩ [0, 1] _ rfl ⟨⟨rfl, rfl, rfl, rfl, rfl, rfl, congrArg i64 (by rw [wrpE, wi64]; rfl), True.intro⟩, ⟨.inl rfl, .inl rfl, True.intro⟩, rfl, rfl, rfl⟩
  · refine Ob.intro (show (0 : Int) ≤ ((2 : Nat) : Int) ∧ ((2 : Nat) : Int) < ((5 : Nat) : Int) by omega) ?_
    refine forkD (fun g2 => absurd (show (a2 : Int) > 2147483647 from g2) (by omega)) (fun g2 => ?_)
    exact hK ⟨3, by decide, by decide, fun g => absurd g (by decide)⟩ [0, 1] _ rfl ⟨⟨rfl, rfl, rfl, rfl, rfl, rfl, congrArg i64 (by rw [wrpE, wi64]; rfl), True.intro⟩, ⟨.inl rfl, .inl rfl, True.intro⟩, rfl, rfl, rfl⟩
  · refine Ob.intro (show (0 : Int) ≤ ((3 : Nat) : Int) ∧ ((3 : Nat) : Int) < ((5 : Nat) : Int) by omega) ?_
    refine forkD (fun g2 => absurd (show (a3 : Int) > 2147483647 from g2) (by omega)) (fun g2 => ?_)
    exact hK ⟨4, by decide, by decide, fun g => absurd g (by decide)⟩ [0, 1] _ rfl ⟨⟨rfl, rfl, rfl, rfl, rfl, rfl, congrArg i64 (by rw [wrpE, wi64]; rfl), True.intro⟩, ⟨.inl rfl, .inl rfl, True.intro⟩, rfl, rfl, rfl⟩
  · refine Ob.intro (show (0 : Int) ≤ ((4 : Nat) : Int) ∧ ((4 : Nat) : Int) < ((5 : Nat) : Int) by omega) ?_
    refine forkD (fun g2 => ?_) (fun g2 => ?_)
    · have hbig : ¬ a4 ≤ 2147483647 := by have : (a4 : Int) > 2147483647 := g2; omega
      have hO2 : O = none := by rw [hO, if_neg (show ¬ a4 ≤ 2147483647 by omega)]
      rw [hO2]
      exact ⟨rfl, [], .tup [.agg (rqR nilS nilS (q00 0)), bo false], ⟨⟨_, rfl, rfl⟩, True.intro, Nat.zero_le _, rfl⟩, rfl, _, le_zero, rfl⟩
    · exact hK ⟨5, by decide, by decide, (fun g => by have : ¬ (a4 : Int) > 2147483647 := g2; omega)⟩ [0, 1] _ rfl ⟨⟨rfl, rfl, rfl, rfl, rfl, rfl, congrArg i64 (by rw [wrpE, wi64]; rfl), True.intro⟩, ⟨.inl rfl, .inl rfl, True.intro⟩, rfl, rfl, rfl⟩
  · have w4 : wrp .i64 ((a4 : Nat) : Int) = ((a4 : Nat) : Int) := by have := b4 (by decide); rw [wrpE, wi64]; omega
    rw [if_pos (b4 (by decide))] at hO
    refine Ob.intro (show (0 : Int) ≤ 1 ∧ (1 : Int) < ((5 : Nat) : Int) by omega) ?_
    refine ⟨[0, 0, 0, 0, 0, 0, 0, 0, 0, 0, 0, 0, 0, 0, 0, 1], [[], [0], [0, 1], [0, 1, 2], [], [4], [4, 5], [4, 5, 6], [], [8], [8, 9], [8, 9, 10], [8, 9, 10, 11], [0, 1, 2, 3, 4, 5, 6, 7, 8, 9, 10, 11, 12], [0, 1, 2, 3, 4, 5, 6, 7, 8, 9, 10, 11, 12, 13], [0, 1, 2, 3, 4, 5, 6, 7, 8, 9, 10, 11, 12, 13, 14]], [0, 0, 0, 0, 0, 0, 0, 0, 0, 0, 0, 0, 0, 0, 0, 0], [15], [[6], [154], [155], [156], [6], [158], [159], [160], [6], [162], [163], [164], [165], [157, 161, 166], [4], [168, 167]], Ob.intro (by kernel_rfl) ?_⟩
    repeat first | refine same ?_ | refine Ob.intro (show (0 : Int) ≤ 2 ∧ (2 : Int) < ((5 : Nat) : Int) by omega) ?_ | refine Ob.intro (show (0 : Int) ≤ 3 ∧ (3 : Int) < ((5 : Nat) : Int) by omega) ?_ | refine Ob.intro (show (0 : Int) ≤ 4 ∧ (4 : Int) < ((5 : Nat) : Int) by omega) ?_
    have hok : Rq.ok ⟨17, 0, l1, 0, false, 0, ⟨#[]⟩, false, ⟨#[]⟩, 0, s2, s3, ((a4 : Nat) : Int), 0, []⟩ := ⟨hll, hlx, (by decide : (0 : Nat) < 18446744073709551616), (by decide : (0 : Nat) < 18446744073709551616), (by decide : (0 : Nat) < 4611686018427387904), (fun y hy => by cases hy)⟩
    have hle : LeL (rqR (us l1) nilS ⟨17, 0, l1, 0, false, 0, ⟨#[]⟩, false, ⟨#[]⟩, 0, s2, s3, (wrp .i64 ((a4 : Nat) : Int)), 0, []⟩) (Rq.C ⟨17, 0, l1, 0, false, 0, ⟨#[]⟩, false, ⟨#[]⟩, 0, s2, s3, ((a4 : Nat) : Int), 0, []⟩) := by
      rw [w4]
      exact le_lac (b := true) (q := ⟨17, 0, l1, 0, false, 0, ⟨#[]⟩, false, ⟨#[]⟩, 0, s2, s3, ((a4 : Nat) : Int), 0, []⟩) (fun g => by cases g) rfl
    have hR := argsLe (cs := [.agg (rqR (us l1) nilS ⟨17, 0, l1, 0, false, 0, ⟨#[]⟩, false, ⟨#[]⟩, 0, s2, s3, (wrp .i64 ((a4 : Nat) : Int)), 0, []⟩)]) (ds := [.agg (Rq.C ⟨17, 0, l1, 0, false, 0, ⟨#[]⟩, false, ⟨#[]⟩, 0, s2, s3, ((a4 : Nat) : Int), 0, []⟩)]) ⟨fun X v hv => VR_agLe hle hv, True.intro⟩ (rr_ok _ hok)
    by_cases hz : t.size = 0
    · refine forkD (fun g => absurd (show (t.size : Int) > 0 from g) (by omega)) (fun _ => ?_)
      cases hb2 : rqB ⟨17, 0, l1, 0, false, 0, ⟨#[]⟩, false, ⟨#[]⟩, 0, s2, s3, ((a4 : Nat) : Int), 0, []⟩ with
      | true =>
        rw [hb2] at hR
        have hO2 : O = some ⟨17, 0, l1, 0, false, 0, ⟨#[]⟩, false, ⟨#[]⟩, 0, s2, s3, ((a4 : Nat) : Int), 0, []⟩ := by rw [hO]; exact if_pos ⟨hz, hb2⟩
        rw [hO2]
        refine callP hR rfl rfl ?_
        exact ⟨rfl, [], .tup [.agg (rqR (us l1) nilS ⟨17, 0, l1, 0, false, 0, ⟨#[]⟩, false, ⟨#[]⟩, 0, s2, s3, (wrp .i64 ((a4 : Nat) : Int)), 0, []⟩), bo true], ⟨⟨_, rfl, rfl⟩, True.intro, Nat.zero_le _, rfl⟩, rfl, _, hle, rfl⟩
      | false =>
        rw [hb2] at hR
        have hO2 : O = none := by rw [hO]; exact if_neg (fun hh => by rw [hb2] at hh; cases hh.2)
        rw [hO2]
        refine callP hR rfl rfl ?_
        exact ⟨rfl, [], .tup [.agg (rqR nilS nilS (q00 0)), bo false], ⟨⟨_, rfl, rfl⟩, True.intro, Nat.zero_le _, rfl⟩, rfl, _, le_zero, rfl⟩
    · have hO2 : O = none := by rw [hO]; exact if_neg (fun hh => hz hh.1)
      rw [hO2]
      refine forkD (fun _ => ?_) (fun g => absurd (show (t.size : Int) > 0 by omega) g)
      exact ⟨rfl, [], .tup [.agg (rqR nilS nilS (q00 0)), bo false], ⟨⟨_, rfl, rfl⟩, True.intro, Nat.zero_le _, rfl⟩, rfl, _, le_zero, rfl⟩
end Go.Proofs.Ytgchhmfobkcnfaa.A
