/- ask: a program is read. No condition. -/
import Derived.Test.YtgchhmfobkcnfaaSq
namespace Go.Proofs.Ytgchhmfobkcnfaa.A
open Go
set_option linter.unusedVariables false
set_option linter.unusedSimpArgs false
set_option maxRecDepth 100000
set_option pp.maxSteps 400

theorem sh_1nn : shP [110, 110] = some [(110, false), (110, false)] := by decide
/-- A step of a program that bytes begin with; some of them. -/
def ccP (t : ByteArray) : Option ((Int × Nat) × Nat) := match begP [110, 110] t with
  | .ok [.mk a _ _ _, .mk b _ _ _] m => if a ≤ 2147483647 then some ((((a : Nat) : Int), b), m) else none
  | _ => none
def csP : Nat → ByteArray → Option (List (Int × Nat) × Nat)
  | 0, _ => some ([], 0)
  | n + 1, t => match ccP t with
    | some (x, m) => (csP n (rest t m)).map fun r => (x :: r.1, m + r.2)
    | none => none
def fd9 (q : Rq) (t : ByteArray) : Option (Rq × Nat) := match smP t with
  | some (n, m) => if n ≤ 32 then (csP n (rest t m)).map fun r => ({ q with c := r.1 }, m + r.2) else none
  | none => none
def Fd9R (q : Rq) (o : Option (Rq × Nat)) (t : ByteArray) : AEnd → Heap → Prop := fun E G => match o with
  | some (q', m) => E = .ret (.tup []) ∧ G = [.row [str (rest t m)], .row (rqR nilS (.slc 2 0 q'.c.length 2) q'), .row (flat cd q'.c)]
  | none => E = .pan sbadV ∧ ∃ ca Gs, ((ca = nilS ∧ Gs = []) ∨ ∃ L : List (Int × Nat), ca = .slc 2 0 L.length 2 ∧ Gs = [.row (flat cd L)]) ∧ G = .dead :: .row (rqR nilS ca q) :: Gs
theorem renO_cd (r : Nat → Nat) (L : List (Int × Nat)) : renO r (.row (flat cd L)) = .row (flat cd L) := renO_flat (fun _ _ => rfl) r L
structure CsSt (t : ByteArray) (n : Nat) (O : Option (List (Int × Nat) × Nat)) where
  j : Nat
  L : List (Int × Nat)
  p : Nat
  hj : j + L.length = n
  eq : O = (csP j (rest t p)).map fun r => (L ++ r.1, p + r.2)
theorem field_9 (q : Rq) (t : ByteArray) (hq : q.c = []) (ht : t.size ≤ 1000000) : ACalls Try.prog 59 [.ptr 0 0, .ptr 1 0, i64 9] [.row [str t], .row (rqR nilS nilS q)] (Fd9R q (fd9 q t) t) := by
  have hc := spart_ok ⟨#[110]⟩ t (by decide) ht
  rw [show byL ⟨#[110]⟩ = [110] from rfl] at hc
  obtain ⟨k, w, l, g', m, r', key, vn, vt, vb, fr, tt, lim, n, c⟩ := q
  dsimp only at hq
  subst hq
  unfold fd9 smP
  dsimp only
  cases hp : begP [110] t with
  | err e =>
    rw [hp] at hc
    cases m <;> cases vn <;>
    · refine acalls_of_awp hT mixed Try.func59 rfl (by kernel_rfl) (by kernel_rfl) (Nat.le_of_ble_eq_true rfl) ?_
      refine callS hc [0] ⟨.inl rfl, True.intro⟩ rfl ?_
      rintro E G ⟨rfl, rfl⟩ _
      refine ⟨_, _, rfl, rfl, ?_⟩
      exact ⟨rfl, [.dead, .row (rqR nilS nilS ⟨k, w, l, g', _, r', key, _, vt, vb, fr, tt, lim, n, []⟩)], ⟨.inl rfl, .inl rfl, True.intro⟩, Nat.le_refl 2, rfl, rfl, nilS, [], .inl ⟨rfl, rfl⟩, rfl⟩
  | ok L0 j0 =>
    rw [hp] at hc
    have hl := begP_length sh_1n hp
    match L0, hl with
    | [.mk x s l1 k1], _ =>
      dsimp only
      have h0 : (0 : Int) ≤ 0 ∧ (0 : Int) < ((1 : Nat) : Int) := by omega
      by_cases hx : x ≤ 2147483647
      · rw [if_pos hx]
        have hs := ssmall_ok x s l1 k1 hx
        dsimp only
        by_cases hx2 : x ≤ 32
        · rw [if_pos hx2]
          obtain ⟨O, hO⟩ : ∃ O, O = (csP x (rest t j0)).map fun r => (r.1, j0 + r.2) := ⟨_, rfl⟩
          rw [show (csP x (rest t j0)).map (fun r => (Rq.mk k w l g' m r' key vn vt vb fr tt lim n r.1, j0 + r.2)) = O.map fun r => (Rq.mk k w l g' m r' key vn vt vb fr tt lim n r.1, r.2) by rw [hO]; cases csP x (rest t j0) <;> rfl]
          cases m <;> cases vn <;>
          · refine acalls_of_awp hT mixed Try.func59 rfl (by kernel_rfl) (by kernel_rfl) (Nat.le_of_ble_eq_true rfl) ?_
            refine callS hc [0] ⟨.inl rfl, True.intro⟩ rfl ?_
            rintro E G ⟨rfl, rfl⟩ _
            refine ⟨_, _, rfl, rfl, ?_⟩
            refine Ob.intro h0 ?_
            refine callP hs rfl rfl ?_
            refine forkD (fun _ => ?_) (fun g => absurd (show ((x : Nat) : Int) ≤ 32 by omega) g)
            refine callP smust_yes rfl rfl ?_
            refine loopG (α := CsSt t x O) (fun z => [(0, .ptr 0 0), (1, .ptr 1 0), (117, i64 (x : Nat)), (118, i64 (z.L.length : Nat))]) (fun z => [.row [str (rest t z.p)], .row (rqR nilS (.slc 2 0 z.L.length 2) ⟨k, w, l, g', _, r', key, _, vt, vb, fr, tt, lim, n, []⟩), .row (flat cd z.L)]) [] (fun z => z.j) ⟨x, [], j0, rfl, by rw [hO]; cases csP x (rest t j0) <;> simp⟩ [.cell 1 14 2] [0, 1, 2] ⟨⟨rfl, rfl, rfl, rfl, True.intro⟩, ⟨.inl rfl, .inl rfl, .inl rfl, True.intro⟩, rfl, rfl, rfl⟩ ?_
            rintro ⟨j, L, p, hj, eq⟩ K hK
            dsimp only at hj eq ⊢
            have hbl : belowL 3 (flat cd L) = true := belowL_flat (fun _ => rfl) L
            refine forkD (fun g => ?_) (fun g => ?_)
            · obtain ⟨j, rfl⟩ : ∃ i, j = i + 1 := ⟨j - 1, by have : (L.length : Int) < (x : Int) := g; omega⟩
              have hw := spart_ok ⟨#[110, 110]⟩ (rest t p) (by decide) (by rw [rest_size]; omega)
              rw [show byL ⟨#[110, 110]⟩ = [110, 110] from rfl] at hw
              unfold csP ccP at eq
              cases hbp : begP [110, 110] (rest t p) with
              | err e =>
                rw [hbp] at hw eq
                rw [show O = none from eq]
                refine callS hw [0] ⟨.inl rfl, True.intro⟩ rfl ?_
                rintro E G ⟨rfl, rfl⟩ _
                refine ⟨_, [.dead, .row (rqR nilS (.slc 2 0 L.length 2) ⟨k, w, l, g', _, r', key, _, vt, vb, fr, tt, lim, n, []⟩), .row (flat cd L)], rfl, by simp only [renH, renO_cd]; rfl, ?_⟩
                exact ⟨rfl, [.dead, .row (rqR nilS (.slc 2 0 L.length 2) ⟨k, w, l, g', _, r', key, _, vt, vb, fr, tt, lim, n, []⟩), .row (flat cd L)], ⟨.inl rfl, .inl rfl, .inl rfl, True.intro⟩, Nat.le_of_ble_eq_true rfl, by show (_ && (_ && (belowL 3 (flat cd L) && true))) = true; rw [hbl]; rfl, rfl, _, _, .inr ⟨_, rfl, rfl⟩, rfl⟩
              | ok L1 j1 =>
                rw [hbp] at hw eq
                have hl2 := begP_length sh_1nn hbp
                match L1, hl2 with
                | [.mk xa sa la ka, .mk xb sb lb kb], _ =>
                  have i0 : (0 : Int) ≤ 0 ∧ (0 : Int) < ((2 : Nat) : Int) := by omega
                  have i1 : (0 : Int) ≤ 1 ∧ (1 : Int) < ((2 : Nat) : Int) := by omega
                  have hob : (L.length + 1) * 16 ≤ 140737488355328 ∧ L.length + 1 ≤ 9223372036854775807 := by omega
                  by_cases hxa : xa ≤ 2147483647
                  · have hsa := ssmall_ok xa sa la ka hxa
                    refine callS hw [0] ⟨.inl rfl, True.intro⟩ rfl ?_
                    rintro E G ⟨rfl, rfl⟩ _
                    refine ⟨_, [.row [str (rest t (p + j1))], .row (rqR nilS (.slc 2 0 L.length 2) ⟨k, w, l, g', _, r', key, _, vt, vb, fr, tt, lim, n, []⟩), .row (flat cd L)], rfl, by rw [rest_rest]; show [_, _, _] = _; simp only [renH, renO_cd]; rfl, ?_⟩
                    refine ⟨[0, 0, 0, 0, 0, 0, 0, 0, 1, 0, 0, 0, 0, 1, 1, 2, 2, 2, 3], [[], [], [1], [1, 2], [1, 2, 3], [], [5], [5, 6], [5, 6, 7], [], [9], [9, 10], [9, 10, 11], [5, 6, 7, 8, 9, 10, 11, 12], [5, 6, 7, 8, 9, 10, 11, 12, 13], [1, 2, 3, 4, 5, 6, 7, 8, 9, 10, 11, 12, 13, 14], [0, 1, 2, 3, 4, 5, 6, 7, 8, 9, 10, 11, 12, 13, 14, 15], [0, 1, 2, 3, 4, 5, 6, 7, 8, 9, 10, 11, 12, 13, 14, 15, 16], [0, 1, 2, 3, 4, 5, 6, 7, 8, 9, 10, 11, 12, 13, 14, 15, 16, 17]], [0, 0, 0, 0, 0, 0, 0, 0, 0, 0, 0, 0, 0, 0, 0, 1, 1, 1, 1], [8, 15, 18], [[1], [1], [123], [124], [125], [8], [127], [128], [129], [8], [131], [132], [133], [130, 134], [135], [126, 136], [122], [138], [139, 137]], Ob.intro (by kernel_rfl) ?_⟩
                    repeat first | refine same ?_ | refine Ob.intro i0 ?_ | refine Ob.intro i1 ?_
                    refine callP hsa rfl rfl ?_
                    repeat first | refine same ?_ | refine Ob.intro i0 ?_ | refine Ob.intro i1 ?_
                    refine Ob.intro rfl ?_
                    refine optK_intro (rdN_all (cs := flat cd L) rfl (by rw [flat_len cd_len])) ?_
                    refine Ob.intro hob ?_
                    repeat first | refine same ?_ | refine Ob.intro i0 ?_ | refine Ob.intro i1 ?_
                    dsimp only at eq
                    rw [if_pos hxa] at eq
                    dsimp only at eq
                    rw [rest_rest] at eq
                    refine hK ⟨j, L ++ [((xa : Int), xb)], p + j1, by rw [List.length_append]; simp only [List.length_cons, List.length_nil]; omega, by rw [eq]; cases csP j (rest t (p + j1)) <;> simp [Nat.add_assoc]⟩ [] [0, 1, 4] _ rfl ⟨⟨rfl, rfl, rfl, ?_, True.intro⟩, ⟨.inl rfl, .inl ?_, .inl ?_, True.intro⟩, rfl, rfl, rfl⟩
                    · have hinc : wrp .i64 ((L.length : Int) + 1) = ((L.length + 1 : Nat) : Int) := by rw [wrpE, wi64]; omega
                      rw [show (L ++ [((xa : Int), xb)]).length = L.length + 1 by simp]
                      exact congrArg i64 hinc
                    · rw [show (L ++ [((xa : Int), xb)]).length = L.length + 1 by simp]
                      have hwa : ∀ z : Int, z = (xa : Int) → z = (xa : Int) := fun _ h => h
                      rfl
                    · show some (AObj.row (flat cd L ++ cd ((xa : Int), xb))) = some (renO _ (.row (flat cd (L ++ [_]))))
                      rw [renO_cd, flat_append]
                      rfl
                  · have hsa := ssmall_no xa sa la ka hxa
                    dsimp only at eq
                    rw [if_neg hxa] at eq
                    rw [show O = none from eq]
                    refine callS hw [0] ⟨.inl rfl, True.intro⟩ rfl ?_
                    rintro E G ⟨rfl, rfl⟩ _
                    refine ⟨_, [.row [str (rest t (p + j1))], .row (rqR nilS (.slc 2 0 L.length 2) ⟨k, w, l, g', _, r', key, _, vt, vb, fr, tt, lim, n, []⟩), .row (flat cd L)], rfl, by rw [rest_rest]; show [_, _, _] = _; simp only [renH, renO_cd]; rfl, ?_⟩
                    refine ⟨[0, 0, 0, 0, 0, 0, 0, 0, 1, 0, 0, 0, 0, 1, 1, 2, 2, 2, 3], [[], [], [1], [1, 2], [1, 2, 3], [], [5], [5, 6], [5, 6, 7], [], [9], [9, 10], [9, 10, 11], [5, 6, 7, 8, 9, 10, 11, 12], [5, 6, 7, 8, 9, 10, 11, 12, 13], [1, 2, 3, 4, 5, 6, 7, 8, 9, 10, 11, 12, 13, 14], [0, 1, 2, 3, 4, 5, 6, 7, 8, 9, 10, 11, 12, 13, 14, 15], [0, 1, 2, 3, 4, 5, 6, 7, 8, 9, 10, 11, 12, 13, 14, 15, 16], [0, 1, 2, 3, 4, 5, 6, 7, 8, 9, 10, 11, 12, 13, 14, 15, 16, 17]], [0, 0, 0, 0, 0, 0, 0, 0, 0, 0, 0, 0, 0, 0, 0, 1, 1, 1, 1], [8, 15, 18], [[1], [1], [123], [124], [125], [8], [127], [128], [129], [8], [131], [132], [133], [130, 134], [135], [126, 136], [122], [138], [139, 137]], Ob.intro (by kernel_rfl) ?_⟩
                    repeat first | refine same ?_ | refine Ob.intro i0 ?_ | refine Ob.intro i1 ?_
                    refine callBad hsa rfl ?_
                    exact ⟨rfl, [.dead, .row (rqR nilS (.slc 2 0 L.length 2) ⟨k, w, l, g', _, r', key, _, vt, vb, fr, tt, lim, n, []⟩), .row (flat cd L)], ⟨.inr rfl, .inl rfl, .inl rfl, True.intro⟩, Nat.le_of_ble_eq_true rfl, by show (_ && (_ && (belowL 3 (flat cd L) && true))) = true; rw [hbl]; rfl, rfl, _, _, .inr ⟨_, rfl, rfl⟩, rfl⟩
            · have hj0 : j = 0 := by have : ¬ (L.length : Int) < (x : Int) := g; omega
              subst hj0
              rw [show O = some (L, p) by rw [eq]; simp [csP]]
              exact ⟨rfl, [.row [str (rest t p)], .row (rqR nilS (.slc 2 0 L.length 2) ⟨k, w, l, g', _, r', key, _, vt, vb, fr, tt, lim, n, L⟩), .row (flat cd L)], .tup [], ⟨⟨_, rfl, rfl⟩, ⟨.inl rfl, .inl rfl, .inl rfl, True.intro⟩, Nat.le_of_ble_eq_true rfl, by show (_ && (_ && (belowL 3 (flat cd L) && true))) = true; rw [hbl]; rfl⟩, rfl, rfl⟩
        · rw [if_neg hx2]
          cases m <;> cases vn <;>
          · refine acalls_of_awp hT mixed Try.func59 rfl (by kernel_rfl) (by kernel_rfl) (Nat.le_of_ble_eq_true rfl) ?_
            refine callS hc [0] ⟨.inl rfl, True.intro⟩ rfl ?_
            rintro E G ⟨rfl, rfl⟩ _
            refine ⟨_, _, rfl, rfl, ?_⟩
            refine Ob.intro h0 ?_
            refine callP hs rfl rfl ?_
            refine forkD (fun g => absurd (show ((x : Nat) : Int) ≤ 32 from g) (by omega)) (fun _ => ?_)
            refine callBad smust_no rfl ?_
            exact ⟨rfl, [.dead, .row (rqR nilS nilS ⟨k, w, l, g', _, r', key, _, vt, vb, fr, tt, lim, n, []⟩)], ⟨.inr rfl, .inl rfl, True.intro⟩, Nat.le_refl 2, rfl, rfl, nilS, [], .inl ⟨rfl, rfl⟩, rfl⟩
      · rw [if_neg hx]
        have hs := ssmall_no x s l1 k1 hx
        cases m <;> cases vn <;>
        · refine acalls_of_awp hT mixed Try.func59 rfl (by kernel_rfl) (by kernel_rfl) (Nat.le_of_ble_eq_true rfl) ?_
          refine callS hc [0] ⟨.inl rfl, True.intro⟩ rfl ?_
          rintro E G ⟨rfl, rfl⟩ _
          refine ⟨_, _, rfl, rfl, ?_⟩
          refine Ob.intro h0 ?_
          refine callBad hs rfl ?_
          exact ⟨rfl, [.dead, .row (rqR nilS nilS ⟨k, w, l, g', _, r', key, _, vt, vb, fr, tt, lim, n, []⟩)], ⟨.inr rfl, .inl rfl, True.intro⟩, Nat.le_refl 2, rfl, rfl, nilS, [], .inl ⟨rfl, rfl⟩, rfl⟩
end Go.Proofs.Ytgchhmfobkcnfaa.A
