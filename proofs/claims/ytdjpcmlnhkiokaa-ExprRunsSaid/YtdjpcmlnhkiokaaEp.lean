/- expr: a program, as far as it goes, by the document. No condition. -/
import Derived.Test.YtdjpcmlnhkiokaaEo
namespace Go.Proofs.Ytdjpcmlnhkiokaa.A
open Go
set_option linter.unusedVariables false
set_option maxRecDepth 100000
set_option pp.maxSteps 1500

def fs (l : List Nat) : AV := .view l.length (l.map fl)
theorem frz_fs {H : Heap} {i n k : Nat} {l : List Nat} (h : nth H i = some (.row (l.map fl))) (hn : n = l.length) : frz H 0 (k + 2) (.slc i 0 n 1) = some (fs l) := by
  subst hn
  have hm : Nat.blt i 0 = false := by cases i <;> rfl
  have h1 : rdN H i 0 (l.length * 1) = some (l.map fl) := rdN_all h (by rw [List.length_map]; omega)
  have h2 : mapO (frz0 H 0 (k + 1)) (l.map fl) = some (l.map fl) := mapO_map (f := frz0 H 0 (k + 1)) (g := fl) (h := fl) (fun _ => rfl) l
  simp only [frz, frz0, hm, cond_false, h1, h2]
  rfl
theorem frz_fs2 {H : Heap} {n : Nat} {l : List Nat} (m : Int) (h : nth H 0 = some (.row (l.map fl))) (hn : n = l.length) : frz H 0 8 (mkR [.slc 0 0 n 1, i64 m]) = some (.tup [fs l, i64 m]) := by
  have a1 : frz H 0 7 (.slc 0 0 n 1) = some (fs l) := frz_fs (k := 5) h hn
  show (match mapO (frz H 0 7) [.slc 0 0 n 1, i64 m] with | some ds => some (AV.tup ds) | none => none) = _
  simp only [mapO, a1]
  rfl
structure TrSt (p : List (Int × Nat)) (x : Nat) where
  k : Nat
  s : List Nat
  hk : k ≤ p.length
  hs : stk s
  hr : runS x p [] = ((runS x (p.drop k) s).1, (runS x (p.drop k) s).2 + k)
theorem tr_step {p : List (Int × Nat)} {x k : Nat} {s : List Nat} {c : Int × Nat} (hc : p[k]? = some c) (hr : runS x p [] = ((runS x (p.drop k) s).1, (runS x (p.drop k) s).2 + k)) :
    (stepS c.1 c.2 x s = none → (runS x p []).1 = s ∧ (runS x p []).2 = k) ∧ ∀ t, stepS c.1 c.2 x s = some t → runS x p [] = ((runS x (p.drop (k + 1)) t).1, (runS x (p.drop (k + 1)) t).2 + (k + 1)) := by
  have hd : p.drop k = c :: p.drop (k + 1) := by
    obtain ⟨hi, rfl⟩ := List.getElem?_eq_some_iff.1 hc
    exact List.drop_eq_getElem_cons hi
  rw [hd] at hr
  refine ⟨fun h => ?_, fun t h => ?_⟩
  · rw [runS_none h] at hr
    rw [hr]
    exact ⟨rfl, Nat.zero_add k⟩
  · rw [runS_some h] at hr
    rw [hr]
    show (_, _ + 1 + k) = (_, _ + (k + 1))
    rw [Nat.add_assoc, Nat.add_comm 1 k]
theorem rTrace_ok (p : List (Int × Nat)) (x : Nat) (hx : x < 18446744073709551616) (hb : ∀ c ∈ p, c.2 < 18446744073709551616) (hl : p.length < 4611686018427387904) (hq : rightP p = true) : ACalls Try.prog 17 [.view p.length (flat cd p), fl x] [] (Ret (.tup [fs (runS x p []).1, i64 ((runS x p []).2 : Nat)])) := by
  have hok := (rightP_okC hq hb).1
  refine acalls_of_awpC [8] hT mixed Try.func17 rfl (by kernel_rfl) (by kernel_rfl) (Nat.le_of_ble_eq_true rfl) ?_
  refine loopI (α := TrSt p x) (fun z => [(0, .view p.length (flat cd p)), (1, fl x), (6, .slc 0 0 z.s.length 1), (7, i64 (z.k : Nat))]) (fun z => [.row (z.s.map fl)]) (fun z => p.length - z.k)
    ⟨0, [], Nat.zero_le _, ⟨Nat.zero_le _, fun b hb => by cases hb⟩, rfl⟩ [0] ⟨⟨rfl, rfl, rfl, rfl, True.intro⟩, ⟨.inl rfl, True.intro⟩, rfl, rfl, rfl⟩ ?_
  rintro ⟨k, s, hk, hs, hr⟩ K hK
  have hinc : wrp .i64 ((k : Int) + 1) = ((k + 1 : Nat) : Int) := by rw [wrpE, wi64]; omega
  refine forkD (fun h => ?_) (fun h => ?_)
  · have h' : k < p.length := by have : (k : Int) < (p.length : Int) := h; omega
    obtain ⟨c, hc⟩ : ∃ c, p[k]? = some c := ⟨_, List.getElem?_eq_getElem h'⟩
    have hcm := List.mem_of_getElem? hc
    have hcp := hok c hcm
    obtain ⟨d1, d2⟩ := tr_step hc hr
    have hown : c.1 = 2 → bitsB c.2 = c.2 := fun h2 => by
      unfold rightP at hq
      rw [Bool.and_eq_true] at hq
      have := List.all_eq_true.1 hq.1 c hcm
      unfold rightC at this
      rw [if_pos h2] at this
      have := beq_iff_eq.1 this
      omega
    have hi := (show (0 : Int) ≤ (k : Nat) ∧ ((k : Nat) : Int) < (p.length : Nat) by omega)
    have hop := cd_op hc
    have hbi := cd_bits hc
    have hN := needs_ok c.1
    have hf := float64frombits_ok (c.2 : Nat)
    have n8 := hs.1
    refine Ob.intro hi ?_
    refine optK_intro hop ?_
    have p2 := putsS_le c.1
    have t3 := takesS_le c.1
    have hfew := stepS_few (op := c.1) (own := c.2) (x := x) (l := s) (n := s.length) (Nat.le_refl _)
    rw [List.take_length] at hfew
    have hS := fun off k hk' hl' => rStep_ok c.1 c.2 x off k s hs.2 hk' hl' hcp.1 hx hown
    have hstep : ¬ (s.length < takesS c.1 ∨ 8 < s.length - takesS c.1 + putsS c.1) → stepS c.1 c.2 x s = (outS c.1 c.2 x (s.drop (s.length - takesS c.1))).map (s.take (s.length - takesS c.1) ++ ·) := fun h => if_neg h
    generalize hT : takesS c.1 = t at *
    generalize hU : putsS c.1 = u at *
    have e1 : t ≤ s.length → wrp .i64 (wrp .i64 ((s.length : Int) - (t : Int)) + (u : Int)) = ((s.length - t + u : Nat) : Int) := fun g => by rw [wrpE, wrpE, wi64, wi64]; omega
    refine callP hN rfl rfl ?_
    refine cutI (α := { _u : Unit // ¬ (s.length < t ∨ 8 < s.length - t + u) }) (fun _ => [(0, .view p.length (flat cd p)), (1, fl x), (6, .slc 0 0 s.length 1), (7, i64 (k : Nat)), (8, i64 (t : Nat))]) (fun _ => [.row (s.map fl)]) [] (fun K2 hK2 => ?_) (fun bz => ?_)
    · refine forkD (fun g => ?_) (fun g => ?_)
      · have g' : s.length < t := by have : (s.length : Int) < (t : Int) := g; omega
        have hst := hfew (.inl g')
        refine endG rfl rfl (frz_fs2 (H := [.row (s.map fl)]) (l := s) _ rfl rfl) (G := []) True.intro (Nat.zero_le _) rfl ⟨by rw [(d1 hst).1, (d1 hst).2], rfl⟩
      · have g' : ¬ s.length < t := by have : ¬ (s.length : Int) < (t : Int) := g; omega
        refine forkD (fun g2 => ?_) (fun g2 => ?_)
        · have g2' : 8 < s.length - t + u := by
            have : (8 : Int) < wrp .i64 (wrp .i64 ((s.length : Int) - (t : Int)) + (u : Int)) := g2
            rw [e1 (by omega)] at this
            omega
          have hst := hfew (.inr g2')
          refine endG rfl rfl (frz_fs2 (H := [.row (s.map fl)]) (l := s) _ rfl rfl) (G := []) True.intro (Nat.zero_le _) rfl ⟨by rw [(d1 hst).1, (d1 hst).2], rfl⟩
        · have g2' : ¬ 8 < s.length - t + u := by
            have : ¬ (8 : Int) < wrp .i64 (wrp .i64 ((s.length : Int) - (t : Int)) + (u : Int)) := g2
            rw [e1 (by omega)] at this
            omega
          exact hK2 ⟨(), by omega⟩ [] [0] _ ⟨⟨rfl, rfl, rfl, rfl, rfl, True.intro⟩, ⟨.inl (by rw [renO_fl]; rfl), True.intro⟩, rfl, rfl, rfl⟩
    · have bz' : ¬ (s.length < t ∨ 8 < s.length - t + u) := bz.2
      have hw : wrp .i64 ((s.length : Int) - (t : Int)) = ((s.length - t : Nat) : Int) := by rw [wrpE, wi64]; omega
      have hsl : (0 : Int) ≤ wrp .i64 ((s.length : Int) - (t : Int)) ∧ wrp .i64 ((s.length : Int) - (t : Int)) ≤ (s.length : Int) ∧ (s.length : Int) ≤ (s.length : Int) := by rw [hw]; omega
      have hoff : 0 + (wrp .i64 ((s.length : Int) - (t : Int))).toNat * 1 = s.length - t := by rw [hw]; omega
      have hkk : (s.length : Int).toNat - (wrp .i64 ((s.length : Int) - (t : Int))).toNat = t := by rw [hw]; omega
      have hC := hS (0 + (wrp .i64 ((s.length : Int) - (t : Int))).toNat * 1) ((s.length : Int).toNat - (wrp .i64 ((s.length : Int) - (t : Int))).toNat) hkk (by rw [hoff]; omega)
      have hst := hstep bz'
      have htk : (s.drop (0 + (wrp .i64 ((s.length : Int) - (t : Int))).toNat * 1)).take t = s.drop (s.length - t) := by rw [hoff, List.take_of_length_le (by rw [List.length_drop]; omega)]
      rw [htk] at hC
      refine ⟨[0, 0, 0, 0, 0, 0, 0, 0, 0, 0, 1, 0, 0, 0, 0, 0, 0, 0, 2, 2, 2, 2, 2, 2], [[], [], [0, 1], [0, 1, 2], [0, 1, 2, 3], [], [], [5, 6], [5, 6, 7], [5, 6, 7, 8], [5, 6, 7, 8, 9], [], [], [], [13], [], [13, 14, 15], [12, 13, 14, 15, 16], [0, 1, 2, 3, 4, 5, 6, 7, 8, 9, 10, 11, 12, 13, 14, 15, 16, 17], [0, 1, 2, 3, 4, 5, 6, 7, 8, 9, 10, 11, 12, 13, 14, 15, 16, 17, 18], [0, 1, 2, 3, 4, 5, 6, 7, 8, 9, 10, 11, 12, 13, 14, 15, 16, 17, 18, 19], [0, 1, 2, 3, 4, 5, 6, 7, 8, 9, 10, 11, 12, 13, 14, 15, 16, 17, 18, 19], [0, 1, 2, 3, 4, 5, 6, 7, 8, 9, 10, 11, 12, 13, 14, 15, 16, 17, 18, 19, 20], [0, 1, 2, 3, 4, 5, 6, 7, 8, 9, 10, 11, 12, 13, 14, 15, 16, 17, 18, 19, 20, 21, 22]], [0, 0, 0, 0, 0, 0, 0, 0, 0, 0, 0, 0, 0, 0, 0, 0, 0, 0, 0, 0, 0, 0, 0, 0], [10, 18], [[0], [7], [44, 45], [46], [47], [0], [7], [49, 50], [51], [52], [53], [1], [6], [6], [57], [8], [58, 59], [56, 60], [48, 54, 55, 61], [62], [43], [43], [63], [64]], Ob.intro (by kernel_rfl) ?_⟩
      repeat first | refine same ?_ | refine Ob.intro hi ?_ | refine optK_intro hop ?_ | refine optK_intro hbi ?_ | refine Ob.intro hsl ?_
      refine callP hf rfl rfl ?_
      repeat first | refine same ?_ | refine Ob.intro hi ?_ | refine optK_intro hop ?_ | refine optK_intro hbi ?_ | refine Ob.intro hsl ?_
      refine callS hC [0] ⟨.inl (by rw [renO_fl]; rfl), True.intro⟩ rfl ?_
      intro E G hR _
      cases ho : outS c.1 c.2 x (s.drop (s.length - t)) with
      | none =>
        rw [ho] at hR hst
        obtain ⟨j, n, rfl, rfl⟩ := hR
        refine ⟨_, [.row (s.map fl)], rfl, by simp only [renH, renO_fl]; rfl, ?_⟩
        repeat first | refine same ?_ | refine Ob.intro hi ?_ | refine optK_intro hop ?_ | refine optK_intro hbi ?_ | refine Ob.intro hsl ?_
        refine endG rfl rfl (frz_fs2 (H := [.row (s.map fl)]) (l := s) _ rfl rfl) (G := []) True.intro (Nat.zero_le _) rfl ⟨by rw [(d1 hst).1, (d1 hst).2], rfl⟩
      | some o =>
        rw [ho] at hR hst
        replace hst : stepS c.1 c.2 x s = some (s.take (s.length - t) ++ o) := hst
        have hstk := (stepS_stk hcp.1 hcp.2 hx hs hst).1
        have hnew : ∀ G : Heap, rdN (.row (s.map fl) :: G) 0 (0 + (0 : Int).toNat * 1) (((wrp .i64 ((s.length : Int) - (t : Int))).toNat - (0 : Int).toNat) * 1) = some ((s.take (s.length - t)).map fl) := fun G => by
          rw [show ((wrp .i64 ((s.length : Int) - (t : Int))).toNat - (0 : Int).toNat) * 1 = s.length - t by rw [hw]; show (s.length - t - 0) * 1 = _; omega]
          rw [rdN_eq (cs := s.map fl) rfl (by rw [List.length_map]; show 0 + 0 * 1 + _ ≤ _; omega), List.map_take]
          rfl
        have hsl2 : (0 : Int) ≤ 0 ∧ 0 ≤ wrp .i64 ((s.length : Int) - (t : Int)) ∧ wrp .i64 ((s.length : Int) - (t : Int)) ≤ (s.length : Int) := by rw [hw]; omega
        have hW : (wrp .i64 ((s.length : Int) - (t : Int))).toNat - (0 : Int).toNat = s.length - t := by rw [hw]; rfl
        have h8 := hstk.1
        rw [List.length_append, List.length_take] at h8
        have hcap1 : (0 + ((wrp .i64 ((s.length : Int) - (t : Int))).toNat - (0 : Int).toNat)) * 8 ≤ 140737488355328 ∧ 0 + ((wrp .i64 ((s.length : Int) - (t : Int))).toNat - (0 : Int).toNat) ≤ 9223372036854775807 := by rw [hW]; omega
        have hcap2 : (0 + ((wrp .i64 ((s.length : Int) - (t : Int))).toNat - (0 : Int).toNat) + o.length) * 8 ≤ 140737488355328 ∧ 0 + ((wrp .i64 ((s.length : Int) - (t : Int))).toNat - (0 : Int).toNat) + o.length ≤ 9223372036854775807 := by rw [hW]; omega
        have hlen : ∀ q : Nat, AV.slc q 0 (0 + ((wrp .i64 ((s.length : Int) - (t : Int))).toNat - (0 : Int).toNat) + o.length) 1 = .slc q 0 (s.take (s.length - t) ++ o).length 1 := fun q => by
          rw [hW, List.length_append, List.length_take]
          congr 1
          omega
        have hrow : ∀ r, AObj.row (([] ++ (s.take (s.length - t)).map fl) ++ o.map fl) = renO r (.row ((s.take (s.length - t) ++ o).map fl)) := fun r => by
          rw [renO_fl, List.map_append]
          rfl
        rcases hR with ⟨rfl, rfl⟩ | ⟨j, rfl, rfl, hj1, hj2⟩
        · refine ⟨_, [.row (s.map fl), .row (o.map fl)], rfl, by simp only [renH, renO_fl]; rfl, ?_⟩
          repeat first | refine same ?_ | refine Ob.intro hi ?_ | refine optK_intro hop ?_ | refine optK_intro hbi ?_ | refine Ob.intro hsl ?_
          refine Ob.intro hsl2 ?_
          refine optK_intro (hnew [.row (o.map fl), .row []]) ?_
          refine Ob.intro (allC_fl _) ?_
          refine Ob.intro hcap1 ?_
          have ho1 : rdN [.row (s.map fl), .row (o.map fl), .dead, .row ([] ++ (s.take (s.length - t)).map fl)] 1 0 (o.length * 1) = some (o.map fl) := rdN_all rfl (by rw [List.length_map]; omega)
          have ho2 : rdN [.row (s.map fl), .row (o.map fl), .dead, .row ([] ++ (s.take (s.length - t)).map fl)] 3 0 ((0 + ((wrp .i64 ((s.length : Int) - (t : Int))).toNat - (0 : Int).toNat)) * 1) = some ([] ++ (s.take (s.length - t)).map fl) := rdN_all rfl (by rw [hW, List.nil_append, List.length_map, List.length_take]; omega)
          refine optK_intro ho1 ?_
          refine Ob.intro (allC_fl _) ?_
          refine optK_intro ho2 ?_
          refine Ob.intro hcap2 ?_
          exact hK ⟨k + 1, s.take (s.length - t) ++ o, by omega, hstk, d2 _ hst⟩ [4] _ (show p.length - k = p.length - (k + 1) + 1 by omega) ⟨⟨rfl, rfl, hlen 4, congrArg i64 hinc, True.intro⟩, ⟨.inl (congrArg some (hrow _)), True.intro⟩, rfl, rfl, rfl⟩
        · refine ⟨_, [.row (s.map fl)], rfl, by simp only [renH, renO_fl]; rfl, ?_⟩
          repeat first | refine same ?_ | refine Ob.intro hi ?_ | refine optK_intro hop ?_ | refine optK_intro hbi ?_ | refine Ob.intro hsl ?_
          refine Ob.intro hsl2 ?_
          refine optK_intro (hnew [.row []]) ?_
          refine Ob.intro (allC_fl _) ?_
          refine Ob.intro hcap1 ?_
          have ho1 : rdN [.row (s.map fl), .dead, .row ([] ++ (s.take (s.length - t)).map fl)] 0 j (o.length * 1) = some (o.map fl) := by
            rw [Nat.mul_one, rdN_eq (cs := s.map fl) rfl (by rw [List.length_map]; exact hj2), ← List.map_drop, ← List.map_take, hj1]
          have ho2 : rdN [.row (s.map fl), .dead, .row ([] ++ (s.take (s.length - t)).map fl)] 2 0 ((0 + ((wrp .i64 ((s.length : Int) - (t : Int))).toNat - (0 : Int).toNat)) * 1) = some ([] ++ (s.take (s.length - t)).map fl) := rdN_all rfl (by rw [hW, List.nil_append, List.length_map, List.length_take]; omega)
          refine optK_intro ho1 ?_
          refine Ob.intro (allC_fl _) ?_
          refine optK_intro ho2 ?_
          refine Ob.intro hcap2 ?_
          exact hK ⟨k + 1, s.take (s.length - t) ++ o, by omega, hstk, d2 _ hst⟩ [3] _ (show p.length - k = p.length - (k + 1) + 1 by omega) ⟨⟨rfl, rfl, hlen 3, congrArg i64 hinc, True.intro⟩, ⟨.inl (congrArg some (hrow _)), True.intro⟩, rfl, rfl, rfl⟩
  · have h' : k = p.length := by have : ¬ (k : Int) < (p.length : Int) := h; omega
    subst h'
    rw [List.drop_length] at hr
    have e1 : (runS x p []).1 = s := by rw [hr]; rfl
    have e2 : (runS x p []).2 = p.length := by rw [hr]; exact Nat.zero_add _
    refine endG rfl rfl (frz_fs2 (H := [.row (s.map fl)]) (l := s) _ rfl rfl) (G := []) True.intro (Nat.zero_le _) rfl ⟨by rw [e1, e2], rfl⟩
end Go.Proofs.Ytdjpcmlnhkiokaa.A
