/- record: what is read has these bytes. No condition. -/
import Derived.Test.YtkbpddejafdmdaaGreatRy
namespace Go.Proofs.YtkbpddejafdmdaaGreat.A
open Go
set_option linter.unusedVariables false
set_option linter.unusedSimpArgs false
set_option maxRecDepth 100000
set_option pp.maxSteps 400

theorem oneP98_inv {n : Nat} {s : ByteArray} {l : List Nat} {k : List It} {b : List Nat} (h : oneP 98 (.mk n s l k) = some b) : b = [n] ∧ n ≤ 255 := by
  rw [oneP_mk] at h
  split at h
  · rw [if_pos rfl] at h
    split at h
    · rename_i hh
      cases h
      exact ⟨rfl, hh.2⟩
    · cases h
  · cases h
theorem oneP110_inv {n : Nat} {s : ByteArray} {l : List Nat} {k : List It} {b : List Nat} (h : oneP 110 (.mk n s l k) = some b) : b = numN n := by
  rw [oneP_mk] at h
  split at h
  · rw [if_neg (by decide), if_pos rfl] at h
    split at h
    · cases h; rfl
    · cases h
  · cases h
theorem oneP116_inv {n : Nat} {s : ByteArray} {l : List Nat} {k : List It} {b : List Nat} (h : oneP 116 (.mk n s l k) = some b) : b = numN s.size ++ byL s := by
  rw [oneP_mk] at h
  split at h
  · rw [if_neg (by decide), if_neg (by decide), if_pos rfl] at h
    split at h
    · cases h; rfl
    · cases h
  · cases h
theorem cat2_inv {x y : Option (List Nat)} {b : List Nat} (h : cat2 x y = some b) : ∃ u v, x = some u ∧ y = some v ∧ b = u ++ v := by
  cases x with
  | none => cases h
  | some u =>
    cases y with
    | none => cases h
    | some v => cases h; exact ⟨u, v, rfl, rfl, rfl⟩
theorem can_bn {t : ByteArray} {a : Nat} {s1 : ByteArray} {l1 : List Nat} {k1 : List It} {q : Nat} {s2 : ByteArray} {l2 : List Nat} {k2 : List It} {m : Nat} (h : begP [98, 110] t = .ok [.mk a s1 l1 k1, .mk q s2 l2 k2] m) : (byL t).take m = a :: numN q := by
  have hp := (beg_can h).1
  unfold printS at hp
  rw [sh_bn] at hp
  replace hp : cat2 (oneP 98 (.mk a s1 l1 k1)) (cat2 (oneP 110 (.mk q s2 l2 k2)) (some [])) = some ((byL t).take m) := hp
  obtain ⟨u, v, h1, h2, h3⟩ := cat2_inv hp
  obtain ⟨u2, v2, h4, h5, h6⟩ := cat2_inv h2
  cases h5
  rw [h3, h6, (oneP98_inv h1).1, oneP110_inv h4]
  simp
theorem can_btt {t : ByteArray} {a : Nat} {s1 : ByteArray} {l1 : List Nat} {k1 : List It} {n2 : Nat} {s2 : ByteArray} {l2 : List Nat} {k2 : List It} {n3 : Nat} {s3 : ByteArray} {l3 : List Nat} {k3 : List It} {m : Nat} (h : begP [98, 116, 116] t = .ok [.mk a s1 l1 k1, .mk n2 s2 l2 k2, .mk n3 s3 l3 k3] m) : (byL t).take m = a :: (numN s2.size ++ byL s2 ++ (numN s3.size ++ byL s3)) := by
  have hp := (beg_can h).1
  unfold printS at hp
  rw [sh_btt] at hp
  replace hp : cat2 (oneP 98 (.mk a s1 l1 k1)) (cat2 (oneP 116 (.mk n2 s2 l2 k2)) (cat2 (oneP 116 (.mk n3 s3 l3 k3)) (some []))) = some ((byL t).take m) := hp
  obtain ⟨u, v, h1, h2, h3⟩ := cat2_inv hp
  obtain ⟨u2, v2, h4, h5, h6⟩ := cat2_inv h2
  obtain ⟨u3, v3, h7, h8, h9⟩ := cat2_inv h5
  cases h8
  rw [h3, h6, h9, (oneP98_inv h1).1, oneP116_inv h4, oneP116_inv h7]
  simp
theorem can_ntt {t : ByteArray} {a : Nat} {s1 : ByteArray} {l1 : List Nat} {k1 : List It} {n2 : Nat} {s2 : ByteArray} {l2 : List Nat} {k2 : List It} {n3 : Nat} {s3 : ByteArray} {l3 : List Nat} {k3 : List It} {m : Nat} (h : begP [110, 116, 116] t = .ok [.mk a s1 l1 k1, .mk n2 s2 l2 k2, .mk n3 s3 l3 k3] m) : (byL t).take m = numN a ++ (numN s2.size ++ byL s2 ++ (numN s3.size ++ byL s3)) := by
  have hp := (beg_can h).1
  unfold printS at hp
  rw [sh_ntt] at hp
  replace hp : cat2 (oneP 110 (.mk a s1 l1 k1)) (cat2 (oneP 116 (.mk n2 s2 l2 k2)) (cat2 (oneP 116 (.mk n3 s3 l3 k3)) (some []))) = some ((byL t).take m) := hp
  obtain ⟨u, v, h1, h2, h3⟩ := cat2_inv hp
  obtain ⟨u2, v2, h4, h5, h6⟩ := cat2_inv h2
  obtain ⟨u3, v3, h7, h8, h9⟩ := cat2_inv h5
  cases h8
  rw [h3, h6, h9, oneP110_inv h1, oneP116_inv h4, oneP116_inv h7]
  simp
theorem can_nn {t : ByteArray} {a : Nat} {s1 : ByteArray} {l1 : List Nat} {k1 : List It} {b : Nat} {s2 : ByteArray} {l2 : List Nat} {k2 : List It} {m : Nat} (h : begP [110, 110] t = .ok [.mk a s1 l1 k1, .mk b s2 l2 k2] m) : (byL t).take m = numN a ++ numN b := by
  have hp := (beg_can h).1
  unfold printS at hp
  rw [sh_nn] at hp
  replace hp : cat2 (oneP 110 (.mk a s1 l1 k1)) (cat2 (oneP 110 (.mk b s2 l2 k2)) (some [])) = some ((byL t).take m) := hp
  obtain ⟨u, v, h1, h2, h3⟩ := cat2_inv hp
  obtain ⟨u2, v2, h4, h5, h6⟩ := cat2_inv h2
  cases h5
  rw [h3, h6, oneP110_inv h1, oneP110_inv h4]
  simp
theorem can_g {t : ByteArray} {a : Nat} {s1 : ByteArray} {l1 : List Nat} {k1 : List It} {b : Nat} {s2 : ByteArray} {l2 : List Nat} {k2 : List It} {c : Nat} {s3 : ByteArray} {l3 : List Nat} {k3 : List It} {d : Nat} {s4 : ByteArray} {l4 : List Nat} {k4 : List It} {e : Nat} {s5 : ByteArray} {l5 : List Nat} {k5 : List It} {m : Nat} (h : begP [98, 110, 110, 110, 98] t = .ok [.mk a s1 l1 k1, .mk b s2 l2 k2, .mk c s3 l3 k3, .mk d s4 l4 k4, .mk e s5 l5 k5] m) : (byL t).take m = a :: (numN b ++ (numN c ++ (numN d ++ [e]))) := by
  have hp := (beg_can h).1
  unfold printS at hp
  rw [sh_g] at hp
  replace hp : cat2 (oneP 98 (.mk a s1 l1 k1)) (cat2 (oneP 110 (.mk b s2 l2 k2)) (cat2 (oneP 110 (.mk c s3 l3 k3)) (cat2 (oneP 110 (.mk d s4 l4 k4)) (cat2 (oneP 98 (.mk e s5 l5 k5)) (some []))))) = some ((byL t).take m) := hp
  obtain ⟨u, v, h1, h2, h3⟩ := cat2_inv hp
  obtain ⟨u2, v2, h4, h5, h6⟩ := cat2_inv h2
  obtain ⟨u3, v3, h7, h8, h9⟩ := cat2_inv h5
  obtain ⟨u4, v4, h10, h11, h12⟩ := cat2_inv h8
  obtain ⟨u5, v5, h13, h14, h15⟩ := cat2_inv h11
  cases h14
  rw [h3, h6, h9, h12, h15, (oneP98_inv h1).1, oneP110_inv h4, oneP110_inv h7, oneP110_inv h10, (oneP98_inv h13).1]
  simp
theorem hd_can {kind : Nat} {s : ByteArray} {q m : Nat} (h : hdP kind s = some (q, m)) : (byL s).take m = kind :: numN q ∧ octB s 0 = kind ∧ m ≤ s.size := by
  have hm := (hdP_le h).1
  rw [hd_bn] at h
  cases hp : begP [98, 110] s with
  | err e => rw [hp] at h; cases h
  | ok l j =>
    rw [hp] at h
    have hl := begP_length sh_bn hp
    match l, hl, h, hp with
    | [.mk a _ _ _, .mk b _ _ _], _, h, hp =>
      dsimp only at h
      split at h
      · rename_i hh
        cases h
        rw [← hh.1]
        exact ⟨can_bn hp, (beg_first sh_bn hp).1.symm, hm⟩
      · cases h
theorem wr_can {t : ByteArray} {w : Wt} {m : Nat} (h : wrP t = some (w, m)) : wtB w = (byL t).take m ∧ w.b < 18446744073709551616 := by
  rw [wrP_I] at h
  cases hp : begP [98, 116, 116] t with
  | err e => rw [hp] at h; cases h
  | ok l j =>
    rw [hp] at h
    have hl := begP_length sh_btt hp
    match l, hl, h, hp with
    | [.mk g _ _ _, .mk _ k _ _, .mk _ v _ _], _, h0, hp =>
      have hc := can_btt hp
      have h : Option.map (fun x => (x, j)) (if g ≤ 1 then (if g = 1 then (if v.size = 0 then some (Wt.mk k true false nilT 0) else none) else if (upV v).2.2.2 = 0 then some (Wt.mk k false (upV v).1 (upV v).2.1 (upV v).2.2.1) else none) else none) = some (w, m) := h0
      clear h0
      split at h
      · split at h
        · rename_i hg
          split at h
          · rename_i hv
            cases h
            rw [hc, hg, sizeB_zero hv]
            exact ⟨rfl, (by decide : (0 : Nat) < 18446744073709551616)⟩
          · cases h
        · split at h
          · rename_i hg1 hg he
            cases h
            rw [hc, show g = 0 by omega]
            generalize hu : upV v = u at *
            obtain ⟨n, t, b, e⟩ := u
            dsimp only at he ⊢
            subst he
            obtain ⟨r1, r2, r3⟩ := up_right hu
            refine ⟨?_, r1⟩
            show bN false :: (numN k.size ++ byL k ++ (numN (packV n t b).size ++ byL (packV n t b))) = _
            rw [r3]
            rfl
          · cases h
      · cases h
theorem en_can {t : ByteArray} {w : En} {m : Nat} (h : enP t = some (w, m)) : enB w = (byL t).take m ∧ w.b < 18446744073709551616 := by
  rw [enP_I] at h
  cases hp : begP [110, 116, 116] t with
  | err e => rw [hp] at h; cases h
  | ok l j =>
    rw [hp] at h
    have hl := begP_length sh_ntt hp
    match l, hl, h, hp with
    | [.mk a _ _ _, .mk _ k _ _, .mk _ v _ _], _, h0, hp =>
      have hc := can_ntt hp
      have h : Option.map (fun x => (x, j)) (if a ≤ 1073741824 then (if (upV v).2.2.2 = 0 then some (En.mk k (a : Nat) (upV v).1 (upV v).2.1 (upV v).2.2.1) else none) else none) = some (w, m) := h0
      clear h0
      split at h
      · split at h
        · rename_i he
          cases h
          rw [hc]
          generalize hu : upV v = u at *
          obtain ⟨n, t, b, e⟩ := u
          dsimp only at he ⊢
          subst he
          obtain ⟨r1, r2, r3⟩ := up_right hu
          refine ⟨?_, r1⟩
          show numN ((a : Nat) : Int).toNat ++ (numN k.size ++ byL k ++ (numN (packV n t b).size ++ byL (packV n t b))) = _
          rw [r3]
          rfl
        · cases h
      · cases h
theorem pr_can {t : ByteArray} {w : Nat × Nat} {m : Nat} (h : prP t = some (w, m)) : prB w = (byL t).take m := by
  unfold prP at h
  cases hp : begP [110, 110] t with
  | err e => rw [hp] at h; cases h
  | ok l j =>
    rw [hp] at h
    have hl := begP_length sh_nn hp
    match l, hl, h, hp with
    | [.mk a _ _ _, .mk b _ _ _], _, h, hp =>
      cases h
      exact (can_nn hp).symm
theorem many_can {α : Type} {rd : ByteArray → Option (α × Nat)} {B : α → List Nat} {Q : α → Prop} (h : ∀ {t x m}, rd t = some (x, m) → B x = (byL t).take m ∧ Q x) : ∀ {n : Nat} {s : ByteArray} {L : List α}, manyP rd n s = some L → L.flatMap B = byL s ∧ ∀ x ∈ L, Q x
  | 0, s, L, hh => by
    by_cases hz : s.size = 0
    · rw [manyP_end hz] at hh
      cases hh
      exact ⟨(List.eq_nil_of_length_eq_zero (by rw [byL_len]; exact hz)).symm, fun x hx => by cases hx⟩
    · rw [show manyP rd 0 s = none from if_neg hz] at hh; cases hh
  | n + 1, s, L, hh => by
    by_cases hz : s.size = 0
    · rw [manyP_end hz] at hh
      cases hh
      exact ⟨(List.eq_nil_of_length_eq_zero (by rw [byL_len]; exact hz)).symm, fun x hx => by cases hx⟩
    · cases hr : rd s with
      | none => rw [manyP_none hz hr] at hh; cases hh
      | some xm =>
        obtain ⟨x, m⟩ := xm
        rw [manyP_some hz hr] at hh
        cases hq : manyP rd n (rest s m) with
        | none => rw [hq] at hh; cases hh
        | some r =>
          rw [hq] at hh
          cases hh
          obtain ⟨h1, h2⟩ := many_can h hq
          obtain ⟨h3, h4⟩ := h hr
          refine ⟨?_, fun y hy => ?_⟩
          · rw [List.flatMap_cons, h1, h3, rest_byL, List.take_append_drop]
          · rcases List.mem_cons.1 hy with rfl | hy
            · exact h4
            · exact h2 y hy
theorem unc_can {s : ByteArray} {q : Nat} {L : List Wt} (h : uncP s = some (q, L)) : BA (cmB q L) = s ∧ 1 ≤ q ∧ q ≤ 1073741824 ∧ mayW L = true ∧ (∀ w ∈ L, w.b < 18446744073709551616) ∧ octB s 0 = 1 := by
  unfold uncP at h
  cases hp : hdP 1 s with
  | none => rw [hp] at h; cases h
  | some qm =>
    obtain ⟨q', m⟩ := qm
    rw [hp] at h
    obtain ⟨h1, h2, h3⟩ := hd_can hp
    have hq := (hdP_le hp).2
    dsimp only at h
    cases hm : manyP wrP (rest s m).size (rest s m) with
    | none => rw [hm] at h; cases h
    | some L' =>
      rw [hm] at h
      dsimp only at h
      split at h
      · rename_i hh
        cases h
        obtain ⟨h4, h5⟩ := many_can (Q := fun w => w.b < 18446744073709551616) wr_can hm
        refine ⟨?_, hh.1, hq, hh.2, h5, h2⟩
        unfold cmB
        rw [h4, rest_byL, show 1 :: (numN q ++ (byL s).drop m) = (1 :: numN q) ++ (byL s).drop m from rfl, ← h1, List.take_append_drop, BA_byL]
      · cases h
theorem unb_can {s : ByteArray} {q : Nat} {L : List En} (h : unbP s = some (q, L)) : BA (bsB q L) = s ∧ basedB (q : Int) L = true ∧ (∀ w ∈ L, w.b < 18446744073709551616) ∧ octB s 0 = 2 ∧ L.length ≤ s.size := by
  unfold unbP at h
  cases hp : hdP 2 s with
  | none => rw [hp] at h; cases h
  | some qm =>
    obtain ⟨q', m⟩ := qm
    rw [hp] at h
    obtain ⟨h1, h2, h3⟩ := hd_can hp
    dsimp only at h
    cases hm : manyP enP (rest s m).size (rest s m) with
    | none => rw [hm] at h; cases h
    | some L' =>
      rw [hm] at h
      dsimp only at h
      split at h
      · rename_i hh
        cases h
        obtain ⟨h4, h5⟩ := many_can (Q := fun w => w.b < 18446744073709551616) en_can hm
        have hc : ∀ (L : List En), L.length ≤ (L.flatMap enB).length := by
          intro L
          induction L with
          | nil => exact Nat.le_refl _
          | cons w L ih =>
            have : 0 < (enB w).length := by
              unfold enB
              rw [numN]
              split <;> simp
            rw [List.flatMap_cons, List.length_append, List.length_cons]
            omega
        refine ⟨?_, hh, h5, h2, ?_⟩
        · unfold bsB
          rw [h4, rest_byL, show 2 :: (numN q ++ (byL s).drop m) = (2 :: numN q) ++ (byL s).drop m from rfl, ← h1, List.take_append_drop, BA_byL]
        · have := hc L
          rw [h4, byL_len, rest_size] at this
          omega
      · cases h
theorem unr_can {s : ByteArray} {q : Nat} {g : Rg} (h : unrP s = some (q, g)) : BA (rgB q g) = s ∧ Loads (q : Nat) (plusL g) (minusL g) ∧ octB s 0 = 5 := by
  unfold unrP at h
  cases hp : hdP 5 s with
  | none => rw [hp] at h; cases h
  | some qm =>
    obtain ⟨q', m⟩ := qm
    rw [hp] at h
    obtain ⟨h1, h2, h3⟩ := hd_can hp
    dsimp only at h
    cases hm : manyP prP (rest s m).size (rest s m) with
    | none => rw [hm] at h; cases h
    | some L' =>
      rw [hm] at h
      dsimp only at h
      split at h
      · rename_i hh
        cases h
        obtain ⟨h4, h5⟩ := many_can (Q := fun _ => True) (fun hx => ⟨pr_can hx, True.intro⟩) hm
        refine ⟨?_, @of_decide_eq_true _ (Classical.propDecidable _) hh, h2⟩
        unfold rgB
        rw [h4, rest_byL, show 5 :: (numN q ++ (byL s).drop m) = (5 :: numN q) ++ (byL s).drop m from rfl, ← h1, List.take_append_drop, BA_byL]
      · cases h
theorem und_can {s : ByteArray} {d : Dd2} (h : undP s = some d) : BA d.B = s ∧ d.ok ∧ (octB s 0 = 4 ∨ octB s 0 = 3) := by
  by_cases h4 : octB s 0 = 4
  · rw [undP_4 s h4] at h
    cases hp : begP [98, 110] s with
    | err e => rw [hp] at h; cases h
    | ok l m =>
      rw [hp] at h
      have hl := begP_length sh_bn hp
      match l, hl, h, hp with
      | [.mk a _ _ _, .mk b _ _ _], _, h, hp =>
        have hf := (beg_first sh_bn hp).1
        have hc := can_bn hp
        dsimp only at h
        split at h
        · rename_i hh
          cases h
          refine ⟨?_, ⟨hh.2, fun h => by cases h⟩, .inl h4⟩
          show BA (4 :: numN b) = s
          rw [← h4, ← hf, ← hc, hh.1, ← byL_len, List.take_length, BA_byL]
        · cases h
  · rw [undP_R s h4] at h
    unfold undR at h
    cases hp : begP [98, 110, 110, 110, 98] s with
    | err e => rw [hp] at h; cases h
    | ok l m =>
      rw [hp] at h
      have hl := begP_length sh_g hp
      match l, hl, h, hp with
      | [.mk a _ _ _, .mk b _ _ _, .mk c _ _ _, .mk d _ _ _, .mk e _ _ _], _, h, hp =>
        have hf := (beg_first sh_g hp).1
        have hc := can_g hp
        dsimp only at h
        split at h
        · rename_i hh
          obtain ⟨ha, hb, hcc, hd1, hd2, he, hm⟩ := hh
          cases h
          refine ⟨?_, ⟨hb, fun _ => ⟨hcc, hd1, hd2⟩⟩, .inr (by omega)⟩
          have hbe : bN (decide (e = 1)) = e := by
            by_cases h1 : e = 1
            · rw [h1]; rfl
            · rw [decide_eq_false h1]; show 0 = e; omega
          show BA (3 :: (numN b ++ (numN c ++ (numN d ++ [bN (decide (e = 1))])))) = s
          rw [hbe, ← ha, ← hc, hm, ← byL_len, List.take_length, BA_byL]
        · cases h
end Go.Proofs.YtkbpddejafdmdaaGreat.A
