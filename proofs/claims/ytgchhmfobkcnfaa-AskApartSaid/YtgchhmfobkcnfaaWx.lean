/- wire: what is read is put as it was. No condition. -/
import Derived.Test.YtgchhmfobkcnfaaWt
namespace Go.Proofs.Ytgchhmfobkcnfaa.A
open Go
set_option linter.unusedVariables false
set_option linter.unusedSimpArgs false
set_option maxRecDepth 100000

theorem cntG_can : ∀ (b : List Nat) (i acc n k : Nat), (∀ x ∈ b, x < 256) → cntG b i acc = .ok n k → ∃ m, n = acc + m * 128 ^ i ∧ numN m = b.take (k - i) ∧ i < k ∧ (0 < i → 0 < m)
  | [], i, acc, n, k, _, h => by cases h
  | c :: r, i, acc, n, k, h256, h => by
    rw [cntG_cons] at h
    have hc := h256 c (List.mem_cons_self ..)
    split at h
    · cases h
    · split at h
      · rename_i h2
        split at h
        · cases h
        · rename_i h3
          cases h
          refine ⟨c, by rw [Nat.mod_eq_of_lt h2], ?_, by omega, by omega⟩
          rw [numN_lt h2, Nat.add_sub_cancel_left]
          rfl
      · rename_i h2
        obtain ⟨m, h3, h4, h5, h6⟩ := cntG_can r (i + 1) _ n k (fun x hx => h256 x (List.mem_cons_of_mem _ hx)) h
        have h6 := h6 (by omega)
        refine ⟨c % 128 + 128 * m, ?_, ?_, by omega, fun _ => by omega⟩
        · rw [h3, Nat.pow_succ, Nat.add_mul, Nat.add_assoc]
          congr 2
          rw [Nat.mul_comm (128 ^ i) 128, ← Nat.mul_assoc, Nat.mul_comm m 128]
        · rw [numN_ge (by omega), show (c % 128 + 128 * m) % 128 = c % 128 by omega, show (c % 128 + 128 * m) / 128 = m by omega, h4, show 128 + c % 128 = c by omega, show k - i = (k - (i + 1)) + 1 by omega]
          rfl
theorem cntP_can {s : ByteArray} {n k : Nat} (h : cntP (byL s) = .ok n k) : numN n = (byL s).take k := by
  obtain ⟨m, h1, h2, _, _⟩ := cntG_can (byL s) 0 0 n k (byL_lt s) h
  rw [Nat.pow_zero, Nat.mul_one, Nat.zero_add] at h1
  subst h1
  exact h2
theorem cntM_P {b : List Nat} {m n k : Nat} (h : cntM m b = .ok n k) : cntP b = .ok n k ∧ n ≤ m := by
  unfold cntM at h
  cases hc : cntP b with
  | err e => rw [hc] at h; cases h
  | ok a j =>
    rw [hc] at h
    dsimp only at h
    split at h
    · rename_i hm
      cases h
      exact ⟨rfl, hm⟩
    · cases h
theorem placeB_bitsW (b : Nat) : placeB (bitsB b) = placeB b := by
  cases h : nanB b with
  | false => rw [bitsB_eq h]
  | true =>
    have h1 : bitsB b = 9221120237041090561 := by unfold bitsB; rw [h]; rfl
    have h2 : nanB 9221120237041090561 = true := by decide +kernel
    rw [h1]
    unfold placeB
    rw [h, h2]
    rfl
theorem valB_front (s : ByteArray) : ∀ (n p : Nat), valB s p (n + 1) = octB s p * 256 ^ n + valB s (p + 1) n
  | 0, p => by
    show 0 * 256 + octB s (p + 0) = octB s p * 256 ^ 0 + 0
    rw [Nat.zero_mul, Nat.zero_add, Nat.add_zero, Nat.pow_zero, Nat.mul_one, Nat.add_zero]
  | n + 1, p => by
    show valB s p (n + 1) * 256 + octB s (p + (n + 1)) = octB s p * 256 ^ (n + 1) + (valB s (p + 1) n * 256 + octB s (p + 1 + n))
    rw [valB_front s n p, Nat.add_mul, Nat.mul_assoc, ← Nat.pow_succ, show p + 1 + n = p + (n + 1) by omega, Nat.add_assoc]
theorem beN_add (a t n : Nat) : ∀ m, m ≤ n → beN (a * 256 ^ n + t) m = beN t m
  | 0, _ => rfl
  | m + 1, h => by
    have ih := beN_add a t n m (by omega)
    have e : a * 256 ^ n = (a * 256 ^ (n - m - 1) * 256) * 256 ^ m := by
      rw [Nat.mul_assoc, Nat.mul_assoc, ← Nat.pow_succ', ← Nat.pow_add]
      congr 2
      omega
    show (a * 256 ^ n + t) / 256 ^ m % 256 :: beN (a * 256 ^ n + t) m = t / 256 ^ m % 256 :: beN t m
    rw [ih, e, Nat.add_comm _ t, Nat.add_mul_div_right _ _ (Nat.pow_pos (by decide)), Nat.add_mul_mod_self_right]
theorem beN_val (s : ByteArray) : ∀ (n p : Nat), p + n ≤ s.size → beN (valB s p n) n = ((byL s).drop p).take n
  | 0, p, _ => rfl
  | n + 1, p, h => by
    have hlt := valB_lt s (p + 1) n
    have ho := octB_lt s p
    rw [drop_oct (by omega), List.take_succ_cons, ← beN_val s n (p + 1) (by omega), valB_front]
    show (octB s p * 256 ^ n + valB s (p + 1) n) / 256 ^ n % 256 :: beN (octB s p * 256 ^ n + valB s (p + 1) n) n = _
    rw [beN_add _ _ n n (Nat.le_refl _), Nat.add_comm, Nat.add_mul_div_right _ _ (Nat.pow_pos (by decide)), Nat.div_eq_of_lt hlt, Nat.zero_add, Nat.mod_eq_of_lt ho]
theorem tags_can (s : ByteArray) : ∀ j, 1 + 8 * j ≤ s.size → (tagsB s j).flatMap be8 = ((byL s).drop 1).take (8 * j)
  | 0, _ => rfl
  | j + 1, h => by
    rw [tagsB, List.flatMap_append, tags_can s j (by omega), show 8 * (j + 1) = 8 * j + 8 by omega, List.take_add, List.drop_drop]
    congr 1
    rw [List.flatMap_cons, List.flatMap_nil, List.append_nil]
    exact beN_val s 8 (1 + 8 * j) (by omega)
theorem unpL_can {s : ByteArray} (h : (unpL s).e = 0) : packN (unpL s).l = (byL s).take (unpL s).n.toNat ∧ rightB (unpL s).l = true ∧ (unpL s).l.length ≤ 6 ∧ ∀ x ∈ (unpL s).l, x < 18446744073709551616 := by
  unfold unpL at h ⊢
  split at h
  · cases h
  · split at h
    · cases h
    · split at h
      · cases h
      · split at h
        · rename_i h1 h2 h3 h4
          rw [if_neg h1, if_neg h2, if_neg h3, if_pos h4]
          refine ⟨?_, h4, by show (tagsB s (octB s 0)).length ≤ 6; rw [tagsB_len]; omega, tagsB_lt s _⟩
          show (tagsB s (octB s 0)).length :: (tagsB s (octB s 0)).flatMap be8 = (byL s).take ((1 + 8 * octB s 0 : Nat) : Int).toNat
          rw [Int.toNat_natCast, tags_can s _ (by omega), tagsB_len, show 1 + 8 * octB s 0 = 8 * octB s 0 + 1 by omega]
          have := drop_oct (s := s) (i := 0) (by omega)
          rw [List.drop_zero] at this
          rw [this, List.take_succ_cons]
          rfl
        · cases h
theorem em_all {n : Nat} {s : ByteArray} {l : List Nat} {a b c : Bool} (h1 : a = true ∨ n = 0) (h2 : b = true ∨ s = emp) (h3 : c = true ∨ l = []) : emB n s l a b c = true :=
  (emB_k n s l a b c).2 ⟨h1, h2.imp id strEq_iff.2, h3.imp id List.length_eq_zero_iff.2⟩
theorem oneP_b (n : Nat) (s : ByteArray) (l : List Nat) : oneP 98 (.mk n s l []) = if emB n s l true false false = true ∧ n ≤ 255 then some [n] else none := rfl
theorem oneP_n (n : Nat) (s : ByteArray) (l : List Nat) : oneP 110 (.mk n s l []) = if emB n s l true false false = true then some (numN n) else none := rfl
theorem oneP_t (n : Nat) (s : ByteArray) (l : List Nat) : oneP 116 (.mk n s l []) = if emB n s l false true false = true ∧ s.size ≤ 200 then some (numN s.size ++ byL s) else none := rfl
theorem oneP_f (n : Nat) (s : ByteArray) (l : List Nat) : oneP 102 (.mk n s l []) = if emB n s l true false false = true ∧ bitsB n = n then some (keyN n) else none := rfl
theorem oneP_l (n : Nat) (s : ByteArray) (l : List Nat) : oneP 108 (.mk n s l []) = if emB n s l false false true = true ∧ rightB l = true then some (packN l) else none := rfl
theorem rd_can {c : Nat} (hc : isL c = true) {s : ByteArray} {x : It} {k : Nat} (h : rdP c s = .ok x k) : oneP c x = some ((byL s).take k) ∧ WI x := by
  rcases isL_5 hc with rfl | rfl | rfl | rfl | rfl
  · rw [rdP_b] at h
    split at h
    · cases h
    · rename_i h1
      cases h
      have ho := octB_lt s 0
      have hd := drop_oct (s := s) (i := 0) (by omega)
      rw [List.drop_zero] at hd
      refine ⟨?_, .mk _ _ _ _ (by omega) (by decide) (by simp) (by decide) (by decide) (by simp)⟩
      rw [oneP_b, if_pos ⟨em_all (.inl rfl) (.inr rfl) (.inr rfl), by omega⟩, hd]
      rfl
  · rw [rdP_n] at h
    cases hq : cntP (byL s) with
    | err e => rw [hq] at h; cases h
    | ok n j =>
      rw [hq] at h
      cases h
      refine ⟨?_, .mk _ _ _ _ (cntP_lt hq).1 (by decide) (by simp) (by decide) (by decide) (by simp)⟩
      rw [oneP_n, if_pos (em_all (.inl rfl) (.inr rfl) (.inr rfl)), cntP_can hq]
  · rw [rdP_t] at h
    cases hq : cntM 200 (byL s) with
    | err e => rw [hq] at h; cases h
    | ok n j =>
      rw [hq] at h
      obtain ⟨hp, hm⟩ := cntM_P hq
      dsimp only at h
      split at h
      · cases h
      · rename_i h1
        cases h
        have hz : ((rest s j).extract 0 n).size = n := by rw [ByteArray.size_extract, rest_size]; omega
        refine ⟨?_, .mk _ _ _ _ (by decide) (by decide) (by simp) (by omega) (by decide) (by simp)⟩
        rw [oneP_t, if_pos ⟨em_all (.inr rfl) (.inl rfl) (.inr rfl), by omega⟩, hz, cntP_can hp, extractB, List.drop_zero, rest_byL, ← List.take_add]
  · rw [rdP_f] at h
    split at h
    · cases h
    · split at h
      · rename_i h1 h2
        cases h
        have hz : (s.extract 0 8).size = 8 := by rw [ByteArray.size_extract]; omega
        have hv : valL (s.extract 0 8).data.toList ≤ 18437736874454810626 := by
          unfold ukE at h2
          rw [if_neg (by omega)] at h2
          split at h2
          · cases h2
          · omega
        have hU : ukB (s.extract 0 8) = atB (valL (s.extract 0 8).data.toList) := by unfold ukB; rw [if_pos h2]
        have hlt : ukB (s.extract 0 8) < 18446744073709551616 := by rw [hU]; exact atB_lt _ (by omega)
        have hk : keyN (bitsB (ukB (s.extract 0 8))) = (byL s).take 8 := by
          unfold keyN
          rw [placeB_bitsW, hU, placeB_atB hv, keyL_valL (by rw [listB]; exact hz)]
          have := extractB s 0 8
          rw [List.drop_zero] at this
          exact this
        refine ⟨?_, .mk _ _ _ _ (bitsB_lt hlt) (by decide) (by simp) (by decide) (by decide) (by simp)⟩
        rw [oneP_f, if_pos ⟨em_all (.inl rfl) (.inr rfl) (.inr rfl), bitsB_bitsB _⟩, hk]
      · cases h
  · rw [rdP_l] at h
    split at h
    · rename_i h1
      cases h
      obtain ⟨g1, g2, g3, g4⟩ := unpL_can h1
      refine ⟨?_, .mk _ _ _ _ (by decide) (by omega) g4 (by decide) (by decide) (by simp)⟩
      rw [oneP_l, if_pos ⟨em_all (.inr rfl) (.inr rfl) (.inl rfl), g2⟩, g1]
    · cases h
theorem kids_can {c : Nat} (hc : isL c = true) {s : ByteArray} : ∀ {j : Nat} {l : List It} {m : Nat}, kidsN c s j = .ok l m → catP c l = some ((byL s).take m) ∧ (∀ x ∈ l, WI x)
  | 0, l, m, h => by cases h; exact ⟨rfl, by simp⟩
  | j + 1, l, m, h => by
    cases hq : kidsN c s j with
    | err e => rw [show kidsN c s (j + 1) = _ from kidsN_err hq 1] at h; cases h
    | ok l2 m2 =>
      rw [kidsN_ok hq] at h
      obtain ⟨g1, g2⟩ := kids_can hc hq
      cases hr : rdP c (rest s m2) with
      | err e => rw [hr] at h; cases h
      | ok x k =>
        rw [hr] at h
        cases h
        obtain ⟨r1, r2⟩ := rd_can hc hr
        refine ⟨?_, fun y hy => ?_⟩
        · rw [catP_snoc, g1, r1, rest_byL, List.take_add]
          rfl
        · rcases List.mem_append.1 hy with hy | hy
          · exact g2 y hy
          · rw [List.mem_singleton.1 hy]; exact r2
theorem lst_can {c : Nat} (hc : isL c = true) {s : ByteArray} {x : It} {k : Nat} (h : lstP c s = .ok x k) : listP c x = some ((byL s).take k) ∧ WI x := by
  unfold lstP at h
  cases hq : cntM 64 (byL s) with
  | err e => rw [hq] at h; cases h
  | ok n j =>
    rw [hq] at h
    obtain ⟨hp, hm⟩ := cntM_P hq
    dsimp only at h
    cases hk : kidsN c (rest s j) n with
    | err e => rw [hk] at h; cases h
    | ok l m =>
      rw [hk] at h
      cases h
      have hl := kidsN_len hk
      obtain ⟨g1, g2⟩ := kids_can hc hk
      refine ⟨?_, .mk _ _ _ _ (by decide) (by decide) (by simp) (by decide) (by omega) g2⟩
      rw [listP_mk, if_pos ⟨em_all (.inr rfl) (.inr rfl) (.inr rfl), by omega⟩, g1, hl, cntP_can hp, rest_byL, List.take_add]
      rfl
theorem rd1_can {p : Nat × Bool} (hc : isL p.1 = true) {s : ByteArray} {x : It} {k : Nat} (h : rd1P p s = .ok x k) : one1 (p, x) = some ((byL s).take k) ∧ WI x := by
  obtain ⟨c, m⟩ := p
  cases m with
  | true => exact lst_can hc h
  | false => exact rd_can hc h
theorem begN_can {L : List (Nat × Bool)} {s : ByteArray} (hL : ∀ p ∈ L, isL p.1 = true) : ∀ {j : Nat} {l : List It} {m : Nat}, j ≤ L.length → begN L s j = .ok l m → catF one1 ((L.take j).zip l) = some ((byL s).take m) ∧ (∀ x ∈ l, WI x)
  | 0, l, m, _, h => by cases h; exact ⟨rfl, by simp⟩
  | j + 1, l, m, hj, h => by
    obtain ⟨p, hp⟩ : ∃ p, L[j]? = some p := ⟨_, List.getElem?_eq_getElem (by omega)⟩
    cases hq : begN L s j with
    | err e => rw [show begN L s (j + 1) = _ from begN_err hq 1] at h; cases h
    | ok l2 m2 =>
      rw [begN_ok hq hp] at h
      have hll := (begN_le (by omega) hq).2
      obtain ⟨g1, g2⟩ := begN_can hL (by omega) hq
      cases hr : rd1P p (rest s m2) with
      | err e => rw [hr] at h; cases h
      | ok x k =>
        rw [hr] at h
        cases h
        obtain ⟨r1, r2⟩ := rd1_can (hL p (List.mem_of_getElem? hp)) hr
        refine ⟨?_, fun y hy => ?_⟩
        · rw [take_snocA hp, List.zip_append (by rw [List.length_take]; omega), List.zip_cons_cons, List.zip_nil_left, catF_snoc, g1, r1, rest_byL, List.take_add]
          rfl
        · rcases List.mem_append.1 hy with hy | hy
          · exact g2 y hy
          · rw [List.mem_singleton.1 hy]; exact r2
/-- What is read is put as it was. -/
theorem beg_can {b : List Nat} {s : ByteArray} {l : List It} {m : Nat} (h : begP b s = .ok l m) : printS b l = some ((byL s).take m) ∧ l.length ≤ 40 ∧ ∀ x ∈ l, WI x := by
  unfold begP at h
  cases hL : shP b with
  | none => rw [hL] at h; cases h
  | some L =>
    rw [hL] at h
    replace h : begN L s L.length = .ok l m := h
    obtain ⟨g1, g2⟩ := begN_can (shP_isL hL) (Nat.le_refl _) h
    have hll := (begN_le (Nat.le_refl _) h).2
    have h40 := shP_len hL
    rw [List.take_length] at g1
    refine ⟨?_, by omega, g2⟩
    unfold printS
    rw [hL]
    show prtP L l = _
    unfold prtP
    rw [if_pos hll.symm, g1]
end Go.Proofs.Ytgchhmfobkcnfaa.A
