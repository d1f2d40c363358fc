/- Statements whose order is open: the passes. No condition. -/
import Derived.Test.YtpjjfcgmckpboaaAmD4
namespace Go.Proofs.Ytpjjfcgmckpboaa.A
open Go
set_option linter.unusedVariables false
set_option linter.unusedSimpArgs false

/-- Operation j yields what F says, and leaves H. -/
def QG (T : Tab) (E : DE) (j : Nat) (o : Oper) (F : Fr) (H : Heap) : Prop := ∃ v, runQ T E j o F H (fun u G => u = v ∧ G = H) ∧ ∀ t, o.dst = some t → v = F t
theorem writer_some : ∀ {os : List Oper} {k t i : Nat}, writer os k t = some i → k ≤ i ∧ ∃ o, nth os (i - k) = some o ∧ o.dst = some t
  | [], _, _, _, h => by simp [writer] at h
  | o :: os, k, t, i, h => by
    simp only [writer] at h
    have rec_ : writer os (k + 1) t = some i → k ≤ i ∧ ∃ q, nth (o :: os) (i - k) = some q ∧ q.dst = some t := fun h => by
      obtain ⟨h1, q, h2, h3⟩ := writer_some h
      refine ⟨by omega, q, ?_, h3⟩
      rw [show i - k = (i - (k + 1)) + 1 by omega]
      exact h2
    split at h
    · rename_i d hd
      cases hb : Nat.beq d t with
      | false => simp only [hb, cond_false] at h; exact rec_ h
      | true =>
        simp only [hb, cond_true, Option.some.injEq] at h
        subst h
        refine ⟨Nat.le_refl _, o, by simp [nth], ?_⟩
        rw [hd, Nat.eq_of_beq_eq_true hb]
    · exact rec_ h
theorem writer_none : ∀ {os : List Oper} {k t : Nat}, writer os k t = none → ∀ i o, nth os i = some o → o.dst ≠ some t
  | [], _, _, _, i, o, h => by simp [nth] at h
  | x :: os, k, t, hw, i, o, ho => by
    simp only [writer] at hw
    have rec_ : writer os (k + 1) t = none → x.dst ≠ some t → o.dst ≠ some t := fun h hx => by
      cases i with
      | zero => simp only [nth, Option.some.injEq] at ho; subst ho; exact hx
      | succ i => exact writer_none h i o ho
    split at hw
    · rename_i d hd
      cases hb : Nat.beq d t with
      | true => simp [hb] at hw
      | false =>
        simp only [hb, cond_false] at hw
        refine rec_ hw fun he => ?_
        rw [hd] at he
        cases he
        simp at hb
    · rename_i hd
      exact rec_ hw (by rw [hd]; simp)
theorem writer_at {E : DE} (hc : CK E) {t i w : Nat} {o : Oper} (ho : nth E.ops i = some o) (hd : o.dst = some t) (hw : writer E.ops 0 t = some w) : w = i := by
  obtain ⟨_, q, h1, h2⟩ := writer_some hw
  rw [Nat.sub_zero] at h1
  rcases Nat.decEq w i with h | h
  · exact absurd h2 (hc.uniq i o w q t ho h1 (Ne.symm h) hd)
  · exact h
theorem writer_is {E : DE} (hc : CK E) {t i : Nat} {o : Oper} (ho : nth E.ops i = some o) (hd : o.dst = some t) : writer E.ops 0 t = some i := by
  cases hw : writer E.ops 0 t with
  | none => exact absurd hd (writer_none hw i o ho)
  | some w => rw [writer_at hc ho hd hw]
theorem anc_lt {E : DE} (hc : CK E) : ∀ (i : Nat) (o : Oper), nth E.ops i = some o → ∀ p, bits (getL E.am i) p = true → p < i := by
  intro i
  induction i using Nat.strongRecOn with
  | _ i ih =>
    intro o ho p hp
    rcases hc.am i o p ho hp with h | ⟨q, h, h'⟩
    · exact hc.lt i o ho p h
    · have hq := hc.lt i o ho q h
      have hqo : ∃ x, nth E.ops q = some x := by
        have := nth_lt ho
        exact ⟨E.ops[q], by rw [nth_eq]; exact List.getElem?_eq_getElem (by omega)⟩
      obtain ⟨x, hx⟩ := hqo
      exact Nat.lt_trans (ih q hq x hx p h') hq
/-- Two frames that agree on what stands ahead are seen alike. -/
theorem opF_congr {E : DE} {F F' : Fr} {j : Nat} {o : Oper} (h : ∀ t w, writer E.ops 0 t = some w → bits (getL E.am j) w = true → F t = F' t) : opF E F j o = opF E F' j o := by
  funext t
  unfold opF
  cases hl : (getL E.lk j).any (Nat.beq t) with
  | false => rfl
  | true =>
    simp only [cond_true]
    cases hw : writer E.ops 0 t with
    | none => rfl
    | some w =>
      simp only
      cases hb : bits (getL E.am j) w with
      | false => rfl
      | true => simp only [cond_true]; exact h t w hw hb
theorem p1 {T : Tab} {E : DE} (hc : CK E) {k : Nat} {C : Fr → Heap → Prop} : ∀ (os : List Oper) (j : Nat) (F : Fr) (H : Heap), (∀ i, nth os i = nth E.ops (j + i)) → pass1 T E k C os j F H →
    ∃ F' H', C F' H' ∧ (∀ t, (∀ i o, j ≤ i → nth E.ops i = some o → o.dst = some t → effB o = true ∨ getN E.lv i ≠ k) → F' t = F t) ∧ H'.length = H.length ∧
      (∀ m, (∀ i o, nth E.ops i = some o → allocB o = true → effB o = false → getN E.lv i = k → slotAt E i ≠ m) → H'[m]? = H[m]?) ∧
      (∀ i o, j ≤ i → nth E.ops i = some o → effB o = false → getN E.lv i = k → freeB o = true → QG T E i o F' H')
  | [], j, F, H, hos, h => ⟨F, H, h, fun _ _ => rfl, rfl, fun _ _ => rfl, fun i o hj ho _ _ _ => by
      have := hos (i - j)
      rw [show j + (i - j) = i by omega, ho] at this
      simp [nth] at this⟩
  | o :: os, j, F, H, hos, h => by
    have h0 : nth E.ops j = some o := by
      have := hos 0
      rw [Nat.add_zero] at this
      rw [← this]
      simp [nth]
    have hos' : ∀ i, nth os i = nth E.ops (j + 1 + i) := fun i => by
      have := hos (i + 1)
      rw [show j + (i + 1) = j + 1 + i by omega] at this
      rw [← this]
      simp [nth]
    simp only [pass1] at h
    split at h
    · rename_i hb
      obtain ⟨F', H', h1, h2, h3, h4, h5⟩ := p1 hc os (j + 1) F H hos' h
      refine ⟨F', H', h1, fun t ht => h2 t fun i o hi => ht i o (by omega), h3, h4, fun i q hi hq he hl hf => ?_⟩
      rcases Nat.lt_or_ge j i with h6 | h6
      · exact h5 i q h6 hq he hl hf
      · have : i = j := by omega
        subst this
        rw [h0] at hq
        cases hq
        rw [he, hl] at hb
        simp at hb
    · rename_i hb
      simp only [Bool.or_eq_false_iff, Bool.not_eq_false'] at hb
      have hlv := Nat.eq_of_beq_eq_true hb.2
      obtain ⟨v, H1, hk, hH1, hpt⟩ := runQ_pt h
      have hk := forceH_elim (force_elim hk)
      have hlen : H1.length = H.length := by
        rcases hH1 with rfl | ⟨ob, rfl⟩
        · rfl
        · simp
      have hset : allocB o = false → H1 = H := fun ha => runQ_na ha hpt
      have hold : ∀ m, (allocB o = true → slotAt E j ≠ m) → H1[m]? = H[m]? := fun m hm => by
        cases ha : allocB o with
        | false => rw [hset ha]
        | true =>
          rcases hH1 with rfl | ⟨ob, rfl⟩
          · rfl
          · rw [List.getElem?_set_ne (hm ha)]
      obtain ⟨F1, hF1, hk⟩ : ∃ F1 : Fr, (∀ t, F1 t = (match o.dst with | some d => bif Nat.beq t d then v else F t | none => F t)) ∧ pass1 T E k C os (j + 1) F1 H1 := by
        split at hk
        · rename_i t hd
          exact ⟨_, fun t' => by rw [hd]; rfl, hk⟩
        · rename_i hd
          exact ⟨_, fun t' => by rw [hd], hk⟩
      have hF1' : ∀ t, o.dst ≠ some t → F1 t = F t := fun t ht => by
        rw [hF1]
        cases hd : o.dst with
        | none => rfl
        | some d =>
          simp only
          cases hq : Nat.beq t d with
          | false => rfl
          | true => exact absurd (by rw [hd, Nat.eq_of_beq_eq_true hq]) ht
      obtain ⟨F', H', h1, h2, h3, h4, h5⟩ := p1 hc os (j + 1) F1 H1 hos' hk
      refine ⟨F', H', h1, fun t ht => ?_, h3.trans hlen, fun m hm => ?_, fun i q hi hq he hl hf => ?_⟩
      · rw [h2 t fun i o hi => ht i o (by omega)]
        refine hF1' t fun hd => ?_
        rcases ht j o (Nat.le_refl _) h0 hd with h6 | h6
        · rw [hb.1] at h6; cases h6
        · exact h6 hlv
      · rw [h4 m hm]
        exact hold m fun ha => hm j o h0 ha hb.1 hlv
      · rcases Nat.lt_or_ge j i with h6 | h6
        · exact h5 i q h6 hq he hl hf
        · have : i = j := by omega
          subst this
          rw [h0] at hq
          cases hq
          have hH := hset (free_alloc hf)
          subst hH
          have hop : opF E F i o = opF E F' i o := opF_congr fun t w hw hbit => by
            have hwl := anc_lt hc i o h0 w hbit
            have hd : o.dst ≠ some t := fun hd => by
              have := writer_at hc h0 hd hw
              omega
            rw [h2 t fun i' o' hi' ho' hd' => by
              have := writer_at hc ho' hd' hw
              omega, hF1' t hd]
          refine ⟨v, runQ_free hf hop hpt, fun t hd => ?_⟩
          rw [h2 t fun i' o' hi' ho' hd' => by
            have h7 := writer_is hc h0 hd
            have := writer_at hc ho' hd' h7
            omega, hF1, hd]
          simp
theorem p2 {T : Tab} {E : DE} {k : Nat} {done : List Nat} {F : Fr} {H : Heap} {K : Prop} : ∀ (os : List Oper) (j : Nat), (∀ i, nth os i = nth E.ops (j + i)) → pass2 T E k done F H K os j →
    K ∧ ∀ i o, j ≤ i → nth E.ops i = some o → effB o = false → freeB o = false → getN E.lv i ≤ k → openB E done i = true → QG T E i o F H
  | [], j, hos, h => ⟨h, fun i o hj ho _ _ _ _ => by
      have := hos (i - j)
      rw [show j + (i - j) = i by omega, ho] at this
      simp [nth] at this⟩
  | o :: os, j, hos, h => by
    have h0 : nth E.ops j = some o := by
      have := hos 0
      rw [Nat.add_zero] at this
      rw [← this]
      simp [nth]
    have hos' : ∀ i, nth os i = nth E.ops (j + 1 + i) := fun i => by
      have := hos (i + 1)
      rw [show j + (i + 1) = j + 1 + i by omega] at this
      rw [← this]
      simp [nth]
    simp only [pass2] at h
    split at h
    · rename_i hb
      obtain ⟨h1, h2⟩ := p2 os (j + 1) hos' h
      refine ⟨h1, fun i q hi hq he hf hl ho => ?_⟩
      rcases Nat.lt_or_ge j i with h6 | h6
      · exact h2 i q h6 hq he hf hl ho
      · have : i = j := by omega
        subst this
        rw [h0] at hq
        cases hq
        rw [he, hf, ho, Nat.ble_eq.mpr hl] at hb
        simp at hb
    · rename_i hb
      obtain ⟨v, H1, hk, _, hpt⟩ := runQ_pt h
      split at hk
      · rename_i t hd
        obtain ⟨⟨h1, h2⟩, h3⟩ := hk
        subst h2
        obtain ⟨h4, h5⟩ := p2 os (j + 1) hos' h3
        refine ⟨h4, fun i q hi hq he hf hl ho => ?_⟩
        rcases Nat.lt_or_ge j i with h6 | h6
        · exact h5 i q h6 hq he hf hl ho
        · have : i = j := by omega
          subst this
          rw [h0] at hq
          cases hq
          refine ⟨v, hpt, fun t' hd' => ?_⟩
          rw [hd] at hd'
          cases hd'
          exact h1
      · exact hk.elim
end Go.Proofs.Ytpjjfcgmckpboaa.A
