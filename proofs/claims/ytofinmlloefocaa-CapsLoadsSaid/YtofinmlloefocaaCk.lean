/- Rights come of rights: the plain law. No condition. -/
import Derived.Test.YtofinmlloefocaaCj
namespace Go.Proofs.Ytofinmlloefocaa.A
open Go
set_option linter.unusedVariables false
set_option maxRecDepth 100000
set_option pp.maxSteps 1500

/-- What is in the one, and not in the other. -/
def andN (a b : Nat) : Nat := (BitVec.ofNat 64 a &&& ~~~BitVec.ofNat 64 b).toNat
theorem andN_lt (a b : Nat) : andN a b < 18446744073709551616 := (BitVec.ofNat 64 a &&& ~~~BitVec.ofNat 64 b).isLt
theorem andN64 {a b : Nat} : wrp .u64 ((BitVec.ofInt IntKind.u64.bits (a : Int) &&& ~~~BitVec.ofInt IntKind.u64.bits (b : Int)).toNat : Int) = ((andN a b : Nat) : Int) := by
  have e : (BitVec.ofInt IntKind.u64.bits (a : Int) &&& ~~~BitVec.ofInt IntKind.u64.bits (b : Int)).toNat = andN a b := by
    show (BitVec.ofInt 64 (a : Int) &&& ~~~BitVec.ofInt 64 (b : Int)).toNat = _
    rw [BitVec.ofInt_natCast, BitVec.ofInt_natCast]
    rfl
  have hlt := andN_lt a b
  rw [e, wrpE, wu64]
  omega
theorem andN_bit {a b : Nat} (ha : a < 18446744073709551616) (i : Nat) : (andN a b).testBit i = (a.testBit i && !b.testBit i) := by
  unfold andN
  rw [BitVec.testBit_toNat]
  simp only [BitVec.getLsbD_and, BitVec.getLsbD_not, BitVec.getLsbD_ofNat]
  by_cases hi : i < 64
  · simp [hi]
  · have : a.testBit i = false := Nat.testBit_lt_two_pow (Nat.lt_of_lt_of_le (show a < 2 ^ 64 from ha) (Nat.pow_le_pow_right (by decide) (by omega)))
    simp [hi, this]
theorem andN_or {a b : Nat} (ha : a < 18446744073709551616) : andN a (a ||| b) = 0 := by
  refine Nat.eq_of_testBit_eq fun i => ?_
  rw [andN_bit ha, Nat.testBit_or, Nat.zero_testBit]
  cases a.testBit i <;> simp
theorem andN_self {a : Nat} (ha : a < 18446744073709551616) : andN a a = 0 := by
  refine Nat.eq_of_testBit_eq fun i => ?_
  rw [andN_bit ha, Nat.zero_testBit]
  cases a.testBit i <;> simp
theorem bitS_two {x : Nat} (h : ¬ (x < 1 ∨ 16 < x)) : bitS x = 2 ^ (x - 1) := if_neg h
/-- Of one bit nothing, or all. -/
theorem one_bit {f k : Nat} (h : ∀ i, f.testBit i = true → i = k) (h0 : f ≠ 0) : f = 2 ^ k := by
  obtain ⟨i, hi⟩ := Nat.exists_testBit_of_ne_zero h0
  have := h i hi
  subst this
  refine Nat.eq_of_testBit_eq fun j => ?_
  rw [Nat.testBit_two_pow]
  by_cases hj : i = j
  · subst hj
    simp [hi]
  · cases hq : f.testBit j
    · simp [hj]
    · exact absurd (h j hq).symm hj
/-- What each round tells of somebody. -/
structure Came (tags : Nat) (e k w t : Int) (x : Nat) (m : Bool) (pl ml pl' ml' : List Nat) (who : Nat) (p c p' c' : Nat) : Prop where
  gp : pl[who]? = some p
  gc : ml[who]? = some c
  gp' : pl'[who]? = some p'
  gc' : ml'[who]? = some c'
  lp : p < 18446744073709551616
  lc : c < 18446744073709551616
  lp' : p' < 18446744073709551616
  lc' : c' < 18446744073709551616
  keepP : andN p p' = 0
  keepC : andN c c' = 0
  new : andN p' p ||| andN c' c ≠ 0 → e = 0 ∧ ((k = 1 ∧ (who : Int) = w ∧ tags < 16 ∧ andN p' p ||| andN c' c = 2 ^ tags) ∨
    (k = 2 ∧ (who : Int) = t ∧ 1 ≤ x ∧ x ≤ 16 ∧ andN p' p ||| andN c' c = 2 ^ (x - 1) ∧ 0 ≤ w ∧ w < pl.length ∧ w < ml.length ∧
      ∃ a b, pl[w.toNat]? = some a ∧ ml[w.toNat]? = some b ∧ a < 18446744073709551616 ∧ b < 18446744073709551616 ∧ ((if m = true then b else a) &&& 2 ^ (x - 1) ≠ 0)))
theorem setR_get {g : Rg} {who : Int} {m : Bool} {x k : Nat} {r : Nat × Nat} (h : g[k]? = some r) : (setR g who m x)[k]? = some (if k = who.toNat then (if m = true then (r.1, r.2 ||| bitS x) else (r.1 ||| bitS x, r.2)) else r) := by
  unfold setR
  split
  · rename_i q hq
    by_cases hk : k = who.toNat
    · subst hk
      rw [h] at hq
      cases hq
      rw [if_pos rfl, List.getElem?_set_self (List.getElem?_eq_some_iff.1 h).1]
    · rw [if_neg hk, List.getElem?_set_ne (fun hh => hk hh.symm)]
      exact h
  · rename_i hq
    by_cases hk : k = who.toNat
    · subst hk
      rw [h] at hq
      cases hq
    · rw [if_neg hk]
      exact h
theorem came_same {tags : Nat} {e k w t : Int} {x : Nat} {m : Bool} {g : Rg} (hg : RgOk g) {who : Nat} {r : Nat × Nat} (hr : g[who]? = some r) :
    Came tags e k w t x m (plusL g) (minusL g) (plusL g) (minusL g) who r.1 r.2 r.1 r.2 := by
  have hb := hg.2 r (List.mem_of_getElem? hr)
  have h1 : (plusL g)[who]? = some r.1 := by rw [plusL, List.getElem?_map, hr]; rfl
  have h2 : (minusL g)[who]? = some r.2 := by rw [minusL, List.getElem?_map, hr]; rfl
  refine ⟨h1, h2, h1, h2, hb.1, hb.2, hb.1, hb.2, andN_self hb.1, andN_self hb.2, fun hh => ?_⟩
  rw [andN_self hb.1, andN_self hb.2] at hh
  exact absurd rfl hh
theorem came {tags : Nat} {e k w t : Int} {x : Nat} {m : Bool} {g : Rg} (hg : RgOk g) (he : checkE tags g k w t x m = e) {who : Nat} (hw : who < g.length) :
    ∃ p c p' c', Came tags e k w t x m (plusL g) (minusL g) (plusL (doG tags g e k w t x m)) (minusL (doG tags g e k w t x m)) who p c p' c' := by
  obtain ⟨r, hr⟩ : ∃ r, g[who]? = some r := ⟨_, List.getElem?_eq_getElem hw⟩
  have hb := hg.2 r (List.mem_of_getElem? hr)
  have get1 : ∀ {G : Rg} {j : Nat} {q : Nat × Nat}, G[j]? = some q → (plusL G)[j]? = some q.1 := fun h => by rw [plusL, List.getElem?_map, h]; rfl
  have get2 : ∀ {G : Rg} {j : Nat} {q : Nat × Nat}, G[j]? = some q → (minusL G)[j]? = some q.2 := fun h => by rw [minusL, List.getElem?_map, h]; rfl
  by_cases h0 : e = 0
  · rw [h0] at he
    rcases check_zero he with ⟨hk, ht, hx, hm, how, htag⟩ | ⟨hk, how, hot, hx1, hx2, hhas, hno⟩
    · -- a tag is made
      have how := of_decide_eq_true how
      have hG : doG tags g e k w t x m = setR (setR g w false (tags + 1)) w true (tags + 1) := by
        unfold doG
        rw [if_pos h0, if_neg (by omega)]
      have hbit : bitS (tags + 1) = 2 ^ tags := by rw [bitS_two (by omega), Nat.add_sub_cancel]
      have hlt : 2 ^ tags < 18446744073709551616 := by rw [← hbit]; exact bitS_lt _
      have g1 := setR_get (who := w) (m := false) (x := tags + 1) hr
      have g2 := setR_get (who := w) (m := true) (x := tags + 1) g1
      rw [← hG, hbit] at g2
      by_cases hwho : who = w.toNat
      · rw [if_pos hwho, if_pos hwho] at g2
        simp only [if_true, Bool.false_eq_true, if_false] at g2
        have l1 : r.1 ||| 2 ^ tags < 2 ^ 64 := Nat.or_lt_two_pow hb.1 hlt
        have l2 : r.2 ||| 2 ^ tags < 2 ^ 64 := Nat.or_lt_two_pow hb.2 hlt
        refine ⟨_, _, _, _, get1 hr, get2 hr, get1 g2, get2 g2, hb.1, hb.2, l1, l2, andN_or hb.1, andN_or hb.2, fun hne => ⟨h0, .inl ⟨hk, by omega, htag, one_bit (fun i hi => ?_) hne⟩⟩⟩
        rw [Nat.testBit_or, andN_bit l1, andN_bit l2, Nat.testBit_or, Nat.testBit_or, Nat.testBit_two_pow] at hi
        by_cases hj : tags = i
        · exact hj.symm
        · rw [decide_eq_false hj] at hi
          cases r.1.testBit i <;> cases r.2.testBit i <;> simp at hi
      · rw [if_neg hwho, if_neg hwho] at g2
        refine ⟨_, _, _, _, get1 hr, get2 hr, get1 g2, get2 g2, hb.1, hb.2, hb.1, hb.2, andN_self hb.1, andN_self hb.2, fun hh => ?_⟩
        rw [andN_self hb.1, andN_self hb.2] at hh
        exact absurd rfl hh
    · -- a tag is given
      have how := of_decide_eq_true how
      have hot := of_decide_eq_true hot
      have hG : doG tags g e k w t x m = setR g t m x := by
        unfold doG
        rw [if_pos h0, if_pos hk]
      have hx16 : ¬ (x < 1 ∨ 16 < x) := fun hh => by
        unfold hasR hasS bitS at hhas
        rw [if_pos hh, Nat.and_zero] at hhas
        cases hhas
      have hbit : bitS x = 2 ^ (x - 1) := bitS_two hx16
      have hlt : 2 ^ (x - 1) < 18446744073709551616 := by rw [← hbit]; exact bitS_lt _
      have g1 := setR_get (who := t) (m := m) (x := x) hr
      rw [← hG, hbit] at g1
      obtain ⟨q, hq⟩ : ∃ q, g[w.toNat]? = some q := ⟨_, List.getElem?_eq_getElem (by omega)⟩
      have hqb := hg.2 q (List.mem_of_getElem? hq)
      have hhas2 : (if m = true then q.2 else q.1) &&& 2 ^ (x - 1) ≠ 0 := by
        have h3 := hhas
        unfold hasR hasS maskOf at h3
        rw [hq, hbit] at h3
        exact fun hz => by
          have h4 : decide ((if m = true then q.2 else q.1) &&& 2 ^ (x - 1) = 0) = true := decide_eq_true hz
          have h5 : (!decide ((if m = true then q.2 else q.1) &&& 2 ^ (x - 1) = 0)) = true := h3
          rw [h4] at h5
          cases h5
      have fin : ∀ {z : Nat}, who = t.toNat → (∀ i, z.testBit i = true → i = x - 1) → z ≠ 0 → e = 0 ∧ ((k = 1 ∧ (who : Int) = w ∧ tags < 16 ∧ z = 2 ^ tags) ∨
          (k = 2 ∧ (who : Int) = t ∧ 1 ≤ x ∧ x ≤ 16 ∧ z = 2 ^ (x - 1) ∧ 0 ≤ w ∧ w < (plusL g).length ∧ w < (minusL g).length ∧
          ∃ a b, (plusL g)[w.toNat]? = some a ∧ (minusL g)[w.toNat]? = some b ∧ a < 18446744073709551616 ∧ b < 18446744073709551616 ∧ ((if m = true then b else a) &&& 2 ^ (x - 1) ≠ 0))) := fun hwho hz hne =>
        ⟨h0, .inr ⟨hk, by omega, by omega, by omega, one_bit hz hne, how.1, by unfold plusL; rw [List.length_map]; exact how.2, by unfold minusL; rw [List.length_map]; exact how.2, q.1, q.2, get1 hq, get2 hq, hqb.1, hqb.2, hhas2⟩⟩
      by_cases hwho : who = t.toNat
      · rw [if_pos hwho] at g1
        have l1 : r.1 ||| 2 ^ (x - 1) < 2 ^ 64 := Nat.or_lt_two_pow hb.1 hlt
        have l2 : r.2 ||| 2 ^ (x - 1) < 2 ^ 64 := Nat.or_lt_two_pow hb.2 hlt
        cases m with
        | true =>
          rw [if_pos rfl] at g1
          refine ⟨_, _, _, _, get1 hr, get2 hr, get1 g1, get2 g1, hb.1, hb.2, hb.1, l2, andN_self hb.1, andN_or hb.2, fin hwho fun i hi => ?_⟩
          rw [andN_self hb.1, Nat.testBit_or, andN_bit l2, Nat.testBit_or, Nat.testBit_two_pow, Nat.zero_testBit] at hi
          by_cases hj : x - 1 = i
          · exact hj.symm
          · rw [decide_eq_false hj] at hi
            cases r.2.testBit i <;> simp at hi
        | false =>
          rw [if_neg (by decide)] at g1
          refine ⟨_, _, _, _, get1 hr, get2 hr, get1 g1, get2 g1, hb.1, hb.2, l1, hb.2, andN_or hb.1, andN_self hb.2, fin hwho fun i hi => ?_⟩
          rw [andN_self hb.2, Nat.testBit_or, andN_bit l1, Nat.testBit_or, Nat.testBit_two_pow, Nat.zero_testBit] at hi
          by_cases hj : x - 1 = i
          · exact hj.symm
          · rw [decide_eq_false hj] at hi
            cases r.1.testBit i <;> simp at hi
      · rw [if_neg hwho] at g1
        refine ⟨_, _, _, _, get1 hr, get2 hr, get1 g1, get2 g1, hb.1, hb.2, hb.1, hb.2, andN_self hb.1, andN_self hb.2, fun hh => ?_⟩
        rw [andN_self hb.1, andN_self hb.2] at hh
        exact absurd rfl hh
  · have hG : doG tags g e k w t x m = g := if_neg h0
    rw [hG]
    exact ⟨_, _, _, _, came_same hg hr⟩
end Go.Proofs.Ytofinmlloefocaa.A
