/- A quiet operation has one outcome: whole. No condition. -/
import Derived.Test.YtpjjfcgmckpboaaAmD1
namespace Go.Proofs.Ytpjjfcgmckpboaa.A
open Go
set_option linter.unusedVariables false
set_option linter.unusedSimpArgs false

theorem optK_pt {α : Type} {x : Option α} {Φ : α → Prop} (h : optK x Φ) : ∃ a, x = some a ∧ Φ a := optK_elim h
theorem aopQ_pt {T : Tab} {o : Oper} {f : Fr} {H : Heap} {n : Nat} {N : AObj → Heap} {K : AV → Heap → Prop} (h : aopQ T o f H n N K) :
    ∃ v H', K v H' ∧ (H' = H ∨ ∃ ob, H' = N ob) ∧ aopQ T o f H n N (fun u G => u = v ∧ G = H') := by
  have up : ∀ {Φ : (AV → Prop) → Prop}, (∃ v, K v H ∧ Φ (fun u => u = v)) → (∀ v, Φ (fun u => u = v) → Φ (fun u => u = v ∧ H = H)) → ∃ v H', K v H' ∧ (H' = H ∨ ∃ ob, H' = N ob) ∧ Φ (fun u => u = v ∧ H = H') := by
    rintro Φ ⟨v, h1, h2⟩ hm
    exact ⟨v, H, h1, .inl rfl, hm v h2⟩
  have mono : ∀ v : AV, (fun u : AV => u = v) = (fun u : AV => u = v ∧ H = H) := fun v => by funext u; simp
  obtain ⟨dst, op, type, pos, after, guard⟩ := o
  cases op <;> simp only [aopQ] at h ⊢
  case move x => exact ⟨_, _, h, .inl rfl, rfl, rfl⟩
  case assign x => exact ⟨_, _, h, .inl rfl, rfl, rfl⟩
  case pick c a b =>
    split at h
    · rename_i t ht
      (try simp only [*])
      cases t <;> exact ⟨_, _, h, .inl rfl, rfl, rfl⟩
    · exact h.elim
  case alloc t =>
    split at h
    · (try simp only [*])
      cases hb : zeroOk _ with
      | false => simp only [hb, cond_false] at h
      | true => simp only [hb, cond_true] at h ⊢; exact ⟨_, _, h, .inr ⟨_, rfl⟩, rfl, rfl⟩
    · exact h.elim
  case box t x =>
    split at h
    · (try simp only [*])
      cases hb : allC _ with
      | false => simp only [hb, cond_false] at h
      | true => simp only [hb, cond_true] at h ⊢; exact ⟨_, _, h, .inr ⟨_, rfl⟩, rfl, rfl⟩
    · exact h.elim
  case build t parts =>
    split at h
    · (try simp only [*])
      split at h
      · (try simp only [*])
        split at h
        · (try simp only [*])
          obtain ⟨cs, h1, h2⟩ := optK_pt h
          exact ⟨_, _, h2, .inl rfl, optK_intro h1 ⟨rfl, rfl⟩⟩
        · exact h.elim
      · (try simp only [*])
        split at h
        · (try simp only [*])
          obtain ⟨cs, h1, h2⟩ := optK_pt h
          exact ⟨_, _, h2, .inl rfl, optK_intro h1 ⟨rfl, rfl⟩⟩
        · exact h.elim
      · exact h.elim
    · exact h.elim
  case buildSlice t len parts =>
    split at h
    · (try simp only [*])
      split at h
      · (try simp only [*])
        cases hb : (Nat.ble _ _ && Nat.beq _ _) with
        | false => simp only [hb, cond_false] at h
        | true =>
          simp only [hb, cond_true] at h ⊢
          obtain ⟨cs, h1, h2⟩ := optK_pt h
          cases hc : allC cs with
          | false => simp only [hc, cond_false] at h2
          | true =>
            simp only [hc, cond_true] at h2
            exact ⟨_, _, h2, .inr ⟨_, rfl⟩, optK_intro h1 (by rw [hc]; exact ⟨rfl, rfl⟩)⟩
      · exact h.elim
    · exact h.elim
  case load t a =>
    split at h
    · rename_i i hi
      (try simp only [*])
      split at h
      · (try simp only [*])
        cases hd : i.d.agg with
        | true =>
          simp only [hd, If] at h ⊢
          obtain ⟨cs, h1, h2⟩ := optK_pt h
          exact ⟨_, _, h2, .inl rfl, optK_intro h1 ⟨rfl, rfl⟩⟩
        | false =>
          simp only [hd, If] at h ⊢
          obtain ⟨cs, h1, h2⟩ := optK_pt h
          exact ⟨_, _, h2, .inl rfl, optK_intro h1 ⟨rfl, rfl⟩⟩
      · (try simp only [*])
        cases hd : i.d.agg with
        | true =>
          simp only [hd, If] at h ⊢
          exact ⟨_, _, h.2, .inl rfl, h.1, rfl, rfl⟩
        | false =>
          simp only [hd, If] at h ⊢
          obtain ⟨cs, h1, h2⟩ := optK_pt h
          exact ⟨_, _, h2, .inl rfl, optK_intro h1 ⟨rfl, rfl⟩⟩
      · exact h.elim
    · exact h.elim
  case nilCheck x =>
    split at h
    · (try simp only [*]); exact ⟨_, _, h, .inl rfl, rfl, rfl⟩
    · (try simp only [*]); exact ⟨_, _, h, .inl rfl, rfl, rfl⟩
    · (try simp only [*]); exact ⟨_, _, h, .inl rfl, rfl, rfl⟩
    · exact h.elim
  case binOp op t x y ty =>
    obtain ⟨v, h1, h2⟩ := binA_pt h
    exact ⟨v, H, h1, .inl rfl, by rw [mono] at h2; exact h2⟩
  case unOp op t x =>
    obtain ⟨v, h1, h2⟩ := unA_pt h
    exact ⟨v, H, h1, .inl rfl, by rw [mono] at h2; exact h2⟩
  case convert src dst x =>
    split at h
    · (try simp only [*])
      split at h
      · (try simp only [*])
        cases hb : isStr _ with
        | true => simp only [hb, cond_true] at h
        | false =>
          simp only [hb, cond_false] at h ⊢
          obtain ⟨cs, h1, h2⟩ := optK_pt h
          obtain ⟨l, h3, h4⟩ := optK_pt h2
          exact ⟨_, _, h4, .inl rfl, optK_intro h1 (optK_intro h3 ⟨rfl, rfl⟩)⟩
      · exact h.elim
    · (try simp only [*])
      split at h
      · (try simp only [*]); exact ⟨_, _, h, .inl rfl, rfl, rfl⟩
      · exact h.elim
    · (try simp only [*])
      obtain ⟨v, h1, h2⟩ := convA_pt h
      exact ⟨v, H, h1, .inl rfl, by rw [mono] at h2; exact h2⟩
  case makeInterface t x =>
    split at h
    · exact h.elim
    · (try simp only [*])
      obtain ⟨cs, h1, h2⟩ := optK_pt h
      exact ⟨_, _, h2, .inl rfl, optK_intro h1 ⟨rfl, rfl⟩⟩
    · exact h.elim
  case makeFunc fn first captured =>
    split at h
    · (try simp only [*]); exact ⟨_, _, h, .inl rfl, rfl, rfl⟩
    · exact h.elim
  case makeMap t r =>
    split at h
    · (try simp only [*]); exact ⟨_, _, h, .inr ⟨_, rfl⟩, rfl, rfl⟩
    · exact h.elim
  case makeSlice t l c =>
    split at h
    · (try simp only [*])
      split at h
      · (try simp only [*])
        cases hb : (Nat.beq _ _ && zeroOk _) with
        | false => simp only [hb, cond_false] at h
        | true =>
          simp only [hb, cond_true] at h ⊢
          exact ⟨_, _, h.2, .inr ⟨_, rfl⟩, h.1, rfl, rfl⟩
      · exact h.elim
    · exact h.elim
  case slice t x lo hi mx =>
    obtain ⟨v, h1, h2⟩ := sliceA_pt h
    exact ⟨v, H, h1, .inl rfl, by rw [mono] at h2; exact h2⟩
  case fieldAddr s x m =>
    split at h
    · (try simp only [*])
      split at h
      · (try simp only [*])
        split at h
        · (try simp only [*])
          cases hb : Nat.beq _ _ with
          | true => simp only [hb, cond_true] at h
          | false =>
            simp only [hb, cond_false] at h ⊢
            split at h
            · (try simp only [*]); exact ⟨_, _, h, .inl rfl, rfl, rfl⟩
            · (try simp only [*]); exact ⟨_, _, h, .inl rfl, rfl, rfl⟩
            · exact h.elim
        · exact h.elim
      · exact h.elim
    · exact h.elim
  case field s x m =>
    split at h
    · (try simp only [*])
      split at h
      · (try simp only [*])
        split at h
        · rename_i i hi
          (try simp only [*])
          cases hd : i.d.agg with
          | true => simp only [hd, If] at h ⊢; exact ⟨_, _, h, .inl rfl, rfl, rfl⟩
          | false =>
            simp only [hd, If] at h ⊢
            obtain ⟨cs, h1, h2⟩ := optK_pt h
            exact ⟨_, _, h2, .inl rfl, optK_intro h1 ⟨rfl, rfl⟩⟩
        · exact h.elim
      · exact h.elim
    · exact h.elim
  case indexAddr t x ix =>
    obtain ⟨v, h1, h2⟩ := indexAddrA_pt h
    exact ⟨v, H, h1, .inl rfl, by rw [mono] at h2; exact h2⟩
  case index t x ix =>
    split at h
    · (try simp only [*])
      split at h
      · (try simp only [*]); exact ⟨_, _, h.2, .inl rfl, h.1, rfl, rfl⟩
      · (try simp only [*])
        split at h
        · rename_i j hj
          (try simp only [*])
          obtain ⟨h0, h⟩ := h
          cases hd : j.d.agg with
          | true => simp only [hd, If] at h ⊢; exact ⟨_, _, h, .inl rfl, h0, rfl, rfl⟩
          | false =>
            simp only [hd, If] at h ⊢
            obtain ⟨cs, h1, h2⟩ := optK_pt h
            exact ⟨_, _, h2, .inl rfl, h0, optK_intro h1 ⟨rfl, rfl⟩⟩
        · exact h.elim
      · exact h.elim
    · exact h.elim
  case typeAssert x s t ok =>
    split at h
    · exact h.elim
    · (try simp only [*])
      split at h
      · (try simp only [*])
        cases hb : Nat.beq _ _ with
        | true => simp only [hb, cond_true] at h ⊢; exact ⟨_, _, h, .inl rfl, rfl, rfl⟩
        | false =>
          simp only [hb, cond_false] at h ⊢
          cases ok with
          | true => simp only [cond_true] at h ⊢; exact ⟨_, _, h, .inl rfl, rfl, rfl⟩
          | false => simp only [cond_false] at h
      · (try simp only [*])
        cases ok with
        | true => simp only [cond_true] at h ⊢; exact ⟨_, _, h, .inl rfl, rfl, rfl⟩
        | false => simp only [cond_false] at h
      · exact h.elim
    · exact h.elim
  case extract t m =>
    split at h
    · (try simp only [*])
      obtain ⟨cs, h1, h2⟩ := optK_pt h
      exact ⟨_, _, h2, .inl rfl, optK_intro h1 ⟨rfl, rfl⟩⟩
    · exact h.elim
  case call c =>
    obtain ⟨v, h1, h2⟩ := lenA_pt h
    exact ⟨v, H, h1, .inl rfl, by rw [mono] at h2; exact h2⟩
end Go.Proofs.Ytpjjfcgmckpboaa.A
