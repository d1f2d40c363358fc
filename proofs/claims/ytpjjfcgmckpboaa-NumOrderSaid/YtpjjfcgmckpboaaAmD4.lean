/- Statements whose order is open: the parts of the proof. No condition. -/
import Derived.Test.YtpjjfcgmckpboaaAmD3
namespace Go.Proofs.Ytpjjfcgmckpboaa.A
open Go
set_option linter.unusedVariables false
set_option linter.unusedSimpArgs false

theorem aopQ_na {T : Tab} {o : Oper} {f : Fr} {H : Heap} {n n' : Nat} {N N' : AObj → Heap} {K : AV → Heap → Prop} (ha : allocB o = false) (h : aopQ T o f H n N K) : aopQ T o f H n' N' K := by
  obtain ⟨dst, op, type, pos, after, guard⟩ := o
  cases op <;> first
    | (simp [allocB] at ha; done)
    | (simp only [aopQ] at h ⊢; exact h)
    | exact h
theorem aopQ_free {T : Tab} {o : Oper} {f : Fr} {H H' : Heap} {n n' : Nat} {N N' : AObj → Heap} {K : AV → Heap → Prop} (ha : freeB o = true) (h : aopQ T o f H n N K) : aopQ T o f H' n' N' (fun v _ => K v H) := by
  obtain ⟨dst, op, type, pos, after, guard⟩ := o
  cases op <;> first
    | (simp [freeB] at ha; done)
    | (simp only [aopQ] at h ⊢; exact h)
    | exact h
theorem free_alloc {o : Oper} (h : freeB o = true) : allocB o = false := by
  obtain ⟨dst, op, type, pos, after, guard⟩ := o
  cases op <;> first
    | rfl
    | (simp [freeB] at h; done)
theorem free_eff {o : Oper} (h : freeB o = true) : effB o = false := by
  obtain ⟨dst, op, type, pos, after, guard⟩ := o
  cases op <;> first
    | rfl
    | (simp [freeB] at h; done)
theorem runQ_pt {T : Tab} {E : DE} {j : Nat} {o : Oper} {F : Fr} {H : Heap} {K : AV → Heap → Prop} (h : runQ T E j o F H K) :
    ∃ v H', K v H' ∧ (H' = H ∨ ∃ ob, H' = H.set (slotAt E j) ob) ∧ runQ T E j o F H (fun u G => u = v ∧ G = H') := by
  unfold runQ at h ⊢
  split at h
  · (try simp only [*])
    exact aopQ_pt h
  · rename_i g want hg
    split at h
    · rename_i b hb
      simp only [hb]
      cases want <;> cases b <;> simp only at h ⊢
      · exact aopQ_pt h
      · exact ⟨_, _, h, .inl rfl, rfl, rfl⟩
      · exact ⟨_, _, h, .inl rfl, rfl, rfl⟩
      · exact aopQ_pt h
    · rename_i vs hb
      simp only [hb]
      exact ⟨_, _, h, .inl rfl, rfl, rfl⟩
    · exact h.elim
theorem runQ_na {T : Tab} {E : DE} {j : Nat} {o : Oper} {F : Fr} {H : Heap} {v : AV} {H' : Heap} (ha : allocB o = false) (h : runQ T E j o F H (fun u G => u = v ∧ G = H')) : H' = H := by
  have key : aopQ T o (opF E F j o) H (slotAt E j) (fun ob => H.set (slotAt E j) ob) (fun u G => u = v ∧ G = H') → H' = H := fun h => by
    have h2 := aopQ_na (n' := 0) (N' := fun _ => H) ha h
    obtain ⟨u, G, ⟨_, h3⟩, h4, _⟩ := aopQ_pt h2
    rcases h4 with h4 | ⟨ob, h4⟩
    · rw [← h3, h4]
    · rw [← h3, h4]
  unfold runQ at h
  split at h
  · exact key h
  · rename_i g want hg
    split at h
    · rename_i b hb
      cases want <;> cases b <;> simp only at h
      · exact key h
      · exact h.2.symm
      · exact h.2.symm
      · exact key h
    · exact h.2.symm
    · exact h.elim
theorem runQ_free {T : Tab} {E : DE} {j : Nat} {o : Oper} {F F' : Fr} {H H' : Heap} {v : AV} (ha : freeB o = true) (hf : opF E F j o = opF E F' j o) (h : runQ T E j o F H (fun u G => u = v ∧ G = H)) : runQ T E j o F' H' (fun u G => u = v ∧ G = H') := by
  have key : aopQ T o (opF E F j o) H (slotAt E j) (fun ob => H.set (slotAt E j) ob) (fun u G => u = v ∧ G = H) → aopQ T o (opF E F j o) H' (slotAt E j) (fun ob => H'.set (slotAt E j) ob) (fun u G => u = v ∧ G = H') := fun h => by
    have h2 := aopQ_free (H' := H') (n' := slotAt E j) (N' := fun ob => H'.set (slotAt E j) ob) ha h
    obtain ⟨u, G, ⟨h3, _⟩, h4, h5⟩ := aopQ_pt h2
    have hG : G = H' := by
      have h6 := aopQ_na (n' := 0) (N' := fun _ => H') (free_alloc ha) h5
      obtain ⟨_, _, ⟨_, h7⟩, h8, _⟩ := aopQ_pt h6
      rcases h8 with h8 | ⟨_, h8⟩
      · rw [← h7, h8]
      · rw [← h7, h8]
    rw [h3, hG] at h5
    exact h5
  unfold runQ at h ⊢
  rw [← hf]
  split at h
  · rename_i hg
    (try simp only [hg])
    exact key h
  · rename_i g want hg
    split at h
    · rename_i b hb
      simp only [hb]
      cases want <;> cases b <;> simp only at h ⊢
      · exact key h
      · exact ⟨h.1, trivial⟩
      · exact ⟨h.1, trivial⟩
      · exact key h
    · rename_i vs hb
      simp only [hb]
      exact ⟨h.1, trivial⟩
    · exact h.elim

/-! ### What the check gives -/
theorem allN_get {f : Nat → Bool} : ∀ {n : Nat}, allN f n = true → ∀ i, i < n → f i = true
  | 0, _, i, h => by omega
  | n + 1, h, i, hi => by
    cases hf : f n with
    | false => simp [allN, hf] at h
    | true =>
      simp only [allN, hf, cond_true] at h
      rcases Nat.lt_or_ge i n with h1 | h1
      · exact allN_get h i h1
      · rw [show i = n by omega]; exact hf
/-- The check, told out. -/
structure CK (E : DE) : Prop where
  lt : ∀ i o, nth E.ops i = some o → ∀ p ∈ bnd o, p < i
  am : ∀ i o p, nth E.ops i = some o → bits (getL E.am i) p = true → p ∈ bnd o ∨ ∃ q ∈ bnd o, bits (getL E.am q) p = true
  lv : ∀ i o, nth E.ops i = some o → effB o = false → getN E.lv i = 0 ∨ ∃ p ∈ bnd o, getN E.lv p = getN E.lv i
  mono : ∀ i o j, nth E.ops i = some o → j < E.ops.length → bits (getL E.am i) j = true → getN E.lv j ≤ getN E.lv i ∧ (effB o = true → getN E.lv j < getN E.lv i)
  uniq : ∀ i o j q t, nth E.ops i = some o → nth E.ops j = some q → i ≠ j → o.dst = some t → q.dst ≠ some t
  reads : ∀ i o j q t, nth E.ops i = some o → nth E.ops j = some q → i ≠ j → o.dst = some t → t ∈ look E.ops q → bits (getL E.am j) i = true ∨ bits (getL E.am i) j = true
  slot : ∀ i o j q, nth E.ops i = some o → nth E.ops j = some q → i ≠ j → allocB o = true → allocB q = true → getN E.sl i ≠ getN E.sl j
  inEs : ∀ i o, nth E.ops i = some o → effB o = true → i ∈ E.es
  slen : ∀ i o, nth E.ops i = some o → allocB o = true → getN E.sl i < countB allocB E.ops
  chain : chkE E E.es 1 none = true
  lk : ∀ i o, nth E.ops i = some o → getL E.lk i = look E.ops o
theorem chkL_get {E : DE} : ∀ {os : List Oper} {k : Nat}, chkL E os k = true → ∀ i o, nth os i = some o → chk1 E (k + i) o = true
  | [], _, _, i, o, h => by simp [nth] at h
  | x :: os, k, h, 0, o, ho => by
    simp only [nth, Option.some.injEq] at ho
    subst ho
    cases hc : chk1 E k x with
    | false => simp [chkL, hc] at h
    | true => rfl
  | x :: os, k, h, i + 1, o, ho => by
    cases hc : chk1 E k x with
    | false => simp [chkL, hc] at h
    | true =>
      simp only [chkL, hc, cond_true] at h
      have := chkL_get h i o ho
      rw [show k + (i + 1) = k + 1 + i by omega]
      exact this
theorem nth_lt {α : Type} {l : List α} {i : Nat} {x : α} (h : nth l i = some x) : i < l.length := by
  rw [nth_eq] at h
  exact (List.getElem?_eq_some_iff.1 h).1
theorem mem_any {l : List Nat} {t : Nat} : l.any (Nat.beq t) = true ↔ t ∈ l := by
  rw [List.any_eq_true]
  constructor
  · rintro ⟨x, h1, h2⟩
    rw [Nat.eq_of_beq_eq_true h2]
    exact h1
  · intro h
    exact ⟨t, h, by simp⟩
theorem ck {E : DE} (h : chk E = true) : CK E := by
  simp only [chk, Bool.and_eq_true] at h
  obtain ⟨⟨⟨⟨⟨h1, h2⟩, h3⟩, h4⟩, h6⟩, h5⟩ := h
  have g : ∀ i o, nth E.ops i = some o → chk1 E i o = true := fun i o ho => by
    have := chkL_get h1 i o ho
    rwa [Nat.zero_add] at this
  have pair : ∀ i o j q, nth E.ops i = some o → nth E.ops j = some q → i ≠ j → pairB E i o j q = true := fun i o j q hi hj hne => by
    have h := g i o hi
    simp only [chk1, Bool.and_eq_true] at h
    have h := allN_get h.2 j (nth_lt hj)
    simp only [Bool.and_eq_true, Bool.or_eq_true, hj] at h
    rcases h.2 with h | h
    · exact absurd (Nat.eq_of_beq_eq_true h) hne
    · exact h
  refine ⟨fun i o ho p hp => ?_, fun i o p ho hp => ?_, fun i o ho he => ?_, fun i o j ho hj hb => ?_, fun i o j q t hi hj hne ht hq => ?_, fun i o j q t hi hj hne ht hl => ?_, fun i o j q hi hj hne ha hb hs => ?_, fun i o ho he => ?_, fun i o ho ha => ?_, h2, fun i o ho => ?_⟩
  · have h := g i o ho
    simp only [chk1, Bool.and_eq_true] at h
    have := List.all_eq_true.1 h.1.1.1 p hp
    simp [Nat.blt] at this
    omega
  · have h := g i o ho
    simp only [chk1, Bool.and_eq_true] at h
    have h2 := List.all_eq_true.1 h.1.1.2 p (mem_any.1 hp)
    rw [List.any_eq_true] at h2
    obtain ⟨q, h3, h4⟩ := h2
    rw [Bool.or_eq_true] at h4
    rcases h4 with h4 | h4
    · rw [← Nat.eq_of_beq_eq_true h4]
      exact .inl h3
    · exact .inr ⟨q, h3, h4⟩
  · have h := g i o ho
    simp only [chk1, Bool.and_eq_true, he] at h
    have h := h.1.2
    simp only [Bool.or_eq_true, List.any_eq_true] at h
    rcases h with h | ⟨p, h, h'⟩
    · exact .inl (Nat.eq_of_beq_eq_true h)
    · exact .inr ⟨p, h, Nat.eq_of_beq_eq_true h'⟩
  · have h := g i o ho
    simp only [chk1, Bool.and_eq_true] at h
    have h := allN_get h.2 j hj
    simp only [Bool.and_eq_true, Bool.or_eq_true, hb, Bool.not_true, Bool.false_eq_true, false_or] at h
    refine ⟨Nat.le_of_ble_eq_true h.1.1, fun he => ?_⟩
    have h := h.1.2
    rw [he] at h
    simp [Nat.blt] at h
    omega
  · have h := pair i o j q hi hj hne
    simp only [pairB, ht, Bool.and_eq_true, hq] at h
    simp at h
  · have h := pair i o j q hi hj hne
    simp only [pairB, ht, Bool.and_eq_true, Bool.or_eq_true] at h
    rcases h.1.2 with (h | h) | h
    · rw [mem_any.2 hl] at h
      cases h
    · exact .inl h
    · exact .inr h
  · have h := pair i o j q hi hj hne
    simp only [pairB, Bool.and_eq_true] at h
    have h := h.2
    simp [ha, hb, hs] at h
  · have h := allN_get h4 i (nth_lt ho)
    simp only [ho, he, Bool.not_true, Bool.false_or] at h
    exact mem_any.1 h
  · have h := allN_get h5 i (nth_lt ho)
    simp only [ho, ha, Bool.not_true, Bool.false_or] at h
    simp [Nat.blt] at h
    omega
  · have h := allN_get h6 i (nth_lt ho)
    simp only [ho] at h
    exact eqN_eq h
end Go.Proofs.Ytpjjfcgmckpboaa.A
