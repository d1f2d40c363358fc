/- How an abstract heap follows the world: new blocks, stores, appends. No condition. -/
import Derived.Test.YtpjjfcgmckpboaaAm1
import Derived.Laws.World
import Derived.Laws.Sem
namespace Go.Proofs.Ytpjjfcgmckpboaa.A
open Go
set_option linter.unusedVariables false

theorem live_lt {H : Heap} {i : Nat} (h : live H i) : i < H.length := by
  obtain ⟨o, h, _⟩ := h
  exact (List.getElem?_eq_some_iff.1 h).1
theorem not_live_dead {H : Heap} {i : Nat} (h : H[i]? = some .dead) : ¬ live H i := by
  rintro ⟨o, h1, h2⟩
  rw [h] at h1
  cases h1
  simp [AObj.live] at h2
theorem not_live_out {H : Heap} {i : Nat} (h : H.length ≤ i) : ¬ live H i := fun hl => by
  have := live_lt hl
  omega
theorem live_congr {H H' : Heap} {i : Nat} (h : H'[i]? = H[i]?) : live H' i ↔ live H i := by
  unfold live
  rw [h]

/-- One step's result: the new context and heap follow the old ones. -/
structure Step (X : Ctx) (H : Heap) (Y : Ctx) (H' : Heap) : Prop where
  hr : HR Y H'
  le : Le X Y
  ext : Ext X H Y H'
  len : H.length ≤ H'.length

theorem Step.refl {X : Ctx} {H : Heap} (h : HR X H) : Step X H X H := ⟨h, Le.refl X, Ext.refl X H, Nat.le_refl _⟩
theorem Step.trans {X Y Z : Ctx} {H H' H'' : Heap} (h : Step X H Y H') (k : Step Y H' Z H'') : Step X H Z H'' :=
  ⟨k.hr, h.le.trans k.le, h.ext.trans k.ext, Nat.le_trans h.len k.len⟩

/-- Only draws. -/
theorem Step.same {X Y : Ctx} {H : Heap} (h : HR X H) (hφ : Y.φ = X.φ) (hF : Y.F = X.F) (hh : Y.w.heap = X.w.heap) (ho : Y.w.os = X.w.os) (ht : Y.w.tape = X.w.tape) (hu : Y.w.output = X.w.output) : Step X H Y H := by
  have hle : Le X Y := ⟨fun i b hb => by rw [hφ]; exact hb, fun b hb => by rw [hF]; exact hb, fun b _ => by rw [hh], fun b cells e fr hb => ⟨cells, by rw [hh]; exact hb, rfl⟩⟩
  have hown : ∀ b, Owned Y H b ↔ Owned X H b := fun b => by unfold Owned; rw [hφ]
  refine ⟨⟨?_, ?_, ?_, ?_, ?_, ?_⟩, hle, ⟨by rw [hh]; exact Nat.le_refl _, fun b _ _ => by rw [hh], fun b cells e fr hb => ⟨cells, by rw [hh]; exact hb, rfl⟩, fun b hb => .inl ((hown b).1 hb), fun b hb => by rw [hF]; exact hb, fun b hb => .inl (by rw [hF] at hb; exact hb), ho, ht, hu⟩, Nat.le_refl _⟩
  · intro i b hb; rw [hφ] at hb; rw [hh]; exact h.lt i b hb
  · intro i cs b hi hb; rw [hφ] at hb; exact (h.row i cs b hi hb).mono hle (by rw [hh])
  · intro i es b hi hb; rw [hφ] at hb; exact (h.mp i es b hi hb).mono hle (by rw [hh])
  · intro i j bi bj hne hi hj hbi hbj; rw [hφ] at hbi hbj; exact h.sep i j bi bj hne hi hj hbi hbj
  · intro i b hi hb; rw [hφ] at hb; rw [hF]; exact h.fz i b hi hb
  · intro b hb; rw [hF] at hb; rw [hh]; exact h.fl b hb

/-- An object is forgotten. -/
theorem HR.kill {X : Ctx} {H : Heap} (h : HR X H) (p : Nat) : HR X (H.set p .dead) := by
  have hget : ∀ (i : Nat) (o : AObj), (H.set p .dead)[i]? = some o → o = .dead ∨ H[i]? = some o := fun i o hi => by
    rw [List.getElem?_set] at hi
    split at hi
    · split at hi
      · left; simpa using hi.symm
      · cases hi
    · exact .inr hi
  have hlive : ∀ i, live (H.set p .dead) i → live H i := fun i ⟨o, h1, h2⟩ => by
    rcases hget i o h1 with rfl | h3
    · simp [AObj.live] at h2
    · exact ⟨o, h3, h2⟩
  refine ⟨fun i b hb => ?_, fun i cs b hi hb => ?_, fun i es b hi hb => ?_, fun i j bi bj hne hi hj => h.sep i j bi bj hne (hlive i hi) (hlive j hj), fun i b hi => h.fz i b (hlive i hi), h.fl⟩
  · have := h.lt i b hb
    simpa using this
  · rcases hget i _ hi with h1 | h1
    · cases h1
    · exact h.row i cs b h1 hb
  · rcases hget i _ hi with h1 | h1
    · cases h1
    · exact h.mp i es b h1 hb
theorem live_kill {H : Heap} {p i : Nat} (h : live (H.set p .dead) i) : live H i ∧ i ≠ p := by
  obtain ⟨o, h1, h2⟩ := h
  rw [List.getElem?_set] at h1
  split at h1
  · split at h1
    · simp at h1; subst h1; simp [AObj.live] at h2
    · cases h1
  · rename_i hne
    exact ⟨⟨o, h1, h2⟩, fun he => hne he.symm⟩
theorem Step.kill {X : Ctx} {H : Heap} (h : HR X H) (p : Nat) : Step X H X (H.set p .dead) :=
  ⟨h.kill p, Le.refl X, ⟨Nat.le_refl _, fun _ _ _ => rfl, fun _ cells _ _ hb => ⟨cells, hb, rfl⟩, fun b ⟨i, a, hi, ha, he⟩ => .inl ⟨i, a, (live_kill hi).1, ha, he⟩, fun _ hb => hb, fun _ hb => .inl hb, rfl, rfl, rfl⟩, by simp⟩

/-- A new block, told as object i. -/
def Ctx.new (X : Ctx) (i : Nat) (o : Go.Obj) : Ctx := ⟨fun j => if j = i then some ⟨X.w.heap.size, 0, none⟩ else X.φ j, X.F, X.w.alloc o⟩
theorem heap_alloc_old (w : World) (o : Go.Obj) {b : Nat} (h : b < w.heap.size) : (w.alloc o).heap[b]? = w.heap[b]? := by
  simp only [World.alloc, Array.getElem?_push]
  rw [if_neg (by omega)]
theorem heap_alloc_at (w : World) (o : Go.Obj) : (w.alloc o).heap[w.heap.size]? = some o := by
  show (w.heap.push o)[w.heap.size]? = some o
  simp
theorem Le.new {X : Ctx} {H : Heap} (h : HR X H) (i : Nat) (o : Go.Obj) (hi : X.φ i = none) : Le X (X.new i o) := by
  refine ⟨fun j b hb => ?_, fun b hb => hb, fun b hb => heap_alloc_old _ _ (h.fl b hb), fun b cells e fr hb => ⟨cells, ?_, rfl⟩⟩
  · have hne : j ≠ i := fun he => by subst he; rw [hi] at hb; cases hb
    simp only [Ctx.new, if_neg hne]
    exact hb
  · exact (heap_alloc_old _ _ (Array.getElem?_eq_some_iff.1 hb).1).trans hb
theorem Step.new {X : Ctx} {H H' : Heap} (h : HR X H) (i : Nat) (o : Go.Obj) (ob : AObj) (hφ : X.φ i = none) (hl : H.length ≤ H'.length) (hi : H'[i]? = some ob)
    (ho : ∀ j, j ≠ i → H'[j]? = H[j]?)
    (hrow : ∀ cs, ob = .row cs → RowR (X.new i o) ⟨X.w.heap.size, 0, none⟩ cs) (hmp : ∀ es, ob = .mp es → MapR (X.new i o) ⟨X.w.heap.size, 0, none⟩ es) :
    Step X H (X.new i o) H' := by
  have hle := Le.new h i o hφ
  have hφn : ∀ j, j ≠ i → (X.new i o).φ j = X.φ j := fun j hj => by simp [Ctx.new, hj]
  have hφi : (X.new i o).φ i = some ⟨X.w.heap.size, 0, none⟩ := by simp [Ctx.new]
  have hilt : i < H'.length := (List.getElem?_eq_some_iff.1 hi).1
  refine ⟨⟨?_, ?_, ?_, ?_, ?_, ?_⟩, hle, ⟨by simp [Ctx.new], fun b hb _ => heap_alloc_old _ _ hb, hle.shape, ?_, fun _ hb => hb, fun _ hb => .inl hb, rfl, rfl, rfl⟩, hl⟩
  · intro j b hb
    by_cases hj : j = i
    · subst hj
      rw [hφi] at hb
      cases hb
      exact ⟨hilt, rfl, by simp [Ctx.new]⟩
    · rw [hφn j hj] at hb
      obtain ⟨h1, h2, h3⟩ := h.lt j b hb
      exact ⟨by omega, h2, by simp [Ctx.new]; omega⟩
  · intro j cs b hjo hb
    by_cases hj : j = i
    · subst hj
      rw [hi] at hjo
      cases hjo
      rw [hφi] at hb
      cases hb
      exact hrow cs rfl
    · rw [hφn j hj] at hb
      rw [ho j hj] at hjo
      exact (h.row j cs b hjo hb).mono hle (heap_alloc_old _ _ (h.lt j b hb).2.2)
  · intro j es b hjo hb
    by_cases hj : j = i
    · subst hj
      rw [hi] at hjo
      cases hjo
      rw [hφi] at hb
      cases hb
      exact hmp es rfl
    · rw [hφn j hj] at hb
      rw [ho j hj] at hjo
      exact (h.mp j es b hjo hb).mono hle (heap_alloc_old _ _ (h.lt j b hb).2.2)
  · intro j k bj bk hne hj hk hbj hbk
    by_cases h1 : j = i
    · subst h1
      rw [hφi] at hbj
      cases hbj
      rw [hφn k (Ne.symm hne)] at hbk
      have := (h.lt k bk hbk).2.2
      show X.w.heap.size ≠ bk.block
      omega
    · rw [hφn j h1] at hbj
      by_cases h2 : k = i
      · subst h2
        rw [hφi] at hbk
        cases hbk
        have := (h.lt j bj hbj).2.2
        show bj.block ≠ X.w.heap.size
        omega
      · rw [hφn k h2] at hbk
        exact h.sep j k bj bk hne ((live_congr (ho j h1)).1 hj) ((live_congr (ho k h2)).1 hk) hbj hbk
  · intro j b hj hb hF
    by_cases h1 : j = i
    · subst h1
      rw [hφi] at hb
      cases hb
      exact absurd (h.fl _ hF) (Nat.lt_irrefl _)
    · rw [hφn j h1] at hb
      exact h.fz j b ((live_congr (ho j h1)).1 hj) hb hF
  · intro b hb
    have := h.fl b hb
    simp [Ctx.new]
    omega
  · rintro b ⟨j, a, hj, ha, rfl⟩
    by_cases h1 : j = i
    · subst h1
      rw [hφi] at ha
      cases ha
      exact .inr (Nat.le_refl _)
    · rw [hφn j h1] at ha
      exact .inl ⟨j, a, (live_congr (ho j h1)).1 hj, ha, rfl⟩

theorem φ_out {X : Ctx} {H : Heap} (h : HR X H) {i : Nat} (hi : H.length ≤ i) : X.φ i = none := by
  cases hb : X.φ i with
  | none => rfl
  | some b => exact absurd (h.lt i b hb).1 (by omega)

/-- One own block is written; its object says so. q: the object's number behind it (its own, or a new one in its place). -/
theorem Step.write {X : Ctx} {H H' : Heap} {w' : World} (h : HR X H) (p : Nat) (b : Addr) (hp : live H p) (hb : X.φ p = some b) (q : Nat) (b' : Addr) (ob : AObj) (hb' : b'.block = b.block) (hbs : b'.spot = none)
    (hq : q = p ∧ b' = b ∨ q ≠ p ∧ X.φ q = none ∧ ¬ live H' p) (hl : H.length ≤ H'.length) (hi : H'[q]? = some ob) (ho : ∀ j, j ≠ q → j ≠ p → H'[j]? = H[j]?)
    (hwb : ∀ k, k ≠ b.block → w'.heap[k]? = X.w.heap[k]?) (hsz : w'.heap.size = X.w.heap.size)
    (hshape : ∀ (cells : Array Value) (e : TypeId) (fr : Nat × Nat), X.w.heap[b.block]? = some (Go.Obj.cells cells e fr) → ∃ cells', w'.heap[b.block]? = some (Go.Obj.cells cells' e fr) ∧ cells'.size = cells.size)
    (hos : w'.os = X.w.os) (ht : w'.tape = X.w.tape) (hu : w'.output = X.w.output)
    (hrow : ∀ Y : Ctx, Le X Y → Y.w = w' → ∀ cs, ob = .row cs → RowR Y b' cs) (hmp : ∀ Y : Ctx, Le X Y → Y.w = w' → ∀ es, ob = .mp es → MapR Y b' es) :
    Step X H ⟨fun j => if j = q then some b' else X.φ j, X.F, w'⟩ H' := by
  generalize hY : (⟨fun j => if j = q then some b' else X.φ j, X.F, w'⟩ : Ctx) = Y
  have hYw : Y.w = w' := by rw [← hY]
  have hYF : Y.F = X.F := by rw [← hY]
  have hYq : Y.φ q = some b' := by rw [← hY]; simp
  have hYn : ∀ j, j ≠ q → Y.φ j = X.φ j := fun j hj => by rw [← hY]; simp [hj]
  have hqlt : q < H'.length := (List.getElem?_eq_some_iff.1 hi).1
  have hFb : ¬ X.F b.block := h.fz p b hp hb
  have hblt := (h.lt p b hb).2.2
  have hle : Le X Y := by
    refine ⟨fun j a ha => ?_, fun k hk => by rw [hYF]; exact hk, fun k hk => ?_, fun k cells e fr hk => ?_⟩
    · by_cases hj : j = q
      · subst hj
        rcases hq with ⟨rfl, rfl⟩ | ⟨_, h2, _⟩
        · rw [hYq, ← hb]; exact ha
        · rw [h2] at ha; cases ha
      · rw [hYn j hj]; exact ha
    · rw [hYw]
      exact hwb k fun he => hFb (he ▸ hk)
    · rw [hYw]
      by_cases hkb : k = b.block
      · subst hkb; exact hshape cells e fr hk
      · exact ⟨cells, by rw [hwb k hkb]; exact hk, rfl⟩
  have hpq : ∀ j, j ≠ q → live H' j → j ≠ p := fun j hj hlj he => by
    subst he
    rcases hq with ⟨h1, _⟩ | ⟨_, _, h3⟩
    · exact hj h1.symm
    · exact h3 hlj
  have hlive : ∀ j, j ≠ q → live H' j → live H j ∧ j ≠ p := fun j hj hlj => by
    have hjp := hpq j hj hlj
    exact ⟨(live_congr (ho j hj hjp)).1 hlj, hjp⟩
  refine ⟨⟨?_, ?_, ?_, ?_, ?_, ?_⟩, hle, ⟨by rw [hYw, hsz]; exact Nat.le_refl _, fun k hk hn => ?_, hle.shape, ?_, fun k hk => hle.F k hk, fun k hk => .inl (by rw [hYF] at hk; exact hk), by rw [hYw]; exact hos, by rw [hYw]; exact ht, by rw [hYw]; exact hu⟩, hl⟩
  · intro j a ha
    by_cases hj : j = q
    · subst hj
      rw [hYq] at ha
      cases ha
      exact ⟨hqlt, hbs, by rw [hYw, hsz, hb']; exact hblt⟩
    · rw [hYn j hj] at ha
      obtain ⟨h1, h2, h3⟩ := h.lt j a ha
      exact ⟨by omega, h2, by rw [hYw, hsz]; exact h3⟩
  · intro j cs a hjo ha
    by_cases hj : j = q
    · subst hj
      rw [hi] at hjo
      cases hjo
      rw [hYq] at ha
      cases ha
      exact hrow Y hle hYw cs rfl
    · rw [hYn j hj] at ha
      have hlj : live H' j := ⟨_, hjo, rfl⟩
      obtain ⟨h1, h2⟩ := hlive j hj hlj
      rw [ho j hj h2] at hjo
      exact (h.row j cs a hjo ha).mono hle (by rw [hYw]; exact hwb _ (h.sep j p a b h2 h1 hp ha hb))
  · intro j es a hjo ha
    by_cases hj : j = q
    · subst hj
      rw [hi] at hjo
      cases hjo
      rw [hYq] at ha
      cases ha
      exact hmp Y hle hYw es rfl
    · rw [hYn j hj] at ha
      have hlj : live H' j := ⟨_, hjo, rfl⟩
      obtain ⟨h1, h2⟩ := hlive j hj hlj
      rw [ho j hj h2] at hjo
      exact (h.mp j es a hjo ha).mono hle (by rw [hYw]; exact hwb _ (h.sep j p a b h2 h1 hp ha hb))
  · intro j k bj bk hne hj hk hbj hbk
    by_cases h1 : j = q
    · subst h1
      rw [hYq] at hbj
      cases hbj
      rw [hYn k (Ne.symm hne)] at hbk
      obtain ⟨h3, h4⟩ := hlive k (Ne.symm hne) hk
      rw [hb']
      exact h.sep p k b bk (Ne.symm h4) hp h3 hb hbk
    · rw [hYn j h1] at hbj
      obtain ⟨h3, h4⟩ := hlive j h1 hj
      by_cases h2 : k = q
      · subst h2
        rw [hYq] at hbk
        cases hbk
        rw [hb']
        exact h.sep j p bj b h4 h3 hp hbj hb
      · rw [hYn k h2] at hbk
        exact h.sep j k bj bk hne h3 (hlive k h2 hk).1 hbj hbk
  · intro j a hj ha hF
    rw [hYF] at hF
    by_cases h1 : j = q
    · subst h1
      rw [hYq] at ha
      cases ha
      rw [hb'] at hF
      exact hFb hF
    · rw [hYn j h1] at ha
      exact h.fz j a (hlive j h1 hj).1 ha hF
  · intro k hk
    rw [hYF] at hk
    rw [hYw, hsz]
    exact h.fl k hk
  · rw [hYw]
    refine hwb k fun he => hn ⟨p, b, hp, hb, he.symm⟩
  · rintro k ⟨j, a, hj, ha, rfl⟩
    left
    by_cases h1 : j = q
    · subst h1
      rw [hYq] at ha
      cases ha
      exact ⟨p, b, hp, hb, hb'.symm⟩
    · rw [hYn j h1] at ha
      exact ⟨j, a, (hlive j h1 hj).1, ha, rfl⟩

end Go.Proofs.Ytpjjfcgmckpboaa.A
