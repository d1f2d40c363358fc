/- Statements whose order is open: whatever the order, what was asked suffices. No condition. -/
import Derived.Test.YtpjjfcgmckpboaaAmD5
namespace Go.Proofs.Ytpjjfcgmckpboaa.A
open Go
set_option linter.unusedVariables false
set_option linter.unusedSimpArgs false

section
variable {P : Program} {T : Tab} {n : Nat} {X0 : Ctx} {H0 : Heap} {Q : Exit → Act → World → Prop}

/-- What an operation leaves of the places: its own is put. -/
theorem wp_put {o : Oper} {a : Act} {w : World} {K : Act → World → Prop} (h : o.wp P a w K Q) : o.wp P a w (fun a' w' => K a' w' ∧ ∃ u, a'.tmps = (a.put o.dst u).tmps) Q := by
  unfold Oper.wp at *
  generalize (execOp a.eval o).run P w = r at *
  cases r with
  | ok nx w' =>
    cases nx <;> simp only [Oper.upon] at h ⊢ <;> first
      | exact h
      | exact ⟨h, _, rfl⟩
      | exact ⟨h, undef, by cases o.dst <;> rfl⟩
      | exact Calls.mono h (fun e w'' he => by cases e <;> first | exact ⟨he, _, rfl⟩ | exact he)
      | exact Rows.mono h (fun u _ he => ⟨he, _, rfl⟩)
  | halt x w' => cases x <;> simp only [Oper.upon] at h ⊢ <;> exact h

def unl (S : Array Bool) : Nat → Nat
  | 0 => 0
  | m + 1 => unl S m + (match S.getD m true with | true => 0 | false => 1)
theorem unl_set {S : Array Bool} {i : Nat} (hi : S.getD i true = false) : ∀ m, unl (S.setIfInBounds i true) m + (if i < m then 1 else 0) = unl S m
  | 0 => by simp [unl]
  | m + 1 => by
    have ih := unl_set hi m
    have hlt : i < S.size := by
      rcases Nat.lt_or_ge i S.size with h | h
      · exact h
      · rw [Array.getD_eq_getD_getElem?, Array.getElem?_eq_none h] at hi
        simp at hi
    simp only [unl]
    by_cases he : m = i
    · subst he
      have h1 : (S.setIfInBounds m true).getD m true = true := by
        rw [Array.getD_eq_getD_getElem?, Array.getElem?_setIfInBounds_self_of_lt hlt]
        rfl
      rw [h1, hi]
      simp only [Nat.lt_irrefl, if_false] at ih
      simp
      omega
    · rw [getD_set_ne true (Ne.symm he)]
      by_cases hlm : i < m
      · rw [if_pos hlm] at ih
        rw [if_pos (by omega)]
        omega
      · rw [if_neg hlm] at ih
        rw [if_neg (by omega)]
        omega

/-- What is known on the way. -/
structure DI (P : Program) (T : Tab) (n : Nat) (X0 : Ctx) (H0 : Heap) (E : DE) (es done : List Nat) (k : Nat) (S : Array Bool) (X : Ctx) (a : Act) (F : Fr) (H : Heap) (ds : List AD) : Prop where
  size : S.size = E.ops.length
  closed : ∀ i o, S.getD i false = true → nth E.ops i = some o → ∀ p ∈ bnd o, S.getD p false = true
  lev : ∀ i, S.getD i false = true → getN E.lv i ≤ k
  effs : ∀ i o, nth E.ops i = some o → effB o = true → S.getD i false = false → i ∈ es
  done : ∀ e ∈ done, S.getD e false = true
  fr : ∀ t, (∀ i o, nth E.ops i = some o → o.dst = some t → S.getD i false = true) → VR X (F t) (a.tmps.getD t undef)
  fr0 : ∀ t, (∀ i o, nth E.ops i = some o → o.dst = some t → S.getD i false = false) → VR X (E.f0 t) (a.tmps.getD t undef)
  slot : ∀ i o, nth E.ops i = some o → allocB o = true → S.getD i false = false → X.φ (slotAt E i) = none
  slen : ∀ i o, nth E.ops i = some o → allocB o = true → slotAt E i < H.length
  tsz : a.tmps.size = n
  hds : DL X ds a.defers
  hr : HR X H
  ext : Ext X0 H0 X H
  φ : ∀ i, i < H0.length → X.φ i = X0.φ i
  len : H0.length ≤ H.length
variable {E : DE} {es done : List Nat} {k : Nat} {S : Array Bool} {X : Ctx} {a : Act} {F : Fr} {H : Heap} {ds : List AD}
theorem getD_tf {S : Array Bool} {i : Nat} (h : S.getD i false = true) : S.getD i true = true := by
  rw [Array.getD_eq_getD_getElem?] at h ⊢
  cases hq : S[i]? with
  | none => rw [hq] at h; cases h
  | some b => rw [hq] at h; exact h
theorem getD_ft {S : Array Bool} {i : Nat} (h : S.getD i true = false) : S.getD i false = false := by
  rw [Array.getD_eq_getD_getElem?] at h ⊢
  cases hq : S[i]? with
  | none => rfl
  | some b => rw [hq] at h; exact h
theorem getD_fl {S : Array Bool} {i : Nat} (h : S.getD i true = false) : i < S.size := by
  rcases Nat.lt_or_ge i S.size with h1 | h1
  · exact h1
  · rw [Array.getD_eq_getD_getElem?, Array.getElem?_eq_none h1] at h
    cases h
theorem getD_lt {S : Array Bool} {i : Nat} (h : S.getD i false = true) : i < S.size := by
  rcases Nat.lt_or_ge i S.size with h1 | h1
  · exact h1
  · rw [Array.getD_eq_getD_getElem?, Array.getElem?_eq_none h1] at h
    cases h
theorem anc_in (hc : CK E) (hcl : ∀ i o, S.getD i false = true → nth E.ops i = some o → ∀ p ∈ bnd o, S.getD p false = true) : ∀ (i : Nat) (o : Oper), nth E.ops i = some o → (∀ p ∈ bnd o, S.getD p false = true) → ∀ p, bits (getL E.am i) p = true → S.getD p false = true := by
  intro i
  induction i using Nat.strongRecOn with
  | _ i ih =>
    intro o ho hb p hp
    rcases hc.am i o p ho hp with h | ⟨q, h, h'⟩
    · exact hb p h
    · have hq := hc.lt i o ho q h
      have := nth_lt ho
      have hx : nth E.ops q = some E.ops[q] := by rw [nth_eq]; exact List.getElem?_eq_getElem (by omega)
      exact ih q hq _ hx (hcl q _ (hb q h) hx) p h'
/-- What a ready operation sees is so. -/
theorem DI.see (hc : CK E) (d : DI P T n X0 H0 E es done k S X a F H ds) {i : Nat} {o : Oper} (ho : nth E.ops i = some o) (hi : S.getD i false = false) (hb : ∀ p ∈ bnd o, S.getD p false = true) :
    At n X0 H0 X ⟨opF E F i o, H, ds⟩ a := by
  refine ⟨⟨d.tsz, fun t => ?_, d.hds, d.hr⟩, d.ext, d.φ, d.len⟩
  simp only [opF]
  rw [hc.lk i o ho]
  cases hl : (look E.ops o).any (Nat.beq t) with
  | false => simp [VR]
  | true =>
    simp only [cond_true]
    cases hw : writer E.ops 0 t with
    | none => exact d.fr0 t fun j q hj hd => absurd hd (writer_none hw j q hj)
    | some w =>
      simp only
      cases hbt : bits (getL E.am i) w with
      | true =>
        simp only [cond_true]
        have hw1 := anc_in hc d.closed i o ho hb w hbt
        exact d.fr t fun j q hj hd => by rw [← writer_at hc hj hd hw]; exact hw1
      | false =>
        simp only [cond_false]
        refine d.fr0 t fun j q hj hd => ?_
        have hwj := writer_at hc hj hd hw
        subst hwj
        cases hS : S.getD w false with
        | false => rfl
        | true =>
          exfalso
          by_cases hwi : w = i
          · rw [hwi, hi] at hS; cases hS
          · rcases hc.reads w q i o t hj ho hwi hd (mem_any.1 hl) with h | h
            · rw [h] at hbt; cases hbt
            · have := anc_in hc d.closed w q hj (d.closed w q hS hj) i h
              rw [hi] at this
              cases this
theorem getD_set (S : Array Bool) (i j : Nat) (hi : i < S.size) : (S.setIfInBounds i true).getD j false = if i = j then true else S.getD j false := by
  split
  · rename_i h
    subst h
    rw [Array.getD_eq_getD_getElem?, Array.getElem?_setIfInBounds_self_of_lt hi]
    rfl
  · rename_i h
    exact getD_set_ne false h
theorem put_get {a : Act} {d : Option Nat} {u : Value} {t : Nat} (h : d ≠ some t) : (a.put d u).tmps.getD t undef = a.tmps.getD t undef := by
  cases d with
  | none => rfl
  | some d =>
    have hne : d ≠ t := fun he => h (by rw [he])
    simp only [Act.put]
    rw [Array.getD_eq_getD_getElem?, Array.getElem?_setIfInBounds_ne hne, ← Array.getD_eq_getD_getElem?]
theorem put_same {a : Act} {u : Value} {t : Nat} (h : t < a.tmps.size) : (a.put (some t) u).tmps.getD t undef = u := by
  simp only [Act.put]
  rw [Array.getD_eq_getD_getElem?, Array.getElem?_setIfInBounds_self_of_lt h]
  rfl
/-- A quiet operation has been done. -/
theorem DI.quiet (hc : CK E) (d : DI P T n X0 H0 E es done k S X a F H ds) {i : Nat} {o : Oper} (ho : nth E.ops i = some o) (hi : S.getD i true = false) (hb : ∀ p ∈ bnd o, S.getD p false = true) (he : effB o = false) (hl : getN E.lv i ≤ k) (hd : okD n o.dst = true)
    {Y : Ctx} {v : AV} {u : Value} (hst : Step X H Y H) (hφ : ∀ j q, nth E.ops j = some q → j ≠ i → allocB q = true → Y.φ (slotAt E j) = X.φ (slotAt E j)) (hφ0 : ∀ j, j < H0.length → Y.φ j = X.φ j) (hv : VR Y v u) (hF : ∀ t, o.dst = some t → v = F t) :
    DI P T n X0 H0 E es done k (S.setIfInBounds i true) Y (a.put o.dst u) F H ds := by
  have hsz := getD_fl hi
  have hg := getD_set S i
  refine ⟨by simp [d.size], fun j q hj hq p hp => ?_, fun j hj => ?_, fun j q hq hf hj => ?_, fun e hm => ?_, fun t ht => ?_, fun t ht => ?_, fun j q hq ha hj => ?_, d.slen, ?_, ?_, hst.hr, d.ext.trans hst.ext, fun j hj => (hφ0 j hj).trans (d.φ j hj), d.len⟩
  · rw [hg _ hsz] at hj ⊢
    split
    · rfl
    · split at hj
      · rename_i h; subst h
        rw [ho] at hq; cases hq
        exact hb p hp
      · exact d.closed j q hj hq p hp
  · rw [hg _ hsz] at hj
    split at hj
    · rename_i h; subst h; exact hl
    · exact d.lev j hj
  · rw [hg _ hsz] at hj
    split at hj
    · cases hj
    · exact d.effs j q hq hf hj
  · rw [hg _ hsz]
    split
    · rfl
    · exact d.done e hm
  · by_cases hdt : o.dst = some t
    · rw [hdt] at hd ⊢
      rw [put_same (by rw [d.tsz]; simpa [okD] using hd), ← hF t hdt]
      exact hv
    · rw [put_get hdt]
      refine VR.mono hst.le _ _ (d.fr t fun j q hq hqd => ?_)
      have := ht j q hq hqd
      rw [hg _ hsz] at this
      split at this
      · rename_i h; subst h
        rw [ho] at hq; cases hq
        exact absurd hqd hdt
      · exact this
  · have hdt : o.dst ≠ some t := fun hdt => by
      have := ht i o ho hdt
      rw [hg _ hsz, if_pos rfl] at this
      cases this
    rw [put_get hdt]
    refine VR.mono hst.le _ _ (d.fr0 t fun j q hq hqd => ?_)
    have := ht j q hq hqd
    rw [hg _ hsz] at this
    split at this
    · cases this
    · exact this
  · rw [hg _ hsz] at hj
    split at hj
    · cases hj
    · rename_i h
      rw [hφ j q hq (Ne.symm h) ha]
      exact d.slot j q hq ha hj
  · cases o.dst <;> simp [Act.put, d.tsz]
  · have : (a.put o.dst u).defers = a.defers := by cases o.dst <;> rfl
    rw [this]
    exact d.hds.mono hst.le
end
end Go.Proofs.Ytpjjfcgmckpboaa.A
