/- Operations, one behind another, in the order of the text. No condition. -/
import Derived.Test.YtpjjfcgmckpboaaAm12
namespace Go.Proofs.Ytpjjfcgmckpboaa.A
open Go
set_option linter.unusedVariables false
set_option linter.unusedSimpArgs false

section
variable {P : Program} {T : Tab} {n : Nat} {X0 : Ctx} {H0 : Heap}

theorem invoke_run {g : FuncId} {f : Operand} {c : Call} {type : TypeId} {ρ : Operand → Value} {caps : Array Value} {w : World} (hc : c.callee = .value f) (hf : ρ f = .func (.func g) #[] caps) {o : Oper} (ho : o.op = .call c) :
    (execOp ρ o).run P w = (callFunc g (c.args.map ρ ++ caps)).run P w := by
  unfold execOp
  simp only [ho, resolve, hc, hf, Deferred.ofValue, Sem.run_bind, Sem.run_pure, Result.andThen_ok, invoke]
  simp

theorem step_of_calls {X Y : Ctx} {H H' : Heap} (hr : HR X H) (h1 : HR Y H') (h2 : Ext X H Y H') (h3 : ∀ i, i < H.length → Y.φ i = X.φ i) (h4 : H.length ≤ H'.length) : Step X H Y H' :=
  ⟨h1, h2.le hr fun i b hb => by rw [h3 i (hr.lt i b hb).1]; exact hb, h2, h4⟩

theorem call_wp {X : Ctx} {s : St} {a : Act} (h : At n X0 H0 X s a) {o : Oper} (hd : okD n o.dst = true) {c : Call} (ho : o.op = .call c) {f : Operand} (hc : c.callee = .value f) {g : FuncId} {caps : List AV} (hf : ev s.fr f = .fn (.func g) caps)
    {K : AV → Heap → Prop} {Kp : Value → Heap → Prop} (hq : ACalls P g (c.args.toList.map (ev s.fr) ++ caps) s.H (panK K Kp)) {next : Act → World → Prop} {Q : Exit → Act → World → Prop}
    (hK : ∀ Y v H' u, K v H' → At n X0 H0 Y (s.put o.dst v H') (a.put o.dst u) → next (a.put o.dst u) Y.w) (hP : ∀ Y u H', Kp u H' → At n X0 H0 Y ⟨s.fr, H', s.ds⟩ a → plain u = true → Q (.panic [entry u]) a Y.w) : o.wp P a X.w next Q := by
  have hv := h.st.ev f
  rw [hf] at hv
  simp only [VR] at hv
  obtain ⟨caps', hv, hcl⟩ := hv
  have hargs : VL X (c.args.toList.map (ev s.fr) ++ caps) (c.args.map a.eval ++ caps').toList := by
    rw [Array.toList_append, Array.toList_map]
    exact (VL_map h.st.ev _).append hcl
  have hrun := invoke_run (P := P) (type := o.type) (w := X.w) hc hv ho
  have key : ∀ e w', (∃ E H' Y, panK K Kp E H' ∧ Y.w = w' ∧ EndR Y E e ∧ HR Y H' ∧ Ext X s.H Y H' ∧ (∀ i, i < s.H.length → Y.φ i = X.φ i) ∧ s.H.length ≤ H'.length) →
      (match e with | .returned v => next (a.put o.dst v) w' | .panicked ch => Q (.panic ch) a w' | .outgrown => LetsOut Q) := by
    rintro e w' ⟨E, H', Y, hR, rfl, he, h1, h2, h3, h4⟩
    have hst := step_of_calls h.st.hr h1 h2 h3 h4
    cases E with
    | ret v =>
      cases e with
      | returned u => exact hK Y v H' u hR (h.step hst h3 hd he)
      | panicked _ => exact he.elim
      | outgrown => exact he.elim
    | pan u =>
      cases e with
      | returned _ => exact he.elim
      | panicked ch =>
        obtain ⟨rfl, hp⟩ := he
        have := h.step (d := none) (v := undefA) (u := undef) hst h3 rfl VR_undef
        exact hP Y u H' hR this hp
      | outgrown => exact he.elim
  unfold Oper.wp
  rw [hrun]
  rcases hq X _ h.st.hr hargs with ⟨h1, h2⟩ | ⟨v, w1, h1, h2⟩
  · rw [h1]
    exact h2.mono fun e w' he => by
      have := key e w' he
      cases e <;> exact this
  · rw [h1]
    exact key (.returned v) w1 h2

theorem aop_wp (hT : TOk P T) {X : Ctx} {s : St} {a : Act} (h : At n X0 H0 X s a) {o : Oper} (hd : okD n o.dst = true) {K : St → Prop} {Kp : Value → St → Prop} (hq : aop P T o s K Kp) {next : Act → World → Prop} {Q : Exit → Act → World → Prop}
    (hK : ∀ Y s' a', K s' → At n X0 H0 Y s' a' → next a' Y.w) (hP : ∀ Y u s' a', Kp u s' → At n X0 H0 Y s' a' → plain u = true → Q (.panic [entry u]) a' Y.w) : o.wp P a X.w next Q := by
  unfold aop at hq
  split at hq
  · rename_i t x y ho
    obtain ⟨H', w', hk, hrun, hst⟩ := store_run hT h.st.hr hq (h.st.ev x) (h.st.ev y)
    refine upon_of_run (nx := .skip) (v := undef) ?_ (.inr ⟨rfl, rfl⟩) (hK ⟨X.φ, X.F, w'⟩ _ _ (keep_elim hk) (h.step hst (fun _ _ => rfl) hd VR_undef))
    unfold execOp
    simp [ho, hrun]
  · rename_i c ho
    unfold callA at hq
    split at hq
    · rename_i hc
      split at hq
      · rename_i st xt x y h1 h2
        obtain ⟨v, H1, Y, u, hk, hrun, hv, hst, hφ⟩ := app_run (ty := o.type) hT h.st.hr hq (h.st.ev x) (h.st.ev y)
        have e1 : c.argTypes = #[st, xt] := by simpa using congrArg List.toArray h1
        have e2 : c.args = #[x, y] := by simpa using congrArg List.toArray h2
        refine upon_of_run (nx := .value u) (v := u) ?_ (.inl rfl) (hK Y _ _ (keep_elim hk) (h.step hst hφ hd hv))
        unfold execOp
        simp [ho, resolve, hc, invoke, builtin, e1, e2, hrun]
      · exact hq.elim
    · rename_i f hc
      split at hq
      · rename_i g caps hf
        exact call_wp h hd ho hc hf hq (fun Y v H' u hk hat => hK Y _ _ (keep_elim hk) hat) fun Y u H' hk hat hp => hP Y u _ _ hk hat hp
      · exact hq.elim
    · exact q_wp hT h hd hq hK
  · rename_i c ho
    split at hq
    · rename_i f hc
      split at hq
      · rename_i g caps hf
        have hv := h.st.ev f
        rw [hf] at hv
        simp only [VR] at hv
        obtain ⟨caps', hv, hcl⟩ := hv
        have hrun : (execOp a.eval o).run P X.w = .ok (.defer { target := .fn (.func g) caps', args := c.args.map a.eval }) X.w := by
          unfold execOp
          simp [ho, resolve, hc, hv, Deferred.ofValue]
        unfold Oper.wp
        rw [hrun]
        refine hK X ⟨updO s.fr o.dst undefA, s.H, ⟨g, caps, c.args.toList.map (ev s.fr)⟩ :: s.ds⟩ _ hq ?_
        have hp := h.st.put h.st.hr (Le.refl X) hd (VR_undef (X := X))
        have htm : ({ a with defers := { target := .fn (.func g) caps', args := c.args.map a.eval } :: a.defers }.put o.dst undef).tmps = (a.put o.dst undef).tmps := by
          cases o.dst <;> rfl
        refine ⟨⟨?_, ?_, ?_, h.st.hr⟩, h.ext, h.φ, h.len⟩
        · rw [htm]
          exact hp.size
        · intro t
          rw [htm]
          exact hp.fr t
        · have hd' : ({ a with defers := { target := .fn (.func g) caps', args := c.args.map a.eval } :: a.defers }.put o.dst undef).defers = { target := .fn (.func g) caps', args := c.args.map a.eval } :: a.defers := by
            cases o.dst <;> rfl
          rw [hd']
          exact ⟨⟨caps', rfl, hcl, by simpa using VL_map h.st.ev c.args.toList⟩, h.st.ds⟩
      · exact hq.elim
    · exact hq.elim
  · rename_i x ho
    split at hq
    · rename_i t v he
      have hv := h.st.ev x
      rw [he] at hv
      obtain ⟨hv, hp⟩ := VR_iface hv
      have hrun : (execOp a.eval o).run P X.w = .halt (.panic (.iface t v)) X.w := by
        unfold execOp
        simp [ho, hv, Instr.panic]
      unfold Oper.wp
      rw [hrun]
      exact hP X _ _ _ hq h hp
    · exact hq.elim
  · exact q_wp hT h hd hq hK

theorem guard_none {all : Array Oper} {o : Oper} (h : o.guard = none) (tm : Array Value) : Region.wanted o (yielded all tm) = true := by
  simp [Region.wanted, h]
theorem guard_bool {all : Array Oper} {o : Oper} {j : Nat} {want b : Bool} {X : Ctx} {s : St} {a : Act} (hs : StR n X s a) (hdst : ∀ q ∈ all.toList, okD n q.dst = true) (h : o.guard = some (j, want)) (hv : guardV all.toList s.fr j = some (.sc (.bool b))) :
    Region.wanted o (yielded all a.tmps) = (b == want) := by
  unfold guardV at hv
  split at hv
  · rename_i q hq
    rw [nth_eq] at hq
    cases hdq : q.dst with
    | none => rw [hdq] at hv; cases hv
    | some d =>
      rw [hdq] at hv
      simp only [Option.map_some, Option.some.injEq] at hv
      have hd := hdst q (List.mem_of_getElem? hq)
      rw [hdq] at hd
      have hlt : d < n := by simpa [okD] using hd
      have h1 := hs.fr d
      rw [hv, VR_bool] at h1
      have h2 : a.tmps[d]? = some (.bool b) := by
        rw [Array.getD_eq_getD_getElem?, Array.getElem?_eq_getElem (by rw [hs.size]; exact hlt)] at h1
        rw [Array.getElem?_eq_getElem (by rw [hs.size]; exact hlt)]
        simpa using h1
      have h3 : all[j]? = some q := by simpa using hq
      simp only [Region.wanted, h, yielded, h3, Option.bind_some, hdq, h2]
      cases b <;> cases want <;> rfl
  · cases hv
theorem guard_tup {all : Array Oper} {o : Oper} {j : Nat} {want : Bool} {vs : List AV} {X : Ctx} {s : St} {a : Act} (hs : StR n X s a) (h : o.guard = some (j, want)) (hv : guardV all.toList s.fr j = some (.tup vs)) :
    Region.wanted o (yielded all a.tmps) = false := by
  unfold guardV at hv
  split at hv
  · rename_i q hq
    rw [nth_eq] at hq
    cases hdq : q.dst with
    | none => rw [hdq] at hv; cases hv
    | some d =>
      rw [hdq] at hv
      simp only [Option.map_some, Option.some.injEq] at hv
      have h1 := hs.fr d
      rw [hv] at h1
      simp only [VR] at h1
      obtain ⟨ws, h1, _⟩ := h1
      have h3 : all[j]? = some q := by simpa using hq
      have h2 : ∀ b : Bool, a.tmps[d]? ≠ some (.bool b) := fun b hb => by
        rw [Array.getD_eq_getD_getElem?, hb] at h1
        cases h1
      simp only [Region.wanted, h, yielded, h3, Option.bind_some, hdq]
      cases hx : a.tmps[d]? with
      | none => rfl
      | some v => cases v <;> first | rfl | exact absurd hx (h2 _)
  · cases hv

def okOps (n : Nat) : List Oper → Bool
  | [] => true
  | o :: os => bif okD n o.dst then okOps n os else false
theorem okOps_mem {n : Nat} : ∀ {os : List Oper}, okOps n os = true → ∀ q ∈ os, okD n q.dst = true
  | [], _, q, hq => by cases hq
  | o :: os, h, q, hq => by
    cases ho : okD n o.dst with
    | false => simp [okOps, ho] at h
    | true =>
      simp only [okOps, ho, cond_true] at h
      cases hq with
      | head => exact ho
      | tail _ hm => exact okOps_mem h q hm

/-- The operations of a region, in the order of the text. -/
theorem ops_wp (hT : TOk P T) {all : Array Oper} (hok : okOps n all.toList = true) {K : St → Prop} {Kp : Value → St → Prop} {Q : Exit → Act → World → Prop}
    (hK : ∀ Y s' a', K s' → At n X0 H0 Y s' a' → Q .normal a' Y.w) (hP : ∀ Y u s' a', Kp u s' → At n X0 H0 Y s' a' → plain u = true → Q (.panic [entry u]) a' Y.w) :
    ∀ (l : List Oper) (k : Nat), (∀ j, l[j]? = all[k + j]?) → k + l.length = all.size → ∀ (X : Ctx) (s : St) (a : Act), At n X0 H0 X s a → awpOps P T all.toList K Kp l s → wpOps P all Q (List.range' k l.length) a X.w
  | [], k, _, _, X, s, a, h, hq => by
    simp only [List.length_nil, List.range'_zero, wpOps]
    exact hK X s a hq h
  | o :: l, k, hl, hlen, X, s, a, h, hq => by
    have h0 : all[k]? = some o := by simpa using (hl 0).symm
    have hmem : o ∈ all.toList := List.mem_of_getElem? (i := k) (by simpa using h0)
    have hd := okOps_mem hok o hmem
    have hrest : ∀ Y s' a', awpOps P T all.toList K Kp l s' → At n X0 H0 Y s' a' → wpOps P all Q (List.range' (k + 1) l.length) a' Y.w := fun Y s' a' hk hat =>
      ops_wp hT hok hK hP l (k + 1) (fun j => by have := hl (j + 1); simpa [Nat.add_assoc, Nat.add_comm 1 j] using this) (by simp at hlen; omega) Y s' a' hat hk
    have hskip : s.keep o.dst undefA s.H (awpOps P T all.toList K Kp l) → wpOps P all Q (List.range' (k + 1) l.length) (a.put o.dst undef) X.w := fun hk =>
      hrest X _ _ (keep_elim hk) (h.step (Step.refl h.st.hr) (fun _ _ => rfl) hd VR_undef)
    have hrun : aop P T o s (awpOps P T all.toList K Kp l) Kp → o.wp P a X.w (wpOps P all Q (List.range' (k + 1) l.length)) Q := fun hk => aop_wp hT h hd hk hrest hP
    simp only [List.length_cons, List.range'_succ, wpOps, h0]
    simp only [awpOps, aopG] at hq
    split at hq
    · rename_i hg
      rw [if_pos (guard_none hg _)]
      exact .inl (hrun hq)
    · rename_i j want hg
      split at hq
      · rename_i b hv
        have hw := guard_bool h.st (okOps_mem hok) hg hv
        rw [hw]
        cases want <;> cases b <;> simp only [If] at hq
        · exact .inl (hrun hq)
        · exact hskip hq
        · exact hskip hq
        · exact .inl (hrun hq)
      · rename_i vs hv
        rw [guard_tup h.st hg hv]
        exact hskip hq
      · exact hq.elim
end
end Go.Proofs.Ytpjjfcgmckpboaa.A
