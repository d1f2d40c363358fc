/- Statements whose order is open: the proof. No condition. -/
import Derived.Test.YtpjjfcgmckpboaaAmD6
namespace Go.Proofs.Ytpjjfcgmckpboaa.A
open Go
set_option linter.unusedVariables false
set_option linter.unusedSimpArgs false

section
variable {P : Program} {T : Tab} {n : Nat} {X0 : Ctx} {H0 : Heap} {Q : Exit → Act → World → Prop} {ops : Array Oper}
variable {E : DE} {es done : List Nat} {k : Nat} {S : Array Bool} {X : Ctx} {a : Act} {F : Fr} {H : Heap} {ds : List AD}

def Cont (P : Program) (T : Tab) (E : DE) (K : St → Prop) (es : List Nat) (k : Nat) (done : List Nat) (F : Fr) (H : Heap) (ds : List AD) : Prop :=
  match es with
  | [] => K ⟨F, H, ds⟩
  | j :: es => match nth E.ops j with
     | some o => aopG P T E.ops o ⟨opF E F j o, H, ds⟩ (fun s =>
         match s, o.dst with
         | ⟨fr, H, ds⟩, some t => force (fr t) fun v => epochs P T E K es (k + 1) (j :: done) (upd F t v) H ds
         | ⟨fr, H, ds⟩, none => epochs P T E K es (k + 1) (j :: done) F H ds) (fun _ _ => False)
     | none => False
theorem epochs_eq (K : St → Prop) : epochs P T E K es k done F H ds = pass1 T E k (fun F H => pass2 T E k done F H (Cont P T E K es k done F H ds) E.ops 0) E.ops 0 F H := by
  cases es <;> rfl
def QS (T : Tab) (E : DE) (k : Nat) (S : Array Bool) (F : Fr) (H : Heap) : Prop := ∀ i o, nth E.ops i = some o → effB o = false → S.getD i false = false → getN E.lv i ≤ k → QG T E i o F H
theorem HR.patch {H' : Heap} (hr : HR X H) (hl : H'.length = H.length) (h : ∀ m, X.φ m ≠ none → H'[m]? = H[m]?) : HR X H' := by
  have hne : ∀ {i b}, X.φ i = some b → X.φ i ≠ none := fun h h' => by rw [h] at h'; cases h'
  have hlive : ∀ {i b}, X.φ i = some b → live H' i → live H i := fun hb ⟨o, h1, h2⟩ => ⟨o, by rw [← h _ (hne hb)]; exact h1, h2⟩
  refine ⟨fun i b hb => ?_, fun i cs b hi hb => ?_, fun i es b hi hb => ?_, fun i j bi bj hij hi hj hbi hbj => ?_, fun i b hi hb => ?_, hr.fl⟩
  · rw [hl]; exact hr.lt i b hb
  · rw [h _ (hne hb)] at hi; exact hr.row i cs b hi hb
  · rw [h _ (hne hb)] at hi; exact hr.mp i es b hi hb
  · exact hr.sep i j bi bj hij (hlive hbi hi) (hlive hbj hj) hbi hbj
  · exact hr.fz i b (hlive hb hi) hb
theorem Ext.patch {H' : Heap} (he : Ext X0 H0 X H) (h : ∀ m, X.φ m ≠ none → H'[m]? = H[m]?) : Ext X0 H0 X H' :=
  ⟨he.size, he.keep, he.shape, fun b ⟨i, ad, ⟨o, h1, h2⟩, hi, hb⟩ => he.own b ⟨i, ad, ⟨o, by rw [← h i (by rw [hi]; simp)]; exact h1, h2⟩, hi, hb⟩, he.F, he.Fn, he.os, he.tape, he.output⟩
/-- A new epoch has been looked at. -/
theorem DI.open_ (hc : CK E) (d : DI P T n X0 H0 E es done k S X a F H ds) (fresh : ∀ i o, nth E.ops i = some o → effB o = false → getN E.lv i = k → S.getD i false = false)
    (old : ∀ i o, nth E.ops i = some o → freeB o = true → S.getD i false = false → getN E.lv i < k → QG T E i o F H) {K : St → Prop} (h : epochs P T E K es k done F H ds) :
    ∃ F' H', DI P T n X0 H0 E es done k S X a F' H' ds ∧ QS T E k S F' H' ∧ Cont P T E K es k done F' H' ds := by
  rw [epochs_eq] at h
  obtain ⟨F', H', h1, h2, h3, h4, h5⟩ := p1 hc E.ops 0 F H (fun i => by rw [Nat.zero_add]) h
  obtain ⟨h6, h7⟩ := p2 E.ops 0 (fun i => by rw [Nat.zero_add]) h1
  have hpatch : ∀ m, X.φ m ≠ none → H'[m]? = H[m]? := fun m hm => h4 m fun i o ho ha he hl hs => hm (by rw [← hs]; exact d.slot i o ho ha (fresh i o ho he hl))
  refine ⟨F', H', ⟨d.size, d.closed, d.lev, d.effs, d.done, fun t ht => ?_, d.fr0, d.slot, fun i o ho ha => by rw [h3]; exact d.slen i o ho ha, d.tsz, d.hds, d.hr.patch h3 hpatch, d.ext.patch hpatch, d.φ, by rw [h3]; exact d.len⟩, fun i o ho he hS hl => ?_, h6⟩
  · rw [h2 t fun i o _ ho hd => ?_]
    · exact d.fr t ht
    · cases he : effB o with
      | true => exact .inl rfl
      | false =>
        right
        intro hl
        have := fresh i o ho he hl
        rw [ht i o ho hd] at this
        cases this
  · cases hf : freeB o with
    | true =>
      rcases Nat.lt_or_ge (getN E.lv i) k with hlt | hge
      · obtain ⟨v, hv1, hv2⟩ := old i o ho hf hS hlt
        refine ⟨v, runQ_free hf (opF_congr fun t w hw hb => ?_) hv1, fun t hd => ?_⟩
        · symm
          refine h2 t fun i' o' _ ho' hd' => .inr ?_
          have := writer_at hc ho' hd' hw
          subst this
          have := (hc.mono i o w ho (nth_lt ho') hb).1
          omega
        · rw [hv2 t hd]
          symm
          refine h2 t fun i' o' _ ho' hd' => .inr ?_
          have h8 := writer_is hc ho hd
          have := writer_at hc ho' hd' h8
          subst this
          omega
      · exact h5 i o (Nat.zero_le _) ho he (by omega) hf
    | false =>
      refine h7 i o (Nat.zero_le _) ho he hf hl ?_
      unfold openB
      rw [Bool.not_eq_true']
      cases hx : done.any fun e => bits (getL E.am e) i with
      | false => rfl
      | true =>
        exfalso
        rw [List.any_eq_true] at hx
        obtain ⟨e, he1, he2⟩ := hx
        have hSe := d.done e he1
        have hlt := getD_lt hSe
        rw [d.size] at hlt
        have hx : nth E.ops e = some E.ops[e] := by rw [nth_eq]; exact List.getElem?_eq_getElem hlt
        have := anc_in hc d.closed e _ hx (d.closed e _ hSe hx) i he2
        rw [hS] at this
        cases this
theorem chkE_lv : ∀ {es : List Nat} {k : Nat} {prev : Option Nat}, chkE E es k prev = true → ∀ i ∈ es, k ≤ getN E.lv i
  | [], _, _, _, i, h => by cases h
  | j :: es, k, prev, hc, i, h => by
    simp only [chkE, Bool.and_eq_true] at hc
    cases h with
    | head => rw [Nat.eq_of_beq_eq_true hc.1.1.2]; exact Nat.le_refl _
    | tail _ h => exact Nat.le_of_succ_le (chkE_lv hc.2 i h)
theorem chkE_prev : ∀ {es : List Nat} {k j : Nat}, chkE E es k (some j) = true → ∀ i ∈ es, ∃ p, (p = j ∨ p ∈ es) ∧ bits (getL E.am i) p = true
  | [], _, _, _, i, h => by cases h
  | j' :: es, k, j, hc, i, h => by
    simp only [chkE, Bool.and_eq_true] at hc
    cases h with
    | head => exact ⟨j, .inl rfl, hc.1.2⟩
    | tail _ h =>
      obtain ⟨p, h1, h2⟩ := chkE_prev hc.2 i h
      refine ⟨p, .inr ?_, h2⟩
      rcases h1 with rfl | h1
      · exact .head _
      · exact .tail _ h1
theorem bnd_mem {o : Oper} {e : Edge} (h : e ∈ o.after) (hb : Region.binds .any e = true) : e.on ∈ bnd o := by
  unfold bnd
  rw [List.mem_map]
  exact ⟨e, List.mem_filter.2 ⟨by simpa using h, hb⟩, rfl⟩
theorem mem_bnd {o : Oper} {p : Nat} (h : p ∈ bnd o) : ∃ e ∈ o.after, Region.binds .any e = true ∧ e.on = p := by
  unfold bnd at h
  rw [List.mem_map] at h
  obtain ⟨e, h1, h2⟩ := h
  rw [List.mem_filter] at h1
  exact ⟨e, by simpa using h1.1, h1.2, h2⟩
theorem all_listed (hc : CK E) (hops : E.ops = ops.toList) (hsz : S.size = E.ops.length) (hr : Region.ready .any ops S = []) : ∀ i, i < E.ops.length → S.getD i true = true := by
  intro i
  induction i using Nat.strongRecOn with
  | _ i ih =>
    intro hi
    cases hS : S.getD i true with
    | true => rfl
    | false =>
      exfalso
      have ho : ops[i]? = some E.ops[i] := by
        have : ops.toList[i]? = some E.ops[i] := by rw [← hops]; exact List.getElem?_eq_getElem hi
        simpa using this
      have hn : nth E.ops i = some E.ops[i] := by rw [nth_eq]; exact List.getElem?_eq_getElem hi
      have : i ∈ Region.ready .any ops S := mem_ready.2 ⟨hS, _, ho, fun e he hb => by
        have h1 := hc.lt i _ hn e.on (bnd_mem he hb)
        have h2 := ih e.on h1 (by omega)
        rw [Array.getD_eq_getD_getElem?] at h2 ⊢
        rw [Array.getElem?_eq_getElem (by omega)] at h2 ⊢
        exact h2⟩
      rw [hr] at this
      cases this
/-- One that is quiet, run. -/
theorem runQ_wp (hT : TOk P T) (hops : E.ops = ops.toList) (hok : okOps n E.ops = true) {i : Nat} {o : Oper} (ho : nth E.ops i = some o) (hat : At n X0 H0 X ⟨opF E F i o, H, ds⟩ a) (hsl : allocB o = true → X.φ (slotAt E i) = none ∧ slotAt E i < H.length)
    {v : AV} (h : runQ T E i o F H (fun u G => u = v ∧ G = H)) {next : Act → World → Prop}
    (hn : ∀ Y u, Step X H Y H → (∀ j, (allocB o = true → j ≠ slotAt E i) → j < H.length → Y.φ j = X.φ j) → VR Y v u → next (a.put o.dst u) Y.w) :
    wpOp P ops Q i next a X.w := by
  have hoi : ops[i]? = some o := by
    rw [hops, nth_eq] at ho
    simpa using ho
  have key : aopQ T o (opF E F i o) H (slotAt E i) (fun ob => H.set (slotAt E i) ob) (fun u G => u = v ∧ G = H) → o.wp P a X.w next Q := fun h => by
    cases ha : allocB o with
    | true =>
      obtain ⟨h1, h2⟩ := hsl ha
      have hN : NewAt X H (slotAt E i) (fun ob => H.set (slotAt E i) ob) := ⟨h1, fun ob => by simp, fun ob => by rw [List.getElem?_set_self h2], fun ob j hj => by rw [List.getElem?_set_ne (Ne.symm hj)]⟩
      obtain ⟨v', H1, Y, u, nx, ⟨rfl, rfl⟩, hrun, hnx, hv, hst, hφ⟩ := aopQ_run hT hat.st.hr hat.st.ev hN h
      exact upon_of_run hrun hnx (hn Y u hst (fun j hj _ => hφ j (hj ha)) hv)
    | false =>
      obtain ⟨v', H1, Y, u, nx, ⟨rfl, rfl⟩, hrun, hnx, hv, hst, hφ⟩ := aopQ_run hT hat.st.hr hat.st.ev (NewAt.push hat.st.hr) (aopQ_na ha h)
      exact upon_of_run hrun hnx (hn Y u hst (fun j _ hj => hφ j (Nat.ne_of_lt hj)) hv)
  have hskip : v = undefA → next (a.put o.dst undef) X.w := fun he => hn X undef (Step.refl hat.st.hr) (fun _ _ _ => rfl) (by rw [he]; exact VR_undef)
  have hokA : ∀ q ∈ ops.toList, okD n q.dst = true := by rw [← hops]; exact okOps_mem hok
  unfold wpOp
  rw [hoi]
  simp only
  unfold runQ at h
  split at h
  · rename_i hg
    rw [if_pos (guard_none hg _)]
    exact .inl (key h)
  · rename_i g want hg
    split at h
    · rename_i b hb
      rw [hops] at hb
      have hw := guard_bool hat.st hokA hg hb
      rw [hw]
      cases want <;> cases b <;> simp only at h
      · exact .inl (key h)
      · exact hskip h.1.symm
      · exact hskip h.1.symm
      · exact .inl (key h)
    · rename_i vs hb
      rw [hops] at hb
      rw [guard_tup hat.st hg hb]
      exact hskip h.1.symm
    · exact h.elim
end
end Go.Proofs.Ytpjjfcgmckpboaa.A
