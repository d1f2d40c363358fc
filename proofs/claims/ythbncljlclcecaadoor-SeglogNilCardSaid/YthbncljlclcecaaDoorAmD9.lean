/- Statements whose order is open: whatever the order. No condition. -/
import Derived.Test.YthbncljlclcecaaDoorAmD7
namespace Go.Proofs.YthbncljlclcecaaDoor.A
open Go
set_option linter.unusedVariables false
set_option linter.unusedSimpArgs false

section
variable {P : Program} {T : Tab} {n : Nat} {X0 : Ctx} {H0 : Heap} {Q : Exit → Act → World → Prop} {ops : Array Oper}
variable {E : DE}

theorem head_step (hT : TOk P T) {E : DE} (hc : CK E) (hops : E.ops = ops.toList) (hok : okOps n E.ops = true) (hN : H0.length ≤ E.N0) {K : St → Prop} {Kp : Value → St → Prop}
    (hP : ∀ Y u s' a', Kp u s' → At n X0 H0 Y s' a' → plain u = true → Q (.panic [entry u]) a' Y.w) {fuel i k : Nat} {es' done : List Nat} {S : Array Bool} {X : Ctx} {a : Act} {F : Fr} {H : Heap} {ds : List AD} {o : Oper}
    (d : DI P T n X0 H0 E (i :: es') done k S X a F H ds) (hqs : QS T E k S F H) (hlv : getN E.lv i = k + 1) (ho : nth E.ops i = some o) (hoi : ops[i]? = some o) (he : effB o = true) (h0 : S.getD i true = false) (hb : ∀ p ∈ bnd o, S.getD p false = true)
    (hcont : effG P T E Kp i F H ds fun F H ds => epochs P T E K Kp es' (k + 1) (i :: done) F H ds)
    (ihh : ∀ (Y : Ctx) (a' : Act) (F' : Fr) (H'' : Heap) (ds' : List AD), DI P T n X0 H0 E es' (i :: done) (k + 1) (S.setIfInBounds i true) Y a' F' H'' ds' → QS T E (k + 1) (S.setIfInBounds i true) F' H'' → Cont P T E K Kp es' (k + 1) (i :: done) F' H'' ds' → wpAny P .any ops Q fuel (S.setIfInBounds i true) a' Y.w) :
    wpOp P ops Q i (wpAny P .any ops Q fuel (S.setIfInBounds i true)) a X.w := by
  have hlt := getD_fl h0
  have hlt' : i < E.ops.length := by rw [← d.size]; exact hlt
  have hf0 := getD_ft h0
  have hat := d.see hc ho hf0 hb
  have hd : okD n o.dst = true := okOps_mem hok o (by rw [nth_eq] at ho; exact List.mem_of_getElem? ho)
  unfold effG at hcont
  rw [ho] at hcont
  simp only at hcont
  -- what comes behind the step
  have next : ∀ (Y : Ctx) (s' : St) (a' : Act), (match s', o.dst with
      | ⟨fr, H, ds⟩, some t => force (fr t) fun v => epochs P T E K Kp es' (k + 1) (i :: done) (upd F t v) H ds
      | ⟨fr, H, ds⟩, none => epochs P T E K Kp es' (k + 1) (i :: done) F H ds) → At n X H Y s' a' → (∃ u, a'.tmps = (a.put o.dst u).tmps) → wpAny P .any ops Q fuel (S.setIfInBounds i true) a' Y.w := by
    intro Y s' a' hk hat' ⟨u, hu1⟩
    obtain ⟨fr', H', ds'⟩ := s'
    have hle : Le X Y := hat'.ext.le d.hr fun j b hb => by rw [hat'.φ j (d.hr.lt j b hb).1]; exact hb
    obtain ⟨F1, hF1, hep⟩ : ∃ F1 : Fr, (∀ t, F1 t = (match o.dst with | some d => bif Nat.beq t d then fr' d else F t | none => F t)) ∧ epochs P T E K Kp es' (k + 1) (i :: done) F1 H' ds' := by
      cases hdd : o.dst with
      | some t =>
        simp only [hdd] at hk
        exact ⟨_, fun t' => rfl, force_elim hk⟩
      | none =>
        simp only [hdd] at hk
        exact ⟨_, fun t' => rfl, hk⟩
    have hF1n : ∀ t, o.dst ≠ some t → F1 t = F t := fun t ht => by
      rw [hF1]
      cases hdd : o.dst with
      | none => rfl
      | some d' =>
        simp only
        cases hq : Nat.beq t d' with
        | false => rfl
        | true => exact absurd (by rw [hdd, Nat.eq_of_beq_eq_true hq]) ht
    have ha't : ∀ t, o.dst ≠ some t → a'.tmps.getD t undef = a.tmps.getD t undef := fun t ht => by rw [hu1, put_get ht]
    have hg := getD_set S i
    have d1 : DI P T n X0 H0 E es' (i :: done) (k + 1) (S.setIfInBounds i true) Y a' F1 H' ds' := by
      refine ⟨by simp [d.size], fun j q hj hq p hp => ?_, fun j hj => ?_, fun j q hq hf hj => ?_, fun e hm => ?_, fun t ht => ?_, fun t ht => ?_, fun j q hq ha hj => ?_, fun j q hq ha => ?_, ?_, hat'.st.ds, hat'.st.hr, d.ext.trans hat'.ext, fun j hj => ?_, ?_⟩
      · rw [hg _ hlt] at hj ⊢
        split
        · rfl
        · split at hj
          · rename_i h; subst h
            rw [ho] at hq; cases hq
            exact hb p hp
          · exact d.closed j q hj hq p hp
      · rw [hg _ hlt] at hj
        split at hj
        · rename_i h; subst h; omega
        · exact Nat.le_succ_of_le (d.lev j hj)
      · rw [hg _ hlt] at hj
        split at hj
        · cases hj
        · rename_i h
          cases d.effs j q hq hf hj with
          | head => exact absurd rfl h
          | tail _ hm => exact hm
      · rw [hg _ hlt]
        split
        · rfl
        · cases hm with
          | head => rename_i h; exact absurd rfl h
          | tail _ hm => exact d.done e hm
      · by_cases hdt : o.dst = some t
        · have := hat'.st.fr t
          rw [hF1, hdt]
          simp only [Nat.beq_refl, cond_true]
          exact this
        · rw [ha't t hdt, hF1n t hdt]
          refine VR.mono hle _ _ (d.fr t fun j q hq hqd => ?_)
          have := ht j q hq hqd
          rw [hg _ hlt] at this
          split at this
          · rename_i h; subst h
            rw [ho] at hq; cases hq
            exact absurd hqd hdt
          · exact this
      · have hdt : o.dst ≠ some t := fun hdt => by
          have := ht i o ho hdt
          rw [hg _ hlt, if_pos rfl] at this
          cases this
        rw [ha't t hdt]
        refine VR.mono hle _ _ (d.fr0 t fun j q hq hqd => ?_)
        have := ht j q hq hqd
        rw [hg _ hlt] at this
        split at this
        · cases this
        · exact this
      · rw [hg _ hlt] at hj
        split at hj
        · cases hj
        · rw [hat'.φ _ (d.slen j q hq ha)]
          exact d.slot j q hq ha hj
      · exact Nat.lt_of_lt_of_le (d.slen j q hq ha) hat'.len
      · exact hat'.st.size
      · rw [hat'.φ j (Nat.lt_of_lt_of_le hj d.len)]
        exact d.φ j hj
      · exact Nat.le_trans d.len hat'.len
    have fresh : ∀ j q, nth E.ops j = some q → effB q = false → getN E.lv j = k + 1 → (S.setIfInBounds i true).getD j false = false := fun j q hq hqe hql => by
      rw [hg _ hlt]
      split
      · rename_i h; subst h
        rw [ho] at hq; cases hq
        rw [he] at hqe; cases hqe
      · cases hS : S.getD j false with
        | false => rfl
        | true =>
          have := d.lev j hS
          omega
    have old : ∀ j q, nth E.ops j = some q → freeB q = true → (S.setIfInBounds i true).getD j false = false → getN E.lv j < k + 1 → QG T E j q F1 H' := fun j q hq hqf hj hjl => by
      rw [hg _ hlt] at hj
      split at hj
      · cases hj
      · rename_i hij
        obtain ⟨v, hv1, hv2⟩ := hqs j q hq (free_eff hqf) hj (by omega)
        refine ⟨v, runQ_free hqf (opF_congr fun t w hw hbt => ?_) hv1, fun t hd' => ?_⟩
        · symm
          refine hF1n t fun hdt => ?_
          have := writer_at hc ho hdt hw
          subst this
          have := (hc.mono j q w hq hlt' hbt).1
          omega
        · rw [hv2 t hd']
          symm
          exact hF1n t fun hdt => hc.uniq i o j q t ho hq hij hdt hd'
    obtain ⟨F', H'', d2, hq2, hcont2⟩ := d1.open_ hc fresh old hep
    exact ihh Y a' F' H'' ds' d2 hq2 hcont2
  have hokA : ∀ q ∈ ops.toList, okD n q.dst = true := by rw [← hops]; exact okOps_mem hok
  have at0 : At n X H X ⟨opF E F i o, H, ds⟩ a := ⟨hat.st, Ext.refl X H, fun _ _ => rfl, Nat.le_refl _⟩
  have hrun : aop P T o ⟨opF E F i o, H, ds⟩ (fun s => match s, o.dst with
      | ⟨fr, H, ds⟩, some t => force (fr t) fun v => epochs P T E K Kp es' (k + 1) (i :: done) (upd F t v) H ds
      | ⟨fr, H, ds⟩, none => epochs P T E K Kp es' (k + 1) (i :: done) F H ds) (fun u s => Kp u ⟨panF E, s.H, s.ds⟩) → o.wp P a X.w (wpAny P .any ops Q fuel (S.setIfInBounds i true)) Q := fun h => by
    have h1 := wp_put (aop_wp (Q := fun e a' w' => ∃ u Y s', e = .panic [entry u] ∧ Y.w = w' ∧ Kp u ⟨panF E, s'.H, s'.ds⟩ ∧ At n X H Y s' a' ∧ plain u = true) hT at0 hd h (next := fun a' w' => ∃ Y s', Y.w = w' ∧ (match s', o.dst with
      | ⟨fr, H, ds⟩, some t => force (fr t) fun v => epochs P T E K Kp es' (k + 1) (i :: done) (upd F t v) H ds
      | ⟨fr, H, ds⟩, none => epochs P T E K Kp es' (k + 1) (i :: done) F H ds) ∧ At n X H Y s' a') (fun Y s' a' hk ha => ⟨Y, s', rfl, hk, ha⟩) (fun Y u s' a' hk ha hpl => ⟨u, Y, s', rfl, rfl, hk, ha, hpl⟩))
    refine wp_pan (Oper.wp_mono (K' := wpAny P .any ops Q fuel (S.setIfInBounds i true)) ?_ h1) ?_ (fun a' w' ⟨u, Y, s', he, _⟩ => by cases he)
    · rintro a' w' ⟨⟨Y, s', rfl, hk, ha⟩, hu⟩
      exact next Y s' a' hk ha hu
    · rintro ch w' ⟨u, Y, s', he, rfl, hk, ha, hpl⟩
      cases he
      have hle : Le X Y := ha.ext.le d.hr fun j b hb => by rw [ha.φ j (d.hr.lt j b hb).1]; exact hb
      refine hP Y u ⟨panF E, s'.H, s'.ds⟩ a hk ⟨⟨d.tsz, fun t => ?_, ha.st.ds, ha.st.hr⟩, d.ext.trans ha.ext, fun j hj => (ha.φ j (Nat.lt_of_lt_of_le hj d.len)).trans (d.φ j hj), Nat.le_trans d.len ha.len⟩ hpl
      simp only [panF]
      cases hw : writer E.ops 0 t with
      | none => exact VR.mono hle _ _ (d.fr0 t fun j q hq hqd => absurd hqd (writer_none hw j q hq))
      | some w => simp [VR]
  have hskip : St.keep ⟨opF E F i o, H, ds⟩ o.dst undefA H (fun s => match s, o.dst with
      | ⟨fr, H, ds⟩, some t => force (fr t) fun v => epochs P T E K Kp es' (k + 1) (i :: done) (upd F t v) H ds
      | ⟨fr, H, ds⟩, none => epochs P T E K Kp es' (k + 1) (i :: done) F H ds) → wpAny P .any ops Q fuel (S.setIfInBounds i true) (a.put o.dst undef) X.w := fun h =>
    next X _ _ (keep_elim h) (at0.step (Step.refl at0.st.hr) (fun _ _ => rfl) hd VR_undef) ⟨undef, rfl⟩
  unfold wpOp
  rw [hoi]
  simp only
  unfold aopG at hcont
  split at hcont
  · rename_i hg
    rw [if_pos (guard_none hg _)]
    exact .inl (hrun hcont)
  · rename_i g want hg
    split at hcont
    · rename_i b hbv
      rw [hops] at hbv
      have hw := guard_bool hat.st hokA hg hbv
      rw [hw]
      cases want <;> cases b <;> simp only at hcont
      · exact .inl (hrun hcont)
      · exact hskip hcont
      · exact hskip hcont
      · exact .inl (hrun hcont)
    · rename_i vs hbv
      rw [hops] at hbv
      rw [guard_tup hat.st hg hbv]
      exact hskip hcont
    · exact hcont.elim
theorem DI.swap {a b : Nat} {done : List Nat} {k : Nat} {S : Array Bool} {X : Ctx} {ac : Act} {F : Fr} {H : Heap} {ds : List AD} (d : DI P T n X0 H0 E [a, b] done k S X ac F H ds) (ha : getN E.lv a = k + 1) (hb : getN E.lv b = k + 2) :
    DI P T n X0 H0 (swE E a b) [b, a] done k S X ac F H ds := by
  refine ⟨d.size, d.closed, fun i hi => ?_, fun i o ho he hS => ?_, d.done, d.fr, d.fr0, d.slot, d.slen, d.tsz, d.hds, d.hr, d.ext, d.φ, d.len⟩
  · have h1 := d.lev i hi
    have n1 : i ≠ a := fun e => by subst e; omega
    have n2 : i ≠ b := fun e => by subst e; omega
    show getN (setN (setN E.lv a (getN E.lv b)) b (getN E.lv a)) i ≤ k
    rw [getN_ne n2, getN_ne n1]
    exact h1
  · have := d.effs i o ho he hS
    simp only [List.mem_cons, List.not_mem_nil, or_false] at this ⊢
    exact this.symm
theorem QS.swap {a b k : Nat} {S : Array Bool} {F : Fr} {H : Heap} (h : QS T E k S F H) (ha : ∀ o, nth E.ops a = some o → effB o = true) (hb : ∀ o, nth E.ops b = some o → effB o = true) : QS T (swE E a b) k S F H := by
  intro i o ho he hS hl
  have n1 : i ≠ a := fun e => by subst e; rw [ha o ho] at he; cases he
  have n2 : i ≠ b := fun e => by subst e; rw [hb o ho] at he; cases he
  have hl' : getN (setN (setN E.lv a (getN E.lv b)) b (getN E.lv a)) i ≤ k := hl
  rw [getN_ne n2, getN_ne n1] at hl'
  exact h i o ho he hS hl'
theorem draw_any (hT : TOk P T) {K : St → Prop} {Kp : Value → St → Prop}
    (hK : ∀ Y s' a', K s' → At n X0 H0 Y s' a' → Q .normal a' Y.w) (hP : ∀ Y u s' a', Kp u s' → At n X0 H0 Y s' a' → plain u = true → Q (.panic [entry u]) a' Y.w) :
    ∀ (fuel : Nat) (E : DE) (hc : CK E) (hops : E.ops = ops.toList) (hok : okOps n E.ops = true) (hN : H0.length ≤ E.N0) (es done : List Nat) (k : Nat) (S : Array Bool) (X : Ctx) (a : Act) (F : Fr) (H : Heap) (ds : List AD) (prev : Option Nat),
      DI P T n X0 H0 E es done k S X a F H ds → QS T E k S F H → Cont P T E K Kp es k done F H ds → chkE E es (k + 1) prev = true → unl S E.ops.length ≤ fuel → wpAny P .any ops Q fuel S a X.w := by
  have fin : ∀ (E : DE) (es done : List Nat) (k : Nat) (S : Array Bool) (X : Ctx) (a : Act) (F : Fr) (H : Heap) (ds : List AD) (prev : Option Nat),
      DI P T n X0 H0 E es done k S X a F H ds → Cont P T E K Kp es k done F H ds → chkE E es (k + 1) prev = true → (∀ i, i < E.ops.length → S.getD i true = true) → Q .normal a X.w := by
    intro E es done k S X a F H ds prev d hcont hch hall
    have hallf : ∀ i, i < E.ops.length → S.getD i false = true := fun i hi => by
      have := hall i hi
      have hlt : i < S.size := by rw [d.size]; exact hi
      rw [Array.getD_eq_getD_getElem?, Array.getElem?_eq_getElem hlt] at this ⊢
      exact this
    cases es with
    | nil => exact hK X _ a hcont ⟨⟨d.tsz, fun t => d.fr t fun i o ho _ => hallf i (nth_lt ho), d.hds, d.hr⟩, d.ext, d.φ, d.len⟩
    | cons j es =>
      exfalso
      have h1 := chkE_lv hch j (.head _)
      have hst : ∃ nx, effG P T E Kp j F H ds nx := by
        simp only [Cont] at hcont
        split at hcont
        · exact ⟨_, hcont⟩
        · exact ⟨_, hcont.2.1⟩
      obtain ⟨nx, hst⟩ := hst
      unfold effG at hst
      split at hst
      · rename_i o ho
        have := d.lev j (hallf j (nth_lt ho))
        omega
      · exact hst
  intro fuel
  induction fuel with
  | zero =>
    intro E hc hops hok hN es done k S X a F H ds prev d hqs hcont hch hu
    have hall : ∀ m, m ≤ E.ops.length → unl S m = 0 → ∀ i, i < m → S.getD i true = true := by
      intro m
      induction m with
      | zero => intro _ _ i hi; omega
      | succ m ih =>
        intro hm h i hi
        simp only [unl] at h
        rcases Nat.lt_or_ge i m with h1 | h1
        · exact ih (by omega) (by omega) i h1
        · have : i = m := by omega
          subst this
          cases hS : S.getD i true with
          | true => rfl
          | false => rw [hS] at h; simp at h
    have hall := hall _ (Nat.le_refl _) (by omega)
    refine ⟨?_, fin E es done k S X a F H ds prev d hcont hch hall⟩
    cases hr : Region.ready .any ops S with
    | nil => rfl
    | cons i l =>
      exfalso
      have hi : i ∈ Region.ready .any ops S := by rw [hr]; exact .head _
      obtain ⟨h0, o, ho, _⟩ := mem_ready.1 hi
      have hlt := getD_fl h0
      rw [d.size] at hlt
      rw [hall i hlt] at h0
      cases h0
  | succ fuel ih =>
    intro E hc hops hok hN es done k S X a F H ds prev d hqs hcont hch hu
    refine ⟨fun hr => fin E es done k S X a F H ds prev d hcont hch (all_listed hc hops d.size hr), fun i hi => ?_⟩
    obtain ⟨h0, o, hoi, hpre⟩ := mem_ready.1 hi
    have hlt := getD_fl h0
    have hlt' : i < E.ops.length := by rw [← d.size]; exact hlt
    have ho : nth E.ops i = some o := by
      rw [hops, nth_eq]
      simpa using hoi
    have hb : ∀ p ∈ bnd o, S.getD p false = true := fun p hp => by
      obtain ⟨e, h1, h2, rfl⟩ := mem_bnd hp
      exact hpre e h1 h2
    have hf0 := getD_ft h0
    have hat := d.see hc ho hf0 hb
    have hd : okD n o.dst = true := okOps_mem hok o (by rw [nth_eq] at ho; exact List.mem_of_getElem? ho)
    have hu' : unl (S.setIfInBounds i true) E.ops.length ≤ fuel := by
      have := unl_set h0 E.ops.length
      rw [if_pos hlt'] at this
      omega
    cases he : effB o with
    | false =>
      have hl : getN E.lv i ≤ k := by
        rcases hc.lv i o ho he with h | ⟨p, hp, h⟩
        · omega
        · rw [← h]; exact d.lev p (hb p hp)
      obtain ⟨v, hv, hF⟩ := hqs i o ho he hf0 hl
      refine runQ_wp hT hops hok ho hat (fun ha => ⟨d.slot i o ho ha hf0, d.slen i o ho ha⟩) hv fun Y u hst hφ hvu => ?_
      have hslots : ∀ j q, nth E.ops j = some q → j ≠ i → allocB q = true → Y.φ (slotAt E j) = X.φ (slotAt E j) := fun j q hq hji hqa =>
        hφ _ (fun ha => fun hs => hc.slot j q i o hq ho hji hqa ha (by unfold slotAt at hs; omega)) (d.slen j q hq hqa)
      have hlow : ∀ j, j < H0.length → Y.φ j = X.φ j := fun j hj => hφ j (fun _ hs => by unfold slotAt at hs; omega) (Nat.lt_of_lt_of_le hj d.len)
      refine ih E hc hops hok hN es done k _ Y _ F H ds prev (d.quiet hc ho h0 hb he hl hd hst hslots hlow hvu hF) (fun j q hq hqe hj hjl => ?_) hcont hch hu'
      rw [getD_set S i j hlt] at hj
      split at hj
      · cases hj
      · exact hqs j q hq hqe hj hjl
    | true =>
      have hmem := d.effs i o ho he hf0
      have hlt2 : ∀ j es', es = j :: es' → ∃ o, nth E.ops j = some o ∧ effB o = true ∧ getN E.lv j = k + 1 := fun j es' e => by
        subst e
        simp only [chkE, Bool.and_eq_true] at hch
        obtain ⟨q, hq, h1⟩ := efB_some hch.1.1.1
        exact ⟨q, hq, h1, Nat.eq_of_beq_eq_true hch.1.1.2⟩
      cases hes : es with
      | nil => rw [hes] at hmem; cases hmem
      | cons j es' =>
        obtain ⟨oj, hoj, hej, hlj⟩ := hlt2 j es' hes
        subst hes
        by_cases hij : i = j
        · subst hij
          have hst : effG P T E Kp i F H ds fun F H ds => epochs P T E K Kp es' (k + 1) (i :: done) F H ds := by
            simp only [Cont] at hcont
            split at hcont
            · exact hcont
            · exact hcont.2.1
          obtain ⟨prev', hch2⟩ := chkE_next hch
          exact head_step hT hc hops hok hN hP d hqs hlj ho hoi he h0 hb hst fun Y a' F' H'' ds' d2 hq2 hc2 => ih E hc hops hok hN es' (i :: done) (k + 1) _ Y a' F' H'' ds' prev' d2 hq2 hc2 hch2 hu'
        · have hm : i ∈ es' := by
            cases hmem with
            | head => exact absurd rfl hij
            | tail _ hm => exact hm
          cases hsw : swB E j es' with
          | none =>
            exfalso
            obtain ⟨p, hp, hbit⟩ := chkE_tail hch hsw hm
            have h1 := anc_in hc d.closed i o ho hb p hbit
            have h2 := d.lev p h1
            have h3 : k + 1 ≤ getN E.lv p := by
              rcases hp with rfl | hp
              · exact chkE_lv hch p (.head _)
              · exact chkE_lv hch p (.tail _ hp)
            omega
          | some b =>
            have hb1 := swB_some hsw
            subst hb1
            simp only [List.mem_singleton] at hm
            subst hm
            have hli : getN E.lv i = k + 2 := by
              simp only [chkE, lastB, Bool.and_eq_true] at hch
              exact Nat.eq_of_beq_eq_true hch.2.1.2
            have hcs : Ob (chk (swE E j i) = true) (effG P T E Kp j F H ds (fun F H ds => epochs P T E K Kp [i] (k + 1) (j :: done) F H ds) ∧ effG P T (swE E j i) Kp i F H ds fun F H ds => epochs P T (swE E j i) K Kp [j] (k + 1) (i :: done) F H ds) := by
              simp only [Cont, hsw] at hcont
              exact hcont
            have hc' := ck hcs.1
            have l1 : getN (swE E j i).lv i = k + 1 := by
              show getN (setN (setN E.lv j (getN E.lv i)) i (getN E.lv j)) i = k + 1
              rw [getN_eq (by rw [getN_ne hij]; omega)]
              exact hlj
            have l2 : getN (swE E j i).lv j = k + 2 := by
              show getN (setN (setN E.lv j (getN E.lv i)) i (getN E.lv j)) j = k + 2
              rw [getN_ne (Ne.symm hij), getN_eq (by omega)]
              exact hli
            have hch2 : chkE (swE E j i) [j] (k + 2) none = true := by
              have e1 : nth (swE E j i).ops j = some oj := hoj
              simp only [chkE, lastB, efB, ordB, e1, l2, hej, Nat.beq_refl, Bool.and_self]
            exact head_step (E := swE E j i) hT hc' hops hok hN hP (d.swap hlj hli) (hqs.swap (fun q hq => by rw [hoj] at hq; cases hq; exact hej) (fun q hq => by rw [ho] at hq; cases hq; exact he)) l1 ho hoi he h0 hb hcs.2.2 fun Y a' F' H'' ds' d2 hq2 hc2 => ih (swE E j i) hc' hops hok hN [j] (i :: done) (k + 1) _ Y a' F' H'' ds' none d2 hq2 hc2 hch2 hu'
end
end Go.Proofs.YthbncljlclcecaaDoor.A

namespace Go.Proofs.YthbncljlclcecaaDoor.A
open Go
set_option linter.unusedVariables false
set_option linter.unusedSimpArgs false

theorem unl_le (S : Array Bool) : ∀ m, unl S m ≤ m
  | 0 => Nat.le_refl _
  | m + 1 => by
    have := unl_le S m
    simp only [unl]
    split <;> omega
theorem HR.pad {X : Ctx} {H H' : Heap} (hr : HR X H) (hl : H.length ≤ H'.length) (h : ∀ m, X.φ m ≠ none → H'[m]? = H[m]?) : HR X H' := by
  have hne : ∀ {i b}, X.φ i = some b → X.φ i ≠ none := fun h h' => by rw [h] at h'; cases h'
  have hlive : ∀ {i b}, X.φ i = some b → live H' i → live H i := fun hb ⟨o, h1, h2⟩ => ⟨o, by rw [← h _ (hne hb)]; exact h1, h2⟩
  refine ⟨fun i b hb => ?_, fun i cs b hi hb => ?_, fun i es b hi hb => ?_, fun i j bi bj hij hi hj hbi hbj => ?_, fun i b hi hb => ?_, hr.fl⟩
  · have := hr.lt i b hb
    exact ⟨by omega, this.2⟩
  · rw [h _ (hne hb)] at hi; exact hr.row i cs b hi hb
  · rw [h _ (hne hb)] at hi; exact hr.mp i es b hi hb
  · exact hr.sep i j bi bj hij (hlive hbi hi) (hlive hbj hj) hbi hbj
  · exact hr.fz i b (hlive hb hi) hb
theorem draw_sound {P : Program} {T : Tab} {n : Nat} {X0 : Ctx} {H0 : Heap} (hT : TOk P T) (hm : P.follows .mixedOrders = true) {ops : Array Oper} (hok : okOps n ops.toList = true) {K : St → Prop} {Kp : Value → St → Prop} {Q : Exit → Act → World → Prop}
    {X : Ctx} {s : St} {a : Act} (h : At n X0 H0 X s a) (hq : awpDraw P T ops K Kp s)
    (hK : ∀ Y s' a', K s' → At n X0 H0 Y s' a' → Q .normal a' Y.w) (hP : ∀ Y u s' a', Kp u s' → At n X0 H0 Y s' a' → plain u = true → Q (.panic [entry u]) a' Y.w) {id : Nat} : (Code.region id ops true).wp P Q a X.w := by
  obtain ⟨fr, H, ds⟩ := s
  obtain ⟨lv, am, sl, es, lk, hchk, hep⟩ := hq
  have hc := ck hchk
  refine wp_region_any hm ?_
  have hst : Step X H (X.at { X.w with drawn := X.w.drawn + 1 }) H := Step.same h.st.hr rfl rfl rfl rfl rfl rfl
  have hS : ∀ i, (Array.replicate ops.size false).getD i false = false := fun i => by
    rw [Array.getD_eq_getD_getElem?, Array.getElem?_replicate]
    split <;> rfl
  have hpatch : ∀ m, (X.at { X.w with drawn := X.w.drawn + 1 }).φ m ≠ none → (H ++ List.replicate (countB allocB ops.toList) AObj.dead)[m]? = H[m]? := fun m hm => by
    cases hb : (X.at { X.w with drawn := X.w.drawn + 1 }).φ m with
    | none => exact absurd hb hm
    | some b => rw [List.getElem?_append_left (hst.hr.lt m b hb).1]
  have d : DI P T n X0 H0 ⟨ops.toList, lv, am, sl, es, lk, fr, H.length⟩ es [] 0 (Array.replicate ops.size false) (X.at { X.w with drawn := X.w.drawn + 1 }) a fr (H ++ List.replicate (countB allocB ops.toList) AObj.dead) ds := by
    refine ⟨by simp, fun i o hi => ?_, fun i hi => ?_, fun i o ho he _ => hc.inEs i o ho he, fun e he => (by cases he), fun t _ => VR.mono hst.le _ _ (h.st.fr t), fun t _ => VR.mono hst.le _ _ (h.st.fr t), fun i o ho ha _ => ?_, fun i o ho ha => ?_, h.st.size, h.st.ds.mono hst.le, hst.hr.pad (by simp) hpatch, (h.ext.trans hst.ext).patch hpatch, h.φ, ?_⟩
    · rw [hS] at hi; cases hi
    · rw [hS] at hi; cases hi
    · cases hb : (X.at { X.w with drawn := X.w.drawn + 1 }).φ (slotAt ⟨ops.toList, lv, am, sl, es, lk, fr, H.length⟩ i) with
      | none => rfl
      | some b =>
        have := (hst.hr.lt _ b hb).1
        simp only [slotAt] at this
        omega
    · have := hc.slen i o ho ha
      have h2 : getN sl i < countB allocB ops.toList := this
      simp only [slotAt, List.length_append, List.length_replicate]
      omega
    · have : H0.length ≤ H.length := h.len
      simp
      omega
  obtain ⟨F', H', d', hqs, hcont⟩ := d.open_ hc (fun i o _ _ _ => hS i) (fun i o _ _ _ hl => absurd hl (Nat.not_lt_zero _)) hep
  refine draw_any hT hK hP ops.size ⟨ops.toList, lv, am, sl, es, lk, fr, H.length⟩ hc rfl hok h.len _ _ _ _ _ a _ _ _ none d' hqs hcont hc.chain ?_
  have := unl_le (Array.replicate ops.size false) ops.toList.length
  simpa using this
end Go.Proofs.YthbncljlclcecaaDoor.A
