/- Functions that defer calls; deferred functions, and what comes up is caught. No condition. -/
import Derived.Test.YtgchhmfobkcnfaaAm18
namespace Go.Proofs.Ytgchhmfobkcnfaa.A
open Go
set_option linter.unusedVariables false
set_option linter.unusedSimpArgs false

/-- How a function is left: it returns, or something came up (and was caught). -/
inductive AM where
  | ret
  | pan (u : Value) (got : Bool)
def modeOf : AM → FrameMode
  | .ret => .returning
  | .pan u b => .panicking [{ v := u, recovered := b }]
def settleA : AM → AM
  | .pan _ true => .ret
  | m => m
theorem settle_modeOf (m : AM) : settle (modeOf m) = modeOf (settleA m) := by
  cases m with
  | ret => rfl
  | pan u b => cases b <;> rfl
/-- What a deferred function does, told abstractly; it returns. -/
def ACallsD (P : Program) (g : FuncId) (args : List AV) (H : Heap) (m : AM) (R : AM → Heap → Prop) : Prop :=
  ∀ (X : Ctx) (as : Array Value), HR X H → VL X args as.toList →
    (callFunc g as).run P X.w = .ok (.enter g as) X.w ∧ CallsD P g as (modeOf m) X.w fun e u' w' => ∃ v m' H' Y, e = .returned v ∧ u' = modeOf m' ∧ R m' H' ∧ Y.w = w' ∧ HR Y H' ∧ Ext X H Y H' ∧ (∀ i, i < H.length → Y.φ i = X.φ i) ∧ H.length ≤ H'.length
section
variable {P : Program} {T : Tab}
theorem enter_run {g : FuncId} {fn : Func} {c : Code} (hf : P.funcs[g]? = some fn) (hb : fn.body = some c) (hnm : (fn.name == "runtime.NumGoroutine") = false) (as : Array Value) (w : World) : (callFunc g as).run P w = .ok (.enter g as) w := by
  simp only [callFunc, Sem.run_bind, run_program, Result.andThen_ok, hf, hnm, Bool.false_eq_true, if_false]
  simp [hb]
/-- What the end of a deferred function tells. -/
def endD (R : Heap → Prop) : AEnd → Heap → Prop
  | .ret _, H => R H
  | .pan _, _ => False
theorem endD_post {n : Nat} {X : Ctx} {H : Heap} {fn : Func} (hT : TOk P T) {R : Heap → Prop} {E : AX} {s : St} {Y : Ctx} {a : Act} {e : Exit} (hk : endK T fn.results.toList H.length (endD R) E s) (he : ExR E e) (hat : At n X H Y s a) :
    (e = .normal ∨ e = .ret) ∧ a.defers = [] ∧ ∃ v H' Z, (results fn a.tmps).run P Y.w = .ok v Y.w ∧ R H' ∧ Z.w = Y.w ∧ HR Z H' ∧ Ext X H Z H' ∧ (∀ i, i < H.length → Z.φ i = X.φ i) ∧ H.length ≤ H'.length := by
  have hds : s.ds = [] → a.defers = [] := fun hz => by
    have := hat.st.ds
    rw [hz] at this
    cases hq : a.defers with
    | nil => rfl
    | cons d ds => rw [hq] at this; exact this.elim
  cases E with
  | normal =>
    cases e <;> first | exact he.elim | skip
    obtain ⟨hd, H', v, h1, h2⟩ := hk
    obtain ⟨Z, u, h3, h4, h5, h6, h7, h8, h9⟩ := endV_ok hT hat h1
    exact ⟨.inl rfl, hds hd, u, H', Z, h4, h2, h3, h6, h7, h8, h9⟩
  | ret =>
    cases e <;> first | exact he.elim | skip
    obtain ⟨hd, H', v, h1, h2⟩ := hk
    obtain ⟨Z, u, h3, h4, h5, h6, h7, h8, h9⟩ := endV_ok hT hat h1
    exact ⟨.inr rfl, hds hd, u, H', Z, h4, h2, h3, h6, h7, h8, h9⟩
  | pan u =>
    obtain ⟨hd, H', h1, h2, h3, h4⟩ := hk
    exact h4.elim
  | exit i => exact hk.elim
/-- A deferred function that catches nothing. -/
theorem acallsD_of_awp (hT : TOk P T) (hm : P.follows .mixedOrders = true) {g : FuncId} {fn : Func} {c : Code} (hf : P.funcs[g]? = some fn) (hb : fn.body = some c) (hnm : (fn.name == "runtime.NumGoroutine") = false) (hok : okCode fn.ntmps c = true)
    {args : List AV} {H : Heap} {m : AM} {R : AM → Heap → Prop} (hn : args.length ≤ fn.ntmps) (h : awp P T H.length [] c (endK T fn.results.toList H.length (endD (R m))) ⟨fr0 args, H, []⟩) : ACallsD P g args H m R := by
  intro X as hr hv
  refine ⟨enter_run hf hb hnm as X.w, ?_⟩
  refine (callsD_of_wp (R := fun e w' => ∃ v H' Y, e = .returned v ∧ R m H' ∧ Y.w = w' ∧ HR Y H' ∧ Ext X H Y H' ∧ (∀ i, i < H.length → Y.φ i = X.φ i) ∧ H.length ≤ H'.length) hf hb ?_).mono ?_
  · refine wp_mono (awp_sound (cuts := []) (n := fn.ntmps) hT hm c hok _ X _ _ (At.enter hr hv hn) h) ?_
    rintro e a w ⟨E, s, Y, hk, he, rfl, hat⟩
    obtain ⟨h1, h2, v, H', Z, h3, h4, h5, h6, h7, h8, h9⟩ := endD_post hT hk he hat
    rcases h1 with rfl | rfl
    · exact ⟨h2, v, h3, v, H', Z, rfl, h4, h5, h6, h7, h8, h9⟩
    · exact ⟨h2, v, h3, v, H', Z, rfl, h4, h5, h6, h7, h8, h9⟩
  · rintro e u' w' ⟨rfl, v, H', Y, h1, h2⟩
    exact ⟨v, m, H', Y, h1, rfl, h2⟩
/-! ### What comes up is caught -/
theorem opsS_step {Q : Exit → Act → List Frame → World → Prop} {ops : Array Oper} {i : Nat} {rest : List Nat} {a : Act} {cs : List Frame} {w : World} {o : Oper} (ho : ops[i]? = some o) (hw : Region.wanted o (yielded ops a.tmps) = true)
    (h : o.wp P a w (fun a' w' => wpOpsS P ops Q rest a' cs w') (fun e a' w' => Q e a' cs w')) : wpOpsS P ops Q (i :: rest) a cs w := by
  simp only [wpOpsS, ho, hw, if_true]
  unfold Oper.wp at h
  generalize (execOp a.eval o).run P w = r at *
  split
  · simp only [Oper.upon] at h
  · exact h
theorem opsS_skip {Q : Exit → Act → List Frame → World → Prop} {ops : Array Oper} {i : Nat} {rest : List Nat} {a : Act} {cs : List Frame} {w : World} {o : Oper} (ho : ops[i]? = some o) (hw : Region.wanted o (yielded ops a.tmps) = false)
    (h : wpOpsS P ops Q rest (a.put o.dst undef) cs w) : wpOpsS P ops Q (i :: rest) a cs w := by
  simp only [wpOpsS, ho, hw, Bool.false_eq_true, if_false]
  exact h
theorem opsS_wp {n : Nat} {X0 : Ctx} {H0 : Heap} (hT : TOk P T) {all : Array Oper} (hok : okOps n all.toList = true) {K : St → Prop} {Kp : Value → St → Prop} {Q : Exit → Act → List Frame → World → Prop} {cs : List Frame}
    (hK : ∀ Y s' a', K s' → At n X0 H0 Y s' a' → Q .normal a' cs Y.w) (hP : ∀ Y u s' a', Kp u s' → At n X0 H0 Y s' a' → plain u = true → Q (.panic [entry u]) a' cs Y.w) :
    ∀ (l : List Oper) (k : Nat), (∀ j, l[j]? = all[k + j]?) → k + l.length = all.size → ∀ (X : Ctx) (s : St) (a : Act), At n X0 H0 X s a → awpOps P T all.toList K Kp l s → wpOpsS P all Q (List.range' k l.length) a cs X.w
  | [], k, _, _, X, s, a, h, hq => by
    simp only [List.length_nil, List.range'_zero, wpOpsS]
    exact hK X s a hq h
  | o :: l, k, hl, hlen, X, s, a, h, hq => by
    have h0 : all[k]? = some o := by simpa using (hl 0).symm
    have hmem : o ∈ all.toList := List.mem_of_getElem? (i := k) (by simpa using h0)
    have hd := okOps_mem hok o hmem
    have hrest : ∀ Y s' a', awpOps P T all.toList K Kp l s' → At n X0 H0 Y s' a' → wpOpsS P all Q (List.range' (k + 1) l.length) a' cs Y.w := fun Y s' a' hk hat =>
      opsS_wp hT hok hK hP l (k + 1) (fun j => by have := hl (j + 1); simpa [Nat.add_assoc, Nat.add_comm 1 j] using this) (by simp at hlen; omega) Y s' a' hat hk
    have hskip : s.keep o.dst undefA s.H (awpOps P T all.toList K Kp l) → wpOpsS P all Q (List.range' (k + 1) l.length) (a.put o.dst undef) cs X.w := fun hk =>
      hrest X _ _ (keep_elim hk) (h.step (Step.refl h.st.hr) (fun _ _ => rfl) hd VR_undef)
    have hrun : aop P T o s (awpOps P T all.toList K Kp l) Kp → o.wp P a X.w (fun a' w' => wpOpsS P all Q (List.range' (k + 1) l.length) a' cs w') (fun e a' w' => Q e a' cs w') := fun hk =>
      aop_wp hT h hd hk (fun Y s' a' hk' hat => hrest Y s' a' hk' hat) (fun Y u s' a' hk' hat hp => hP Y u s' a' hk' hat hp)
    simp only [List.length_cons, List.range'_succ]
    simp only [awpOps, aopG] at hq
    split at hq
    · rename_i hg
      exact opsS_step h0 (guard_none hg _) (hrun hq)
    · rename_i j want hg
      split at hq
      · rename_i b hv
        have hw := guard_bool h.st (okOps_mem hok) hg hv
        cases want <;> cases b <;> simp only [If] at hq
        · exact opsS_step h0 (by rw [hw]; rfl) (hrun hq)
        · exact opsS_skip h0 (by rw [hw]; rfl) (hskip hq)
        · exact opsS_skip h0 (by rw [hw]; rfl) (hskip hq)
        · exact opsS_step h0 (by rw [hw]; rfl) (hrun hq)
      · rename_i vs hv
        exact opsS_skip h0 (guard_tup h.st hg hv) (hskip hq)
      · exact hq.elim
/-- What recover gives, and what it leaves. -/
def recV : AM → AV
  | .pan u false => .sc u
  | _ => .sc .nilIface
def recU : AM → Value
  | .pan u false => u
  | _ => .nilIface
def recM : AM → AM
  | .pan u false => .pan u true
  | m => m
def isRec (o : Oper) : Bool :=
  match o.op with
  | .call c => match c.callee with
    | .builtin .recover => true
    | _ => false
  | _ => false
theorem rec_run {o : Oper} (h : isRec o = true) (ρ : Operand → Value) (w : World) : (execOp ρ o).run P w = .ok .recover w := by
  obtain ⟨dst, op, type, pos, after, guard⟩ := o
  unfold isRec at h
  split at h
  · rename_i c hc
    split at h
    · rename_i hb
      obtain ⟨callee, args, at_⟩ := c
      simp only at hc hb
      subst hc hb
      simp [execOp, resolve, invoke, builtin]
    · cases h
  · cases h
/-- A deferred function that catches what came up. -/
theorem acallsD_of_rec (hT : TOk P T) (hm : P.follows .mixedOrders = true) {g : FuncId} {fn : Func} {id : Nat} {ops : Array Oper} {rest : Code} {o : Oper} {os : List Oper} (hf : P.funcs[g]? = some fn) (hb : fn.body = some (.seq (.region id ops false) rest)) (hnm : (fn.name == "runtime.NumGoroutine") = false)
    (hok : okCode fn.ntmps (.seq (.region id ops false) rest) = true) (hops : ops.toList = o :: os) (hrec : isRec o = true) (hg : o.guard = none) {args : List AV} {H : Heap} {m : AM} (hpl : ∀ u b, m = .pan u b → plain u = true) {R : AM → Heap → Prop} (hn : args.length ≤ fn.ntmps)
    (h : awpOps P T ops.toList (fun s => awp P T H.length [] rest (endK T fn.results.toList H.length (endD (R (recM m)))) s) (fun u s => endK T fn.results.toList H.length (endD (R (recM m))) (.pan u) s) os ((⟨fr0 args, H, []⟩ : St).put o.dst (recV m) H)) : ACallsD P g args H m R := by
  intro X as hr hv
  refine ⟨enter_run hf hb hnm as X.w, ?_⟩
  refine callsD_of_wpS hf hb fun c0 cs hc0 => ?_
  simp only [okCode, Bool.and_eq_true] at hok
  have hsz : ops.size = os.length + 1 := by rw [← Array.length_toList, hops]; rfl
  have h0 : ops[0]? = some o := by
    have : ops.toList[0]? = some o := by rw [hops]; rfl
    simpa using this
  have hd : okD fn.ntmps o.dst = true := okOps_mem hok.1 o (by rw [hops]; exact .head _)
  have hat := At.enter hr hv hn
  have hvr : VR X (recV m) (recU m) := by
    cases m with
    | ret => exact VR_nilIface.2 rfl
    | pan u b =>
      cases b
      · have := hpl u false rfl
        simp [recV, recU, VR, ScR, this]
      · exact VR_nilIface.2 rfl
  have hat1 := hat.step (Step.refl hr) (fun _ _ => rfl) hd hvr
  -- what is known behind the catching
  have key : wpOpsS P ops (Exit.thenS (rest.wpS P (bodyPostS P fn c0 cs fun e u' w' => ∃ v m' H' Y, e = .returned v ∧ u' = modeOf m' ∧ R m' H' ∧ Y.w = w' ∧ HR Y H' ∧ Ext X H Y H' ∧ (∀ i, i < H.length → Y.φ i = X.φ i) ∧ H.length ≤ H'.length))
      (bodyPostS P fn c0 cs fun e u' w' => ∃ v m' H' Y, e = .returned v ∧ u' = modeOf m' ∧ R m' H' ∧ Y.w = w' ∧ HR Y H' ∧ Ext X H Y H' ∧ (∀ i, i < H.length → Y.φ i = X.φ i) ∧ H.length ≤ H'.length)) (List.range' 1 os.length)
      (({ tmps := as ++ Array.replicate (fn.ntmps - as.size) undef, defers := [] } : Act).put o.dst (recU m)) ({ c0 with mode := modeOf (recM m) } :: cs) X.w := by
    refine opsS_wp (n := fn.ntmps) (X0 := X) (H0 := H) hT hok.1 (Q := _) (cs := { c0 with mode := modeOf (recM m) } :: cs) (fun Y s' a' hk hat' => ?_) (fun Y u s' a' hk hat' hp => ?_) os 1 (fun j => ?_) (by rw [hsz]; omega) X _ _ hat1 h
    · refine wpS_of_wp (wp_mono (awp_sound (cuts := []) (n := fn.ntmps) hT hm rest hok.2 _ Y s' a' hat' hk) ?_)
      rintro e a w ⟨E, s, Z, hk', he, rfl, hat2⟩
      obtain ⟨h1, h2, v, H', W, h3, h4, h5, h6, h7, h8, h9⟩ := endD_post hT hk' he hat2
      rcases h1 with rfl | rfl
      · exact ⟨h2, _, rfl, v, h3, v, recM m, H', W, rfl, rfl, h4, h5, h6, h7, h8, h9⟩
      · exact ⟨h2, _, rfl, v, h3, v, recM m, H', W, rfl, rfl, h4, h5, h6, h7, h8, h9⟩
    · obtain ⟨_, H', _, _, _, h4⟩ := hk
      exact h4.elim
    · have : ops.toList[1 + j]? = os[j]? := by rw [hops, Nat.add_comm]; simp
      rw [← this]
      simp
  refine wpS_seq (wpS_region ?_)
  rw [List.range_eq_range', hsz, List.range'_succ]
  simp only [wpOpsS, h0, guard_none hg, if_true, rec_run hrec]
  cases m with
  | ret =>
    have : recoverD (c0 :: cs) = none := by simp [recoverD, hc0, modeOf]
    rw [this]
    have hcc : ({ c0 with mode := modeOf (recM .ret) } : Frame) = c0 := by
      have : modeOf (recM .ret) = c0.mode := hc0.symm
      rw [this]
    rw [hcc] at key
    exact key
  | pan u b =>
    cases b with
    | false =>
      have : recoverD (c0 :: cs) = some (u, { c0 with mode := modeOf (recM (.pan u false)) } :: cs) := by simp [recoverD, hc0, modeOf, recM]
      rw [this]
      exact key
    | true =>
      have : recoverD (c0 :: cs) = none := by simp [recoverD, hc0, modeOf]
      rw [this]
      have hcc : ({ c0 with mode := modeOf (recM (.pan u true)) } : Frame) = c0 := by
        have : modeOf (recM (.pan u true)) = c0.mode := hc0.symm
        rw [this]
      rw [hcc] at key
      exact key
/-! ### A function that defers -/
def okM : AM → Prop
  | .ret => True
  | .pan u b => plain u = true ∧ b = false
/-- What was deferred is called, the last one first. -/
def unwA (P : Program) (T : Tab) (rs : List ResultVar) (n0 : Nat) (R : AEnd → Heap → Prop) : List AD → AM → Fr → Heap → Prop
  | [], .ret, fr, H => ∃ H' v, EndV T rs n0 ⟨fr, H, []⟩ H' v ∧ R (.ret v) H'
  | [], .pan u _, fr, H => ∃ H', PreH H' H ∧ n0 ≤ H'.length ∧ belowH H'.length H' = true ∧ R (.pan u) H'
  | d :: ds, m, fr, H => ACallsD P d.g (d.args ++ d.caps) H m fun m' H' => okM (settleA m') ∧ unwA P T rs n0 R ds (settleA m') fr H'
def endU (P : Program) (T : Tab) (rs : List ResultVar) (n0 : Nat) (R : AEnd → Heap → Prop) : AX → St → Prop
  | .normal, s => unwA P T rs n0 R s.ds .ret s.fr s.H
  | .ret, s => unwA P T rs n0 R s.ds .ret s.fr s.H
  | .pan u, s => unwA P T rs n0 R s.ds (.pan u false) s.fr s.H
  | .exit _, _ => False
theorem unw_leaves (hT : TOk P T) {n : Nat} {X0 : Ctx} {H0 : Heap} {fn : Func} {R : AEnd → Heap → Prop} : ∀ (ds : List AD) (m : AM) (Y : Ctx) (fr : Fr) (H : Heap) (a : Act) (es : List Deferred), okM m → At n X0 H0 Y ⟨fr, H, []⟩ { a with defers := [] } → DL Y ds es →
    unwA P T fn.results.toList H0.length R ds m fr H →
    Leaves P fn a.tmps (fun e w' => ∃ E H' Z, R E H' ∧ Z.w = w' ∧ EndR Z E e ∧ HR Z H' ∧ Ext X0 H0 Z H' ∧ (∀ i, i < H0.length → Z.φ i = X0.φ i) ∧ H0.length ≤ H'.length) es (modeOf m) Y.w
  | [], .ret, Y, fr, H, a, [], _, hat, _, hu => by
    obtain ⟨H', v, h1, h2⟩ := hu
    obtain ⟨Z, u, h3, h4, h5, h6, h7, h8, h9⟩ := endV_ok hT hat h1
    exact ⟨u, h4, .ret v, H', Z, h2, h3, h5, h6, h7, h8, h9⟩
  | [], .pan u b, Y, fr, H, a, [], ho, hat, _, hu => by
    obtain ⟨H', h1, h2, h3, h4⟩ := hu
    obtain ⟨hp, rfl⟩ := ho
    refine ⟨.pan u, H', Y.cut H'.length, h4, rfl, ⟨rfl, hp⟩, hat.st.hr.cutTo h1 h3, ?_, fun i hi => ?_, h2⟩
    · refine ⟨hat.ext.size, hat.ext.keep, hat.ext.shape, fun b ⟨i, ad, hi, ha, hx⟩ => hat.ext.own b ⟨i, ad, live_pre h1 hi, ?_, hx⟩, hat.ext.F, hat.ext.Fn, hat.ext.os, hat.ext.tape, hat.ext.output⟩
      simp only [Ctx.cut] at ha
      split at ha
      · exact ha
      · cases ha
    · have : i < H'.length := Nat.lt_of_lt_of_le hi h2
      simp only [Ctx.cut, if_pos this]
      exact hat.φ i hi
  | [], _, _, _, _, _, _ :: _, _, _, hd, _ => hd.elim
  | _ :: _, _, _, _, _, _, [], _, _, hd, _ => hd.elim
  | d :: ds, m, Y, fr, H, a, e :: es, ho, hat, hd, hu => by
    obtain ⟨⟨caps', h1, h2, h3⟩, h4⟩ := hd
    obtain ⟨target, dargs⟩ := e
    simp only at h1 h3
    subst h1
    have hv : VL Y (d.args ++ d.caps) (dargs ++ caps').toList := by
      rw [Array.toList_append]
      exact h3.append h2
    obtain ⟨hen, hcall⟩ := hu Y (dargs ++ caps') hat.st.hr hv
    have hinv : (invoke (.fn (.func d.g) caps') dargs).run P Y.w = .ok (.enter d.g (dargs ++ caps')) Y.w := by
      simp only [invoke]
      exact hen
    refine leaves_cons (by cases m <;> simp [modeOf]) hinv (hcall.mono ?_)
    rintro e' u' w' ⟨v, m', H', Z, rfl, rfl, ⟨hok, hR⟩, rfl, hrZ, hext, hφ, hlen⟩
    have hle : Le Y Z := hext.le hat.st.hr fun i b hb => by rw [hφ i (hat.st.hr.lt i b hb).1]; exact hb
    have hat' : At n X0 H0 Z ⟨fr, H', []⟩ { a with defers := [] } := ⟨⟨hat.st.size, fun t => VR.mono hle _ _ (hat.st.fr t), True.intro, hrZ⟩, hat.ext.trans hext, fun i hi => (hφ i (Nat.lt_of_lt_of_le hi hat.len)).trans (hat.φ i hi), Nat.le_trans hat.len hlen⟩
    have := unw_leaves hT ds (settleA m') Z fr H' a es hok hat' (h4.mono hle) hR
    rw [← settle_modeOf] at this
    exact this
/-- A function that defers calls. -/
theorem acalls_of_awpU (cuts : List Nat) (hT : TOk P T) (hm : P.follows .mixedOrders = true) {g : FuncId} {fn : Func} {c : Code} (hf : P.funcs[g]? = some fn) (hb : fn.body = some c) (hnm : (fn.name == "runtime.NumGoroutine") = false) (hok : okCode fn.ntmps c = true)
    {args : List AV} {H : Heap} {R : AEnd → Heap → Prop} (hn : args.length ≤ fn.ntmps) (h : awp P T H.length cuts c (endU P T fn.results.toList H.length R) ⟨fr0 args, H, []⟩) : ACalls P g args H R := by
  intro X as hr hv
  refine .inl ⟨enter_run hf hb hnm as X.w, ?_⟩
  refine calls_of_wp_defers hf hb ?_
  refine wp_mono (awp_sound (cuts := cuts) (n := fn.ntmps) hT hm c hok _ X _ _ (At.enter hr hv hn) h) ?_
  rintro e a w ⟨E, s, Y, hk, he, rfl, hat⟩
  have hat0 : At fn.ntmps X H Y ⟨s.fr, s.H, []⟩ { a with defers := [] } := ⟨⟨hat.st.size, hat.st.fr, True.intro, hat.st.hr⟩, hat.ext, hat.φ, hat.len⟩
  cases E with
  | normal =>
    cases e <;> first | exact he.elim | exact unw_leaves hT s.ds .ret Y s.fr s.H a a.defers True.intro hat0 hat.st.ds hk
  | ret =>
    cases e <;> first | exact he.elim | exact unw_leaves hT s.ds .ret Y s.fr s.H a a.defers True.intro hat0 hat.st.ds hk
  | pan u =>
    cases e <;> first | exact he.elim | skip
    obtain ⟨rfl, hp⟩ := he
    exact unw_leaves hT s.ds (.pan u false) Y s.fr s.H a a.defers ⟨hp, rfl⟩ hat0 hat.st.ds hk
  | exit i => exact hk.elim
end
end Go.Proofs.Ytgchhmfobkcnfaa.A
