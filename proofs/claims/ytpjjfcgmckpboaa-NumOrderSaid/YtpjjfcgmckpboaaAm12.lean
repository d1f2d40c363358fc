/- Calls, statements and loops over abstract states. No condition. -/
import Derived.Test.YtpjjfcgmckpboaaAm11
namespace Go.Proofs.Ytpjjfcgmckpboaa.A
open Go
set_option linter.unusedVariables false
set_option linter.unusedSimpArgs false

structure AD where
  g : FuncId
  caps : List AV
  args : List AV
structure St where
  fr : Fr
  H : Heap
  ds : List AD
inductive AEnd where
  | ret (v : AV)
  | pan (u : Value)
inductive AX where
  | normal
  | exit (id : Nat)
  | ret
  | pan (u : Value)

/-- A call as the model makes it: it enters a body, or is answered at once. -/
def CallSem (P : Program) (g : FuncId) (args : Array Value) (w : World) (R : Ending → World → Prop) : Prop :=
  ((callFunc g args).run P w = .ok (.enter g args) w ∧ Calls P g args w R) ∨ ∃ v w1, (callFunc g args).run P w = .ok (.value v) w1 ∧ R (.returned v) w1
theorem CallSem.mono {P : Program} {g : FuncId} {args : Array Value} {w : World} {R R' : Ending → World → Prop} (h : CallSem P g args w R) (k : ∀ e w', R e w' → R' e w') : CallSem P g args w R' := by
  rcases h with ⟨h1, h2⟩ | ⟨v, w1, h1, h2⟩
  · exact .inl ⟨h1, h2.mono k⟩
  · exact .inr ⟨v, w1, h1, k _ _ h2⟩
def entry (u : Value) : PanicEntry := { v := u, recovered := false }
def EndR (X : Ctx) : AEnd → Ending → Prop
  | .ret a, .returned v => VR X a v
  | .pan u, .panicked ch => ch = [entry u] ∧ plain u = true
  | _, _ => False
/-- What a function does, told abstractly. -/
def ACalls (P : Program) (g : FuncId) (args : List AV) (H : Heap) (R : AEnd → Heap → Prop) : Prop :=
  ∀ (X : Ctx) (as : Array Value), HR X H → VL X args as.toList →
    CallSem P g as X.w fun e w' => ∃ E H' Y, R E H' ∧ Y.w = w' ∧ EndR Y E e ∧ HR Y H' ∧ Ext X H Y H' ∧ (∀ i, i < H.length → Y.φ i = X.φ i) ∧ H.length ≤ H'.length
theorem ACalls.mono {P : Program} {g : FuncId} {args : List AV} {H : Heap} {R R' : AEnd → Heap → Prop} (h : ACalls P g args H R) (k : ∀ E H', R E H' → R' E H') : ACalls P g args H R' :=
  fun X as hr hv => (h X as hr hv).mono fun e w' ⟨E, H', Y, h1, h2⟩ => ⟨E, H', Y, k _ _ h1, h2⟩

def St.put (s : St) (d : Option Nat) (v : AV) (H : Heap) : St := ⟨updO s.fr d v, H, s.ds⟩
def forceN (n : Nat) (K : Nat → Prop) : Prop :=
  match n with
  | 0 => K 0 | 1 => K 1 | 2 => K 2 | 3 => K 3 | 4 => K 4 | 5 => K 5 | 6 => K 6 | 7 => K 7
  | 8 => K 8 | 9 => K 9 | 10 => K 10 | 11 => K 11 | 12 => K 12 | 13 => K 13 | 14 => K 14 | 15 => K 15
  | n => K n
theorem forceN_elim {n : Nat} {K : Nat → Prop} (h : forceN n K) : K n := by
  unfold forceN at h
  split at h <;> exact h
/-- A value, told out; a bool is parted. -/
def force (a : AV) (K : AV → Prop) : Prop :=
  match a with
  | .sc v =>
    match v with
    | .bool b => @Bool.rec (fun _ => Prop) (K (.sc (.bool false))) (K (.sc (.bool true))) b
    | v => K (.sc v)
  | .ptr i off => forceN i fun i => K (.ptr i off)
  | .slc i off len sz => forceN i fun i => K (.slc i off len sz)
  | .mapr i => forceN i fun i => K (.mapr i)
  | .junk => K .junk
  | .nan k => K (.nan k)
  | .vp cells => K (.vp cells)
  | .view len cells => K (.view len cells)
  | .fn f caps => K (.fn f caps)
  | .agg cells => K (.agg cells)
  | .tup vs => K (.tup vs)
theorem force_elim {a : AV} {K : AV → Prop} (h : force a K) : K a := by
  unfold force at h
  split at h
  · split at h
    · rename_i b
      cases b <;> exact h
    · exact h
  · exact forceN_elim h
  · exact forceN_elim h
  · exact forceN_elim h
  all_goals exact h
def forceH : Heap → (Heap → Prop) → Prop
  | [], K => K []
  | o :: H, K => forceH H fun H => K (o :: H)
theorem forceH_elim : ∀ {H : Heap} {K : Heap → Prop}, forceH H K → K H
  | [], _, h => h
  | o :: H, K, h => forceH_elim (H := H) (K := fun H => K (o :: H)) h
def St.keep (s : St) (d : Option Nat) (v : AV) (H : Heap) (K : St → Prop) : Prop :=
  force v fun v => forceH H fun H =>
    match s, d with
    | ⟨fr, _, ds⟩, some t => K ⟨upd fr t v, H, ds⟩
    | ⟨fr, _, ds⟩, none => K ⟨fr, H, ds⟩
theorem keep_elim {s : St} {d : Option Nat} {v : AV} {H : Heap} {K : St → Prop} (h : s.keep d v H K) : K (s.put d v H) := by
  have := forceH_elim (force_elim h)
  obtain ⟨fr, H0, ds⟩ := s
  cases d <;> exact this
def panK (K : AV → Heap → Prop) (Kp : Value → Heap → Prop) : AEnd → Heap → Prop
  | .ret v, H => K v H
  | .pan u, H => Kp u H
def callA (P : Program) (T : Tab) (o : Oper) (c : Call) (s : St) (K : AV → Heap → Prop) (Kp : Value → Heap → Prop) : Prop :=
  match c.callee with
  | .builtin .append =>
    match c.argTypes.toList, c.args.toList with
    | [st, xt], [a, b] => appA T s.H st xt (ev s.fr a) (ev s.fr b) K
    | _, _ => False
  | .value f =>
    match ev s.fr f with
    | .fn (.func g) caps => ACalls P g (c.args.toList.map (ev s.fr) ++ caps) s.H (panK K Kp)
    | _ => False
  | _ => aopQ T o s.fr s.H s.H.length (fun ob => s.H ++ [ob]) K
def aop (P : Program) (T : Tab) (o : Oper) (s : St) (K : St → Prop) (Kp : Value → St → Prop) : Prop :=
  match o.op with
  | .store t a x => storeA T s.H t (ev s.fr a) (ev s.fr x) fun v H' => s.keep o.dst v H' K
  | .call c => callA P T o c s (fun v H' => s.keep o.dst v H' K) fun u H' => Kp u ⟨s.fr, H', s.ds⟩
  | .defer c =>
    match c.callee with
    | .value f =>
      match ev s.fr f with
      | .fn (.func g) caps => K ⟨updO s.fr o.dst undefA, s.H, ⟨g, caps, c.args.toList.map (ev s.fr)⟩ :: s.ds⟩
      | _ => False
    | _ => False
  | .panic x =>
    match ev s.fr x with
    | .sc (.iface t v) => Kp (.iface t v) s
    | _ => False
  | _ => aopQ T o s.fr s.H s.H.length (fun ob => s.H ++ [ob]) fun v H' => s.keep o.dst v H' K
/-- What the guard's operation yielded. -/
def guardV (all : List Oper) (f : Fr) (j : Nat) : Option AV :=
  match nth all j with
  | some o => o.dst.map f
  | none => none
def aopG (P : Program) (T : Tab) (all : List Oper) (o : Oper) (s : St) (K : St → Prop) (Kp : Value → St → Prop) : Prop :=
  match o.guard with
  | none => aop P T o s K Kp
  | some (j, want) =>
    match guardV all s.fr j with
    | some (.sc (.bool b)) =>
      match want with
      | true => @Bool.rec (fun _ => Prop) (s.keep o.dst undefA s.H K) (aop P T o s K Kp) b
      | false => @Bool.rec (fun _ => Prop) (aop P T o s K Kp) (s.keep o.dst undefA s.H K) b
    | some (.tup _) => s.keep o.dst undefA s.H K
    | _ => False
def awpOps (P : Program) (T : Tab) (all : List Oper) (K : St → Prop) (Kp : Value → St → Prop) : List Oper → St → Prop
  | [], s => K s
  | o :: rest, s => aopG P T all o s (awpOps P T all K Kp rest) Kp

/-! ### Soundness of one operation -/
section
variable {P : Program} {T : Tab}

def DR (X : Ctx) (d : AD) (d' : Deferred) : Prop := ∃ caps' : Array Value, d'.target = .fn (.func d.g) caps' ∧ VL X d.caps caps'.toList ∧ VL X d.args d'.args.toList
def DL (X : Ctx) : List AD → List Deferred → Prop
  | [], [] => True
  | d :: ds, e :: es => DR X d e ∧ DL X ds es
  | _, _ => False
theorem DL.mono {X Y : Ctx} (h : Le X Y) : ∀ {ds : List AD} {es : List Deferred}, DL X ds es → DL Y ds es
  | [], [], _ => trivial
  | [], _ :: _, hv => hv.elim
  | _ :: _, [], hv => hv.elim
  | d :: ds, e :: es, hv => by
    obtain ⟨⟨c, h1, h2, h3⟩, h4⟩ := hv
    exact ⟨⟨c, h1, VL.mono h _ _ h2, VL.mono h _ _ h3⟩, DL.mono h h4⟩
/-- A state stands for a frame in a world. -/
structure StR (n : Nat) (X : Ctx) (s : St) (a : Act) : Prop where
  size : a.tmps.size = n
  fr : ∀ t, VR X (s.fr t) (a.tmps.getD t undef)
  ds : DL X s.ds a.defers
  hr : HR X s.H
def okD (n : Nat) : Option Nat → Bool
  | some t => Nat.blt t n
  | none => true
theorem StR.ev {n : Nat} {X : Ctx} {s : St} {a : Act} (h : StR n X s a) : FrR X s.fr a.eval := by
  intro x
  cases x with
  | tmp t => exact h.fr t
  | const v => exact VR_ofV
  | global g => simp [A.ev, VR]
  | func g => simp only [A.ev, Act.eval, VR]; exact ⟨_, rfl, by simp [VL]⟩
theorem StR.put {n : Nat} {X Y : Ctx} {s : St} {a : Act} (h : StR n X s a) {H' : Heap} (hr : HR Y H') (hle : Le X Y) {d : Option Nat} (hd : okD n d = true) {v : AV} {u : Value} (hv : VR Y v u) : StR n Y (s.put d v H') (a.put d u) := by
  refine ⟨?_, ?_, ?_, hr⟩
  · cases d <;> simp [Act.put, h.size]
  · intro t
    cases d with
    | none => exact VR.mono hle _ _ (h.fr t)
    | some d =>
      have hd' : d < n := by simpa [okD] using hd
      simp only [St.put, updO, upd, Act.put]
      cases hb : Nat.beq t d with
      | true =>
        have := Nat.eq_of_beq_eq_true hb
        subst this
        simp only [cond_true]
        rw [Array.getD_eq_getD_getElem?, Array.getElem?_setIfInBounds_self_of_lt (by rw [h.size]; exact hd')]
        exact hv
      | false =>
        have hne : d ≠ t := fun he => by subst he; simp at hb
        simp only [cond_false]
        rw [Array.getD_eq_getD_getElem?, Array.getElem?_setIfInBounds_ne hne, ← Array.getD_eq_getD_getElem?]
        exact VR.mono hle _ _ (h.fr t)
  · have : (a.put d u).defers = a.defers := by cases d <;> rfl
    rw [this]
    exact h.ds.mono hle

/-- What is owed behind an operation: on with the next one, or a panic. -/
def NextOk (P : Program) (n : Nat) (X0 : Ctx) (H0 : Heap) (n0 : Nat) (K : St → Prop) (next : Act → World → Prop) : Prop :=
  ∀ Y s a, K s → StR n Y s a → Ext X0 H0 Y s.H → (∀ i, i < n0 → Y.φ i = X0.φ i) → next a Y.w
def PanOk (n : Nat) (X0 : Ctx) (H0 : Heap) (n0 : Nat) (Kp : Value → St → Prop) (Q : Exit → Act → World → Prop) : Prop :=
  ∀ Y s a u, Kp u s → StR n Y s a → Ext X0 H0 Y s.H → (∀ i, i < n0 → Y.φ i = X0.φ i) → plain u = true → Q (.panic [entry u]) a Y.w

theorem upon_of_run {o : Oper} {a : Act} {w w1 : World} {next : Act → World → Prop} {Q : Exit → Act → World → Prop} {nx : Next} {v : Value} (hrun : (execOp a.eval o).run P w = .ok nx w1)
    (hnx : nx = .value v ∨ (nx = .skip ∧ v = undef)) (h : next (a.put o.dst v) w1) : o.wp P a w next Q := by
  unfold Oper.wp
  rw [hrun]
  rcases hnx with rfl | ⟨rfl, rfl⟩ <;> exact h

/-- What is known at a point of a run that began in X0 with H0. -/
structure At (n : Nat) (X0 : Ctx) (H0 : Heap) (X : Ctx) (s : St) (a : Act) : Prop where
  st : StR n X s a
  ext : Ext X0 H0 X s.H
  φ : ∀ i, i < H0.length → X.φ i = X0.φ i
  len : H0.length ≤ s.H.length
theorem At.step {n : Nat} {X0 : Ctx} {H0 : Heap} {X Y : Ctx} {s : St} {a : Act} (h : At n X0 H0 X s a) {H' : Heap} (k : Step X s.H Y H') (hφ : ∀ i, i < s.H.length → Y.φ i = X.φ i) {d : Option Nat} (hd : okD n d = true) {v : AV} {u : Value} (hv : VR Y v u) :
    At n X0 H0 Y (s.put d v H') (a.put d u) :=
  ⟨h.st.put k.hr k.le hd hv, h.ext.trans k.ext, fun i hi => (hφ i (Nat.lt_of_lt_of_le hi h.len)).trans (h.φ i hi), Nat.le_trans h.len k.len⟩

theorem q_wp (hT : TOk P T) {n : Nat} {X0 : Ctx} {H0 : Heap} {X : Ctx} {s : St} {a : Act} (h : At n X0 H0 X s a) {o : Oper} (hd : okD n o.dst = true) {K : St → Prop} {next : Act → World → Prop} {Q : Exit → Act → World → Prop}
    (hq : aopQ T o s.fr s.H s.H.length (fun ob => s.H ++ [ob]) fun v H' => s.keep o.dst v H' K) (hK : ∀ Y s' a', K s' → At n X0 H0 Y s' a' → next a' Y.w) : o.wp P a X.w next Q := by
  obtain ⟨v, H1, Y, u, nx, hk, hrun, hnx, hv, hst, hφ⟩ := aopQ_run hT h.st.hr h.st.ev (NewAt.push h.st.hr) hq
  exact upon_of_run hrun hnx (hK Y _ _ (keep_elim hk) (h.step hst (fun i hi => hφ i (Nat.ne_of_lt hi)) hd hv))
end
end Go.Proofs.Ytpjjfcgmckpboaa.A
