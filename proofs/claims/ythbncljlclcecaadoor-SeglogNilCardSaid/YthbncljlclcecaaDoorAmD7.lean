/- Statements whose order is open: what is asked of them. No condition. -/
import Derived.Test.YthbncljlclcecaaDoorAm9
import Derived.Test.YthbncljlclcecaaDoorAm13
import Derived.Orders
namespace Go.Proofs.YthbncljlclcecaaDoor.A
open Go
set_option linter.unusedVariables false
set_option linter.unusedSimpArgs false

/-- The operations that must stand ahead, named at the operation itself. -/
def bnd (o : Oper) : List Nat := (o.after.toList.filter (Region.binds .any)).map (·.on)
/-- Does it more than look? -/
def effB (o : Oper) : Bool :=
  match o.op with
  | .store .. => true
  | .mapUpdate .. => true
  | .range .. => true
  | .next .. => true
  | .entry .. => true
  | .defer _ => true
  | .panic _ => true
  | .call c =>
    match c.callee with
    | .builtin .len => false
    | .builtin .max => false
    | .builtin .min => false
    | _ => true
  | _ => false
/-- Does it make an object? -/
def allocB (o : Oper) : Bool :=
  match o.op with
  | .alloc _ => true
  | .box .. => true
  | .buildSlice .. => true
  | .makeSlice .. => true
  | .makeMap .. => true
  | _ => false
/-- Does it look at nothing but its operands? -/
def freeB (o : Oper) : Bool :=
  match o.op with
  | .move _ => true
  | .assign _ => true
  | .pick .. => true
  | .build .. => true
  | .nilCheck _ => true
  | .binOp .. => true
  | .unOp .. => true
  | .makeInterface .. => true
  | .makeFunc .. => true
  | .fieldAddr .. => true
  | .field .. => true
  | .indexAddr .. => true
  | .index .. => true
  | .typeAssert .. => true
  | .extract .. => true
  | _ => false
def look (ops : List Oper) (o : Oper) : List Nat :=
  (o.op.operands.toList.filterMap fun | .tmp t => some t | _ => none) ++
  (match o.guard with
   | some (g, _) => match nth ops g with
     | some q => match q.dst with
       | some t => [t]
       | none => []
     | none => []
   | none => [])
def getN (l : List Nat) (i : Nat) : Nat :=
  match nth l i with
  | some x => x
  | none => 0
def getL (l : List (List Nat)) (i : Nat) : List Nat :=
  match nth l i with
  | some x => x
  | none => []
def bits (l : List Nat) (p : Nat) : Bool := l.any (Nat.beq p)
def countB (f : Oper → Bool) : List Oper → Nat
  | [] => 0
  | o :: os => bif f o then countB f os + 1 else countB f os
/-- A region, and what is known of its order. -/
structure DE where
  ops : List Oper
  lv : List Nat
  am : List (List Nat)
  sl : List Nat
  es : List Nat
  lk : List (List Nat)
  f0 : Fr
  N0 : Nat
def eqN : List Nat → List Nat → Bool
  | [], [] => true
  | x :: xs, y :: ys => bif Nat.beq x y then eqN xs ys else false
  | _, _ => false
theorem eqN_eq : ∀ {x y : List Nat}, eqN x y = true → x = y
  | [], [], _ => rfl
  | [], _ :: _, h => by simp [eqN] at h
  | _ :: _, [], h => by simp [eqN] at h
  | x :: xs, y :: ys, h => by
    cases hb : Nat.beq x y with
    | false => simp [eqN, hb] at h
    | true =>
      simp only [eqN, hb, cond_true] at h
      rw [Nat.eq_of_beq_eq_true hb, eqN_eq h]
/-- Who writes a place. -/
def writer : List Oper → Nat → Nat → Option Nat
  | [], _, _ => none
  | o :: os, i, t =>
    match o.dst with
    | some d => bif Nat.beq d t then some i else writer os (i + 1) t
    | none => writer os (i + 1) t
/-- What operation j sees. -/
def opF (E : DE) (F : Fr) (j : Nat) (o : Oper) : Fr := fun t =>
  bif (getL E.lk j).any (Nat.beq t) then
    match writer E.ops 0 t with
    | none => E.f0 t
    | some i => bif bits (getL E.am j) i then F t else E.f0 t
  else .junk
def slotAt (E : DE) (j : Nat) : Nat := E.N0 + getN E.sl j
def runQ (T : Tab) (E : DE) (j : Nat) (o : Oper) (F : Fr) (H : Heap) (K : AV → Heap → Prop) : Prop :=
  match o.guard with
  | none => aopQ T o (opF E F j o) H (slotAt E j) (fun ob => H.set (slotAt E j) ob) K
  | some (g, want) =>
    match guardV E.ops (opF E F j o) g with
    | some (.sc (.bool b)) =>
      match want with
      | true => @Bool.rec (fun _ => Prop) (K undefA H) (aopQ T o (opF E F j o) H (slotAt E j) (fun ob => H.set (slotAt E j) ob) K) b
      | false => @Bool.rec (fun _ => Prop) (aopQ T o (opF E F j o) H (slotAt E j) (fun ob => H.set (slotAt E j) ob) K) (K undefA H) b
    | some (.tup _) => K undefA H
    | _ => False
/-- The operations of level k, in the text's order. -/
def pass1 (T : Tab) (E : DE) (k : Nat) (K : Fr → Heap → Prop) : List Oper → Nat → Fr → Heap → Prop
  | [], _, F, H => K F H
  | o :: os, j, F, H =>
    match effB o || !Nat.beq (getN E.lv j) k with
    | true => pass1 T E k K os (j + 1) F H
    | false => runQ T E j o F H fun v H' => force v fun v => forceH H' fun H' =>
        match o.dst with
        | some t => pass1 T E k K os (j + 1) (upd F t v) H'
        | none => pass1 T E k K os (j + 1) F H'
def Same (a b : AV) (H H' : Heap) (K : Prop) : Prop := (a = b ∧ H = H') ∧ K
theorem same {a : AV} {H : Heap} {K : Prop} (k : K) : Same a a H H K := ⟨⟨rfl, rfl⟩, k⟩
/-- May it be still to come when the effects done have been done? -/
def openB (E : DE) (done : List Nat) (j : Nat) : Bool := !(done.any fun e => bits (getL E.am e) j)
/-- What has been seen is seen again. -/
def pass2 (T : Tab) (E : DE) (k : Nat) (done : List Nat) (F : Fr) (H : Heap) (K : Prop) : List Oper → Nat → Prop
  | [], _ => K
  | o :: os, j =>
    match effB o || freeB o || !Nat.ble (getN E.lv j) k || !openB E done j with
    | true => pass2 T E k done F H K os (j + 1)
    | false => runQ T E j o F H fun v H' =>
        match o.dst with
        | some t => Same v (F t) H' H (pass2 T E k done F H K os (j + 1))
        | none => False
/-- What is known of the places where the way breaks off. -/
def panF (E : DE) : Fr := fun t =>
  match writer E.ops 0 t with
  | none => E.f0 t
  | some _ => .junk
def allN (f : Nat → Bool) : Nat → Bool
  | 0 => true
  | n + 1 => bif f n then allN f n else false
/-- What is asked of two operations. -/
def pairB (E : DE) (i : Nat) (o : Oper) (j : Nat) (q : Oper) : Bool :=
  (match o.dst with
   | some t => (match q.dst with
      | some d => !Nat.beq d t
      | none => true) && (!(look E.ops q).any (Nat.beq t) || bits (getL E.am j) i || bits (getL E.am i) j)
   | none => true) && (!(allocB o && allocB q) || !Nat.beq (getN E.sl i) (getN E.sl j))
/-- What is asked of a region's order, to be reckoned once. -/
def chk1 (E : DE) (i : Nat) (o : Oper) : Bool :=
  (bnd o).all (fun p => Nat.blt p i) &&
  (getL E.am i).all (fun p => (bnd o).any fun q => Nat.beq q p || bits (getL E.am q) p) &&
  (match effB o with
   | true => true
   | false => Nat.beq (getN E.lv i) 0 || (bnd o).any fun p => Nat.beq (getN E.lv p) (getN E.lv i)) &&
  allN (fun j =>
    (!bits (getL E.am i) j || (Nat.ble (getN E.lv j) (getN E.lv i) && (match effB o with
      | true => Nat.blt (getN E.lv j) (getN E.lv i)
      | false => true))) &&
    (Nat.beq i j || match nth E.ops j with
      | some q => pairB E i o j q
      | none => true)) E.ops.length
def chkL (E : DE) : List Oper → Nat → Bool
  | [], _ => true
  | o :: os, i => bif chk1 E i o then chkL E os (i + 1) else false
/-- The effects stand one behind the other; of the last two the order may be open. -/
def ordB (E : DE) (b : Nat) : Option Nat → Bool
  | some p => bits (getL E.am b) p
  | none => true
def efB (E : DE) (b : Nat) : Bool :=
  match nth E.ops b with
  | some o => effB o
  | none => false
def lastB (E : DE) (j k : Nat) (prev : Option Nat) : List Nat → Option Bool
  | [b] => some (efB E b && Nat.beq (getN E.lv b) (k + 1) && (bits (getL E.am b) j || ordB E b prev))
  | _ => none
def chkE (E : DE) : List Nat → Nat → Option Nat → Bool
  | [], _, _ => true
  | j :: es, k, prev => efB E j && Nat.beq (getN E.lv j) k && ordB E j prev && (match lastB E j k prev es with
     | some b => b
     | none => chkE E es (k + 1) (some j))
def chk (E : DE) : Bool :=
  chkL E E.ops 0 && chkE E E.es 1 none && Nat.beq E.es.length (countB effB E.ops) &&
  allN (fun i => match nth E.ops i with
    | some o => !effB o || E.es.any (Nat.beq i)
    | none => true) E.ops.length && allN (fun i => match nth E.ops i with
    | some o => eqN (getL E.lk i) (look E.ops o)
    | none => true) E.ops.length && allN (fun i => match nth E.ops i with
    | some o => !allocB o || Nat.blt (getN E.sl i) (countB allocB E.ops)
    | none => true) E.ops.length
/-- One that does more than look, and what comes behind it. -/
def effG (P : Program) (T : Tab) (E : DE) (Kp : Value → St → Prop) (j : Nat) (F : Fr) (H : Heap) (ds : List AD) (next : Fr → Heap → List AD → Prop) : Prop :=
  match nth E.ops j with
  | some o => aopG P T E.ops o ⟨opF E F j o, H, ds⟩ (fun s =>
      match s, o.dst with
      | ⟨fr, H, ds⟩, some t => force (fr t) fun v => next (upd F t v) H ds
      | ⟨fr, H, ds⟩, none => next F H ds) (fun u s => Kp u ⟨panF E, s.H, s.ds⟩)
  | none => False
/-- The last two, if their order is open. -/
def swB (E : DE) (a : Nat) : List Nat → Option Nat
  | [b] => bif bits (getL E.am b) a then none else some b
  | _ => none
def setN : List Nat → Nat → Nat → List Nat
  | [], _, _ => []
  | _ :: l, 0, v => v :: l
  | x :: l, i + 1, v => x :: setN l i v
def swE (E : DE) (a b : Nat) : DE := { E with lv := setN (setN E.lv a (getN E.lv b)) b (getN E.lv a), es := E.es.map fun x => bif Nat.beq x a then b else bif Nat.beq x b then a else x }
def epochN (T : Tab) (E : DE) (K : St → Prop) (k : Nat) (done : List Nat) (F : Fr) (H : Heap) (ds : List AD) : Prop :=
  pass1 T E k (fun F H => pass2 T E k done F H (K ⟨F, H, ds⟩) E.ops 0) E.ops 0 F H
def epochA (P : Program) (T : Tab) (E : DE) (K : St → Prop) (Kp : Value → St → Prop) (j k : Nat) (done : List Nat) (F : Fr) (H : Heap) (ds : List AD) : Prop :=
  pass1 T E k (fun F H => pass2 T E k done F H (effG P T E Kp j F H ds fun F H ds => epochN T E K (k + 1) (j :: done) F H ds) E.ops 0) E.ops 0 F H
def epochs (P : Program) (T : Tab) (E : DE) (K : St → Prop) (Kp : Value → St → Prop) : List Nat → Nat → List Nat → Fr → Heap → List AD → Prop
  | [], k, done, F, H, ds => epochN T E K k done F H ds
  | j :: es, k, done, F, H, ds => pass1 T E k (fun F H => pass2 T E k done F H
      (match swB E j es with
       | none => effG P T E Kp j F H ds fun F H ds => epochs P T E K Kp es (k + 1) (j :: done) F H ds
       | some b => Ob (chk (swE E j b) = true) (effG P T E Kp j F H ds (fun F H ds => epochs P T E K Kp es (k + 1) (j :: done) F H ds) ∧ effG P T (swE E j b) Kp b F H ds fun F H ds => epochA P T (swE E j b) K Kp j (k + 1) (b :: done) F H ds)) E.ops 0) E.ops 0 F H
def awpDraw (P : Program) (T : Tab) (ops : Array Oper) (K : St → Prop) (Kp : Value → St → Prop) (s : St) : Prop :=
  match s with
  | ⟨fr, H, ds⟩ => ∃ lv am sl es lk, Ob (chk ⟨ops.toList, lv, am, sl, es, lk, fr, H.length⟩ = true) (epochs P T ⟨ops.toList, lv, am, sl, es, lk, fr, H.length⟩ K Kp es 0 [] fr (H ++ List.replicate (countB allocB ops.toList) .dead) ds)
end Go.Proofs.YthbncljlclcecaaDoor.A

namespace Go.Proofs.YthbncljlclcecaaDoor.A
open Go
set_option linter.unusedVariables false
set_option linter.unusedSimpArgs false

theorem aopQ_na {T : Tab} {o : Oper} {f : Fr} {H : Heap} {n n' : Nat} {N N' : AObj → Heap} {K : AV → Heap → Prop} (ha : allocB o = false) (h : aopQ T o f H n N K) : aopQ T o f H n' N' K := by
  obtain ⟨dst, op, type, pos, after, guard⟩ := o
  cases op <;> first
    | (simp [allocB] at ha; done)
    | (simp only [aopQ] at h ⊢; exact h)
    | exact h
theorem aopQ_free {T : Tab} {o : Oper} {f : Fr} {H H' : Heap} {n n' : Nat} {N N' : AObj → Heap} {K : AV → Heap → Prop} (ha : freeB o = true) (h : aopQ T o f H n N K) : aopQ T o f H' n' N' (fun v _ => K v H) := by
  obtain ⟨dst, op, type, pos, after, guard⟩ := o
  cases op <;> first
    | (simp [freeB] at ha; done)
    | (simp only [aopQ] at h ⊢; exact h)
    | exact h
theorem free_alloc {o : Oper} (h : freeB o = true) : allocB o = false := by
  obtain ⟨dst, op, type, pos, after, guard⟩ := o
  cases op <;> first
    | rfl
    | (simp [freeB] at h; done)
theorem free_eff {o : Oper} (h : freeB o = true) : effB o = false := by
  obtain ⟨dst, op, type, pos, after, guard⟩ := o
  cases op <;> first
    | rfl
    | (simp [freeB] at h; done)
theorem runQ_pt {T : Tab} {E : DE} {j : Nat} {o : Oper} {F : Fr} {H : Heap} {K : AV → Heap → Prop} (h : runQ T E j o F H K) :
    ∃ v H', K v H' ∧ (H' = H ∨ ∃ ob, H' = H.set (slotAt E j) ob) ∧ runQ T E j o F H (fun u G => u = v ∧ G = H') := by
  unfold runQ at h ⊢
  split at h
  · (try simp only [*])
    exact aopQ_pt h
  · rename_i g want hg
    split at h
    · rename_i b hb
      simp only [hb]
      cases want <;> cases b <;> simp only at h ⊢
      · exact aopQ_pt h
      · exact ⟨_, _, h, .inl rfl, rfl, rfl⟩
      · exact ⟨_, _, h, .inl rfl, rfl, rfl⟩
      · exact aopQ_pt h
    · rename_i vs hb
      simp only [hb]
      exact ⟨_, _, h, .inl rfl, rfl, rfl⟩
    · exact h.elim
theorem runQ_na {T : Tab} {E : DE} {j : Nat} {o : Oper} {F : Fr} {H : Heap} {v : AV} {H' : Heap} (ha : allocB o = false) (h : runQ T E j o F H (fun u G => u = v ∧ G = H')) : H' = H := by
  have key : aopQ T o (opF E F j o) H (slotAt E j) (fun ob => H.set (slotAt E j) ob) (fun u G => u = v ∧ G = H') → H' = H := fun h => by
    have h2 := aopQ_na (n' := 0) (N' := fun _ => H) ha h
    obtain ⟨u, G, ⟨_, h3⟩, h4, _⟩ := aopQ_pt h2
    rcases h4 with h4 | ⟨ob, h4⟩
    · rw [← h3, h4]
    · rw [← h3, h4]
  unfold runQ at h
  split at h
  · exact key h
  · rename_i g want hg
    split at h
    · rename_i b hb
      cases want <;> cases b <;> simp only at h
      · exact key h
      · exact h.2.symm
      · exact h.2.symm
      · exact key h
    · exact h.2.symm
    · exact h.elim
theorem runQ_free {T : Tab} {E : DE} {j : Nat} {o : Oper} {F F' : Fr} {H H' : Heap} {v : AV} (ha : freeB o = true) (hf : opF E F j o = opF E F' j o) (h : runQ T E j o F H (fun u G => u = v ∧ G = H)) : runQ T E j o F' H' (fun u G => u = v ∧ G = H') := by
  have key : aopQ T o (opF E F j o) H (slotAt E j) (fun ob => H.set (slotAt E j) ob) (fun u G => u = v ∧ G = H) → aopQ T o (opF E F j o) H' (slotAt E j) (fun ob => H'.set (slotAt E j) ob) (fun u G => u = v ∧ G = H') := fun h => by
    have h2 := aopQ_free (H' := H') (n' := slotAt E j) (N' := fun ob => H'.set (slotAt E j) ob) ha h
    obtain ⟨u, G, ⟨h3, _⟩, h4, h5⟩ := aopQ_pt h2
    have hG : G = H' := by
      have h6 := aopQ_na (n' := 0) (N' := fun _ => H') (free_alloc ha) h5
      obtain ⟨_, _, ⟨_, h7⟩, h8, _⟩ := aopQ_pt h6
      rcases h8 with h8 | ⟨_, h8⟩
      · rw [← h7, h8]
      · rw [← h7, h8]
    rw [h3, hG] at h5
    exact h5
  unfold runQ at h ⊢
  rw [← hf]
  split at h
  · rename_i hg
    (try simp only [hg])
    exact key h
  · rename_i g want hg
    split at h
    · rename_i b hb
      simp only [hb]
      cases want <;> cases b <;> simp only at h ⊢
      · exact key h
      · exact ⟨h.1, trivial⟩
      · exact ⟨h.1, trivial⟩
      · exact key h
    · rename_i vs hb
      simp only [hb]
      exact ⟨h.1, trivial⟩
    · exact h.elim

/-! ### What the check gives -/
theorem allN_get {f : Nat → Bool} : ∀ {n : Nat}, allN f n = true → ∀ i, i < n → f i = true
  | 0, _, i, h => by omega
  | n + 1, h, i, hi => by
    cases hf : f n with
    | false => simp [allN, hf] at h
    | true =>
      simp only [allN, hf, cond_true] at h
      rcases Nat.lt_or_ge i n with h1 | h1
      · exact allN_get h i h1
      · rw [show i = n by omega]; exact hf
/-- The check, told out. -/
structure CK (E : DE) : Prop where
  lt : ∀ i o, nth E.ops i = some o → ∀ p ∈ bnd o, p < i
  am : ∀ i o p, nth E.ops i = some o → bits (getL E.am i) p = true → p ∈ bnd o ∨ ∃ q ∈ bnd o, bits (getL E.am q) p = true
  lv : ∀ i o, nth E.ops i = some o → effB o = false → getN E.lv i = 0 ∨ ∃ p ∈ bnd o, getN E.lv p = getN E.lv i
  mono : ∀ i o j, nth E.ops i = some o → j < E.ops.length → bits (getL E.am i) j = true → getN E.lv j ≤ getN E.lv i ∧ (effB o = true → getN E.lv j < getN E.lv i)
  uniq : ∀ i o j q t, nth E.ops i = some o → nth E.ops j = some q → i ≠ j → o.dst = some t → q.dst ≠ some t
  reads : ∀ i o j q t, nth E.ops i = some o → nth E.ops j = some q → i ≠ j → o.dst = some t → t ∈ look E.ops q → bits (getL E.am j) i = true ∨ bits (getL E.am i) j = true
  slot : ∀ i o j q, nth E.ops i = some o → nth E.ops j = some q → i ≠ j → allocB o = true → allocB q = true → getN E.sl i ≠ getN E.sl j
  inEs : ∀ i o, nth E.ops i = some o → effB o = true → i ∈ E.es
  slen : ∀ i o, nth E.ops i = some o → allocB o = true → getN E.sl i < countB allocB E.ops
  chain : chkE E E.es 1 none = true
  lk : ∀ i o, nth E.ops i = some o → getL E.lk i = look E.ops o
theorem chkL_get {E : DE} : ∀ {os : List Oper} {k : Nat}, chkL E os k = true → ∀ i o, nth os i = some o → chk1 E (k + i) o = true
  | [], _, _, i, o, h => by simp [nth] at h
  | x :: os, k, h, 0, o, ho => by
    simp only [nth, Option.some.injEq] at ho
    subst ho
    cases hc : chk1 E k x with
    | false => simp [chkL, hc] at h
    | true => rfl
  | x :: os, k, h, i + 1, o, ho => by
    cases hc : chk1 E k x with
    | false => simp [chkL, hc] at h
    | true =>
      simp only [chkL, hc, cond_true] at h
      have := chkL_get h i o ho
      rw [show k + (i + 1) = k + 1 + i by omega]
      exact this
theorem nth_lt {α : Type} {l : List α} {i : Nat} {x : α} (h : nth l i = some x) : i < l.length := by
  rw [nth_eq] at h
  exact (List.getElem?_eq_some_iff.1 h).1
theorem mem_any {l : List Nat} {t : Nat} : l.any (Nat.beq t) = true ↔ t ∈ l := by
  rw [List.any_eq_true]
  constructor
  · rintro ⟨x, h1, h2⟩
    rw [Nat.eq_of_beq_eq_true h2]
    exact h1
  · intro h
    exact ⟨t, h, by simp⟩
theorem ck {E : DE} (h : chk E = true) : CK E := by
  simp only [chk, Bool.and_eq_true] at h
  obtain ⟨⟨⟨⟨⟨h1, h2⟩, h3⟩, h4⟩, h6⟩, h5⟩ := h
  have g : ∀ i o, nth E.ops i = some o → chk1 E i o = true := fun i o ho => by
    have := chkL_get h1 i o ho
    rwa [Nat.zero_add] at this
  have pair : ∀ i o j q, nth E.ops i = some o → nth E.ops j = some q → i ≠ j → pairB E i o j q = true := fun i o j q hi hj hne => by
    have h := g i o hi
    simp only [chk1, Bool.and_eq_true] at h
    have h := allN_get h.2 j (nth_lt hj)
    simp only [Bool.and_eq_true, Bool.or_eq_true, hj] at h
    rcases h.2 with h | h
    · exact absurd (Nat.eq_of_beq_eq_true h) hne
    · exact h
  refine ⟨fun i o ho p hp => ?_, fun i o p ho hp => ?_, fun i o ho he => ?_, fun i o j ho hj hb => ?_, fun i o j q t hi hj hne ht hq => ?_, fun i o j q t hi hj hne ht hl => ?_, fun i o j q hi hj hne ha hb hs => ?_, fun i o ho he => ?_, fun i o ho ha => ?_, h2, fun i o ho => ?_⟩
  · have h := g i o ho
    simp only [chk1, Bool.and_eq_true] at h
    have := List.all_eq_true.1 h.1.1.1 p hp
    simp [Nat.blt] at this
    omega
  · have h := g i o ho
    simp only [chk1, Bool.and_eq_true] at h
    have h2 := List.all_eq_true.1 h.1.1.2 p (mem_any.1 hp)
    rw [List.any_eq_true] at h2
    obtain ⟨q, h3, h4⟩ := h2
    rw [Bool.or_eq_true] at h4
    rcases h4 with h4 | h4
    · rw [← Nat.eq_of_beq_eq_true h4]
      exact .inl h3
    · exact .inr ⟨q, h3, h4⟩
  · have h := g i o ho
    simp only [chk1, Bool.and_eq_true, he] at h
    have h := h.1.2
    simp only [Bool.or_eq_true, List.any_eq_true] at h
    rcases h with h | ⟨p, h, h'⟩
    · exact .inl (Nat.eq_of_beq_eq_true h)
    · exact .inr ⟨p, h, Nat.eq_of_beq_eq_true h'⟩
  · have h := g i o ho
    simp only [chk1, Bool.and_eq_true] at h
    have h := allN_get h.2 j hj
    simp only [Bool.and_eq_true, Bool.or_eq_true, hb, Bool.not_true, Bool.false_eq_true, false_or] at h
    refine ⟨Nat.le_of_ble_eq_true h.1.1, fun he => ?_⟩
    have h := h.1.2
    rw [he] at h
    simp [Nat.blt] at h
    omega
  · have h := pair i o j q hi hj hne
    simp only [pairB, ht, Bool.and_eq_true, hq] at h
    simp at h
  · have h := pair i o j q hi hj hne
    simp only [pairB, ht, Bool.and_eq_true, Bool.or_eq_true] at h
    rcases h.1.2 with (h | h) | h
    · rw [mem_any.2 hl] at h
      cases h
    · exact .inl h
    · exact .inr h
  · have h := pair i o j q hi hj hne
    simp only [pairB, Bool.and_eq_true] at h
    have h := h.2
    simp [ha, hb, hs] at h
  · have h := allN_get h4 i (nth_lt ho)
    simp only [ho, he, Bool.not_true, Bool.false_or] at h
    exact mem_any.1 h
  · have h := allN_get h5 i (nth_lt ho)
    simp only [ho, ha, Bool.not_true, Bool.false_or] at h
    simp [Nat.blt] at h
    omega
  · have h := allN_get h6 i (nth_lt ho)
    simp only [ho] at h
    exact eqN_eq h
end Go.Proofs.YthbncljlclcecaaDoor.A

namespace Go.Proofs.YthbncljlclcecaaDoor.A
open Go
set_option linter.unusedVariables false
set_option linter.unusedSimpArgs false

/-- Operation j yields what F says, and leaves H. -/
def QG (T : Tab) (E : DE) (j : Nat) (o : Oper) (F : Fr) (H : Heap) : Prop := ∃ v, runQ T E j o F H (fun u G => u = v ∧ G = H) ∧ ∀ t, o.dst = some t → v = F t
theorem writer_some : ∀ {os : List Oper} {k t i : Nat}, writer os k t = some i → k ≤ i ∧ ∃ o, nth os (i - k) = some o ∧ o.dst = some t
  | [], _, _, _, h => by simp [writer] at h
  | o :: os, k, t, i, h => by
    simp only [writer] at h
    have rec_ : writer os (k + 1) t = some i → k ≤ i ∧ ∃ q, nth (o :: os) (i - k) = some q ∧ q.dst = some t := fun h => by
      obtain ⟨h1, q, h2, h3⟩ := writer_some h
      refine ⟨by omega, q, ?_, h3⟩
      rw [show i - k = (i - (k + 1)) + 1 by omega]
      exact h2
    split at h
    · rename_i d hd
      cases hb : Nat.beq d t with
      | false => simp only [hb, cond_false] at h; exact rec_ h
      | true =>
        simp only [hb, cond_true, Option.some.injEq] at h
        subst h
        refine ⟨Nat.le_refl _, o, by simp [nth], ?_⟩
        rw [hd, Nat.eq_of_beq_eq_true hb]
    · exact rec_ h
theorem writer_none : ∀ {os : List Oper} {k t : Nat}, writer os k t = none → ∀ i o, nth os i = some o → o.dst ≠ some t
  | [], _, _, _, i, o, h => by simp [nth] at h
  | x :: os, k, t, hw, i, o, ho => by
    simp only [writer] at hw
    have rec_ : writer os (k + 1) t = none → x.dst ≠ some t → o.dst ≠ some t := fun h hx => by
      cases i with
      | zero => simp only [nth, Option.some.injEq] at ho; subst ho; exact hx
      | succ i => exact writer_none h i o ho
    split at hw
    · rename_i d hd
      cases hb : Nat.beq d t with
      | true => simp [hb] at hw
      | false =>
        simp only [hb, cond_false] at hw
        refine rec_ hw fun he => ?_
        rw [hd] at he
        cases he
        simp at hb
    · rename_i hd
      exact rec_ hw (by rw [hd]; simp)
theorem writer_at {E : DE} (hc : CK E) {t i w : Nat} {o : Oper} (ho : nth E.ops i = some o) (hd : o.dst = some t) (hw : writer E.ops 0 t = some w) : w = i := by
  obtain ⟨_, q, h1, h2⟩ := writer_some hw
  rw [Nat.sub_zero] at h1
  rcases Nat.decEq w i with h | h
  · exact absurd h2 (hc.uniq i o w q t ho h1 (Ne.symm h) hd)
  · exact h
theorem writer_is {E : DE} (hc : CK E) {t i : Nat} {o : Oper} (ho : nth E.ops i = some o) (hd : o.dst = some t) : writer E.ops 0 t = some i := by
  cases hw : writer E.ops 0 t with
  | none => exact absurd hd (writer_none hw i o ho)
  | some w => rw [writer_at hc ho hd hw]
theorem anc_lt {E : DE} (hc : CK E) : ∀ (i : Nat) (o : Oper), nth E.ops i = some o → ∀ p, bits (getL E.am i) p = true → p < i := by
  intro i
  induction i using Nat.strongRecOn with
  | _ i ih =>
    intro o ho p hp
    rcases hc.am i o p ho hp with h | ⟨q, h, h'⟩
    · exact hc.lt i o ho p h
    · have hq := hc.lt i o ho q h
      have hqo : ∃ x, nth E.ops q = some x := by
        have := nth_lt ho
        exact ⟨E.ops[q], by rw [nth_eq]; exact List.getElem?_eq_getElem (by omega)⟩
      obtain ⟨x, hx⟩ := hqo
      exact Nat.lt_trans (ih q hq x hx p h') hq
/-- Two frames that agree on what stands ahead are seen alike. -/
theorem opF_congr {E : DE} {F F' : Fr} {j : Nat} {o : Oper} (h : ∀ t w, writer E.ops 0 t = some w → bits (getL E.am j) w = true → F t = F' t) : opF E F j o = opF E F' j o := by
  funext t
  unfold opF
  cases hl : (getL E.lk j).any (Nat.beq t) with
  | false => rfl
  | true =>
    simp only [cond_true]
    cases hw : writer E.ops 0 t with
    | none => rfl
    | some w =>
      simp only
      cases hb : bits (getL E.am j) w with
      | false => rfl
      | true => simp only [cond_true]; exact h t w hw hb
theorem p1 {T : Tab} {E : DE} (hc : CK E) {k : Nat} {C : Fr → Heap → Prop} : ∀ (os : List Oper) (j : Nat) (F : Fr) (H : Heap), (∀ i, nth os i = nth E.ops (j + i)) → pass1 T E k C os j F H →
    ∃ F' H', C F' H' ∧ (∀ t, (∀ i o, j ≤ i → nth E.ops i = some o → o.dst = some t → effB o = true ∨ getN E.lv i ≠ k) → F' t = F t) ∧ H'.length = H.length ∧
      (∀ m, (∀ i o, nth E.ops i = some o → allocB o = true → effB o = false → getN E.lv i = k → slotAt E i ≠ m) → H'[m]? = H[m]?) ∧
      (∀ i o, j ≤ i → nth E.ops i = some o → effB o = false → getN E.lv i = k → freeB o = true → QG T E i o F' H')
  | [], j, F, H, hos, h => ⟨F, H, h, fun _ _ => rfl, rfl, fun _ _ => rfl, fun i o hj ho _ _ _ => by
      have := hos (i - j)
      rw [show j + (i - j) = i by omega, ho] at this
      simp [nth] at this⟩
  | o :: os, j, F, H, hos, h => by
    have h0 : nth E.ops j = some o := by
      have := hos 0
      rw [Nat.add_zero] at this
      rw [← this]
      simp [nth]
    have hos' : ∀ i, nth os i = nth E.ops (j + 1 + i) := fun i => by
      have := hos (i + 1)
      rw [show j + (i + 1) = j + 1 + i by omega] at this
      rw [← this]
      simp [nth]
    simp only [pass1] at h
    split at h
    · rename_i hb
      obtain ⟨F', H', h1, h2, h3, h4, h5⟩ := p1 hc os (j + 1) F H hos' h
      refine ⟨F', H', h1, fun t ht => h2 t fun i o hi => ht i o (by omega), h3, h4, fun i q hi hq he hl hf => ?_⟩
      rcases Nat.lt_or_ge j i with h6 | h6
      · exact h5 i q h6 hq he hl hf
      · have : i = j := by omega
        subst this
        rw [h0] at hq
        cases hq
        rw [he, hl] at hb
        simp at hb
    · rename_i hb
      simp only [Bool.or_eq_false_iff, Bool.not_eq_false'] at hb
      have hlv := Nat.eq_of_beq_eq_true hb.2
      obtain ⟨v, H1, hk, hH1, hpt⟩ := runQ_pt h
      have hk := forceH_elim (force_elim hk)
      have hlen : H1.length = H.length := by
        rcases hH1 with rfl | ⟨ob, rfl⟩
        · rfl
        · simp
      have hset : allocB o = false → H1 = H := fun ha => runQ_na ha hpt
      have hold : ∀ m, (allocB o = true → slotAt E j ≠ m) → H1[m]? = H[m]? := fun m hm => by
        cases ha : allocB o with
        | false => rw [hset ha]
        | true =>
          rcases hH1 with rfl | ⟨ob, rfl⟩
          · rfl
          · rw [List.getElem?_set_ne (hm ha)]
      obtain ⟨F1, hF1, hk⟩ : ∃ F1 : Fr, (∀ t, F1 t = (match o.dst with | some d => bif Nat.beq t d then v else F t | none => F t)) ∧ pass1 T E k C os (j + 1) F1 H1 := by
        split at hk
        · rename_i t hd
          exact ⟨_, fun t' => by first | rfl | (rw [hd]; rfl), hk⟩
        · rename_i hd
          exact ⟨_, fun t' => by first | rfl | rw [hd], hk⟩
      have hF1' : ∀ t, o.dst ≠ some t → F1 t = F t := fun t ht => by
        rw [hF1]
        cases hd : o.dst with
        | none => rfl
        | some d =>
          simp only
          cases hq : Nat.beq t d with
          | false => rfl
          | true => exact absurd (by rw [hd, Nat.eq_of_beq_eq_true hq]) ht
      obtain ⟨F', H', h1, h2, h3, h4, h5⟩ := p1 hc os (j + 1) F1 H1 hos' hk
      refine ⟨F', H', h1, fun t ht => ?_, h3.trans hlen, fun m hm => ?_, fun i q hi hq he hl hf => ?_⟩
      · rw [h2 t fun i o hi => ht i o (by omega)]
        refine hF1' t fun hd => ?_
        rcases ht j o (Nat.le_refl _) h0 hd with h6 | h6
        · rw [hb.1] at h6; cases h6
        · exact h6 hlv
      · rw [h4 m hm]
        exact hold m fun ha => hm j o h0 ha hb.1 hlv
      · rcases Nat.lt_or_ge j i with h6 | h6
        · exact h5 i q h6 hq he hl hf
        · have : i = j := by omega
          subst this
          rw [h0] at hq
          cases hq
          have hH := hset (free_alloc hf)
          subst hH
          have hop : opF E F i o = opF E F' i o := opF_congr fun t w hw hbit => by
            have hwl := anc_lt hc i o h0 w hbit
            have hd : o.dst ≠ some t := fun hd => by
              have := writer_at hc h0 hd hw
              omega
            rw [h2 t fun i' o' hi' ho' hd' => by
              have := writer_at hc ho' hd' hw
              omega, hF1' t hd]
          refine ⟨v, runQ_free hf hop hpt, fun t hd => ?_⟩
          rw [h2 t fun i' o' hi' ho' hd' => by
            have h7 := writer_is hc h0 hd
            have := writer_at hc ho' hd' h7
            omega, hF1, hd]
          simp
theorem p2 {T : Tab} {E : DE} {k : Nat} {done : List Nat} {F : Fr} {H : Heap} {K : Prop} : ∀ (os : List Oper) (j : Nat), (∀ i, nth os i = nth E.ops (j + i)) → pass2 T E k done F H K os j →
    K ∧ ∀ i o, j ≤ i → nth E.ops i = some o → effB o = false → freeB o = false → getN E.lv i ≤ k → openB E done i = true → QG T E i o F H
  | [], j, hos, h => ⟨h, fun i o hj ho _ _ _ _ => by
      have := hos (i - j)
      rw [show j + (i - j) = i by omega, ho] at this
      simp [nth] at this⟩
  | o :: os, j, hos, h => by
    have h0 : nth E.ops j = some o := by
      have := hos 0
      rw [Nat.add_zero] at this
      rw [← this]
      simp [nth]
    have hos' : ∀ i, nth os i = nth E.ops (j + 1 + i) := fun i => by
      have := hos (i + 1)
      rw [show j + (i + 1) = j + 1 + i by omega] at this
      rw [← this]
      simp [nth]
    simp only [pass2] at h
    split at h
    · rename_i hb
      obtain ⟨h1, h2⟩ := p2 os (j + 1) hos' h
      refine ⟨h1, fun i q hi hq he hf hl ho => ?_⟩
      rcases Nat.lt_or_ge j i with h6 | h6
      · exact h2 i q h6 hq he hf hl ho
      · have : i = j := by omega
        subst this
        rw [h0] at hq
        cases hq
        rw [he, hf, ho, Nat.ble_eq.mpr hl] at hb
        simp at hb
    · rename_i hb
      obtain ⟨v, H1, hk, _, hpt⟩ := runQ_pt h
      split at hk
      · rename_i t hd
        obtain ⟨⟨h1, h2⟩, h3⟩ := hk
        subst h2
        obtain ⟨h4, h5⟩ := p2 os (j + 1) hos' h3
        refine ⟨h4, fun i q hi hq he hf hl ho => ?_⟩
        rcases Nat.lt_or_ge j i with h6 | h6
        · exact h5 i q h6 hq he hf hl ho
        · have : i = j := by omega
          subst this
          rw [h0] at hq
          cases hq
          refine ⟨v, hpt, fun t' hd' => ?_⟩
          rw [hd] at hd'
          cases hd'
          exact h1
      · exact hk.elim
end Go.Proofs.YthbncljlclcecaaDoor.A

namespace Go.Proofs.YthbncljlclcecaaDoor.A
open Go
set_option linter.unusedVariables false
set_option linter.unusedSimpArgs false

section
variable {P : Program} {T : Tab} {n : Nat} {X0 : Ctx} {H0 : Heap} {Q : Exit → Act → World → Prop}

/-- A panic leaves the places as they were. -/
theorem wp_pan {o : Oper} {a : Act} {w : World} {K : Act → World → Prop} {Q' : Exit → Act → World → Prop} (h : o.wp P a w K Q) (hp : ∀ ch w', Q (.panic ch) a w' → Q' (.panic ch) a w') (ho : ∀ a' w', Q .outgrown a' w' → False) : o.wp P a w K Q' := by
  unfold Oper.wp at *
  generalize (execOp a.eval o).run P w = r at *
  cases r with
  | ok nx w' =>
    cases nx <;> simp only [Oper.upon] at h ⊢ <;> first
      | exact h
      | exact hp _ _ h
      | exact Calls.mono h (fun e w'' he => by
          cases e
          · exact he
          · exact hp _ _ he
          · obtain ⟨a0, w0, hq⟩ := he
            exact (ho _ _ hq).elim)
      | exact Rows.mono h (fun u _ he => he)
  | halt x w' =>
    cases x <;> simp only [Oper.upon] at h ⊢ <;> first
      | exact h
      | exact hp _ _ h
/-- What an operation leaves of the places: its own is put. -/
theorem wp_put {o : Oper} {a : Act} {w : World} {K : Act → World → Prop} (h : o.wp P a w K Q) : o.wp P a w (fun a' w' => K a' w' ∧ ∃ u, a'.tmps = (a.put o.dst u).tmps) Q := by
  unfold Oper.wp at *
  generalize (execOp a.eval o).run P w = r at *
  cases r with
  | ok nx w' =>
    cases nx <;> simp only [Oper.upon] at h ⊢ <;> first
      | exact h
      | exact ⟨h, _, rfl⟩
      | exact ⟨h, undef, by cases o.dst <;> rfl⟩
      | exact Calls.mono h (fun e w'' he => by cases e <;> first | exact ⟨he, _, rfl⟩ | exact he)
      | exact Rows.mono h (fun u _ he => ⟨he, _, rfl⟩)
  | halt x w' => cases x <;> simp only [Oper.upon] at h ⊢ <;> exact h

def unl (S : Array Bool) : Nat → Nat
  | 0 => 0
  | m + 1 => unl S m + (match S.getD m true with | true => 0 | false => 1)
theorem unl_set {S : Array Bool} {i : Nat} (hi : S.getD i true = false) : ∀ m, unl (S.setIfInBounds i true) m + (if i < m then 1 else 0) = unl S m
  | 0 => by simp [unl]
  | m + 1 => by
    have ih := unl_set hi m
    have hlt : i < S.size := by
      rcases Nat.lt_or_ge i S.size with h | h
      · exact h
      · rw [Array.getD_eq_getD_getElem?, Array.getElem?_eq_none h] at hi
        simp at hi
    simp only [unl]
    by_cases he : m = i
    · subst he
      have h1 : (S.setIfInBounds m true).getD m true = true := by
        rw [Array.getD_eq_getD_getElem?, Array.getElem?_setIfInBounds_self_of_lt hlt]
        rfl
      rw [h1, hi]
      simp only [Nat.lt_irrefl, if_false] at ih
      simp
      omega
    · rw [getD_set_ne true (Ne.symm he)]
      by_cases hlm : i < m
      · rw [if_pos hlm] at ih
        rw [if_pos (by omega)]
        omega
      · rw [if_neg hlm] at ih
        rw [if_neg (by omega)]
        omega

/-- What is known on the way. -/
structure DI (P : Program) (T : Tab) (n : Nat) (X0 : Ctx) (H0 : Heap) (E : DE) (es done : List Nat) (k : Nat) (S : Array Bool) (X : Ctx) (a : Act) (F : Fr) (H : Heap) (ds : List AD) : Prop where
  size : S.size = E.ops.length
  closed : ∀ i o, S.getD i false = true → nth E.ops i = some o → ∀ p ∈ bnd o, S.getD p false = true
  lev : ∀ i, S.getD i false = true → getN E.lv i ≤ k
  effs : ∀ i o, nth E.ops i = some o → effB o = true → S.getD i false = false → i ∈ es
  done : ∀ e ∈ done, S.getD e false = true
  fr : ∀ t, (∀ i o, nth E.ops i = some o → o.dst = some t → S.getD i false = true) → VR X (F t) (a.tmps.getD t undef)
  fr0 : ∀ t, (∀ i o, nth E.ops i = some o → o.dst = some t → S.getD i false = false) → VR X (E.f0 t) (a.tmps.getD t undef)
  slot : ∀ i o, nth E.ops i = some o → allocB o = true → S.getD i false = false → X.φ (slotAt E i) = none
  slen : ∀ i o, nth E.ops i = some o → allocB o = true → slotAt E i < H.length
  tsz : a.tmps.size = n
  hds : DL X ds a.defers
  hr : HR X H
  ext : Ext X0 H0 X H
  φ : ∀ i, i < H0.length → X.φ i = X0.φ i
  len : H0.length ≤ H.length
variable {E : DE} {es done : List Nat} {k : Nat} {S : Array Bool} {X : Ctx} {a : Act} {F : Fr} {H : Heap} {ds : List AD}
theorem getD_ft {S : Array Bool} {i : Nat} (h : S.getD i true = false) : S.getD i false = false := by
  rw [Array.getD_eq_getD_getElem?] at h ⊢
  cases hq : S[i]? with
  | none => rfl
  | some b => rw [hq] at h; exact h
theorem getD_fl {S : Array Bool} {i : Nat} (h : S.getD i true = false) : i < S.size := by
  rcases Nat.lt_or_ge i S.size with h1 | h1
  · exact h1
  · rw [Array.getD_eq_getD_getElem?, Array.getElem?_eq_none h1] at h
    cases h
theorem getD_lt {S : Array Bool} {i : Nat} (h : S.getD i false = true) : i < S.size := by
  rcases Nat.lt_or_ge i S.size with h1 | h1
  · exact h1
  · rw [Array.getD_eq_getD_getElem?, Array.getElem?_eq_none h1] at h
    cases h
theorem anc_in (hc : CK E) (hcl : ∀ i o, S.getD i false = true → nth E.ops i = some o → ∀ p ∈ bnd o, S.getD p false = true) : ∀ (i : Nat) (o : Oper), nth E.ops i = some o → (∀ p ∈ bnd o, S.getD p false = true) → ∀ p, bits (getL E.am i) p = true → S.getD p false = true := by
  intro i
  induction i using Nat.strongRecOn with
  | _ i ih =>
    intro o ho hb p hp
    rcases hc.am i o p ho hp with h | ⟨q, h, h'⟩
    · exact hb p h
    · have hq := hc.lt i o ho q h
      have := nth_lt ho
      have hx : nth E.ops q = some E.ops[q] := by rw [nth_eq]; exact List.getElem?_eq_getElem (by omega)
      exact ih q hq _ hx (hcl q _ (hb q h) hx) p h'
/-- What a ready operation sees is so. -/
theorem DI.see (hc : CK E) (d : DI P T n X0 H0 E es done k S X a F H ds) {i : Nat} {o : Oper} (ho : nth E.ops i = some o) (hi : S.getD i false = false) (hb : ∀ p ∈ bnd o, S.getD p false = true) :
    At n X0 H0 X ⟨opF E F i o, H, ds⟩ a := by
  refine ⟨⟨d.tsz, fun t => ?_, d.hds, d.hr⟩, d.ext, d.φ, d.len⟩
  simp only [opF]
  rw [hc.lk i o ho]
  cases hl : (look E.ops o).any (Nat.beq t) with
  | false => simp [VR]
  | true =>
    simp only [cond_true]
    cases hw : writer E.ops 0 t with
    | none => exact d.fr0 t fun j q hj hd => absurd hd (writer_none hw j q hj)
    | some w =>
      simp only
      cases hbt : bits (getL E.am i) w with
      | true =>
        simp only [cond_true]
        have hw1 := anc_in hc d.closed i o ho hb w hbt
        exact d.fr t fun j q hj hd => by rw [← writer_at hc hj hd hw]; exact hw1
      | false =>
        simp only [cond_false]
        refine d.fr0 t fun j q hj hd => ?_
        have hwj := writer_at hc hj hd hw
        subst hwj
        cases hS : S.getD w false with
        | false => rfl
        | true =>
          exfalso
          by_cases hwi : w = i
          · rw [hwi, hi] at hS; cases hS
          · rcases hc.reads w q i o t hj ho hwi hd (mem_any.1 hl) with h | h
            · rw [h] at hbt; cases hbt
            · have := anc_in hc d.closed w q hj (d.closed w q hS hj) i h
              rw [hi] at this
              cases this
theorem getD_set (S : Array Bool) (i j : Nat) (hi : i < S.size) : (S.setIfInBounds i true).getD j false = if i = j then true else S.getD j false := by
  split
  · rename_i h
    subst h
    rw [Array.getD_eq_getD_getElem?, Array.getElem?_setIfInBounds_self_of_lt hi]
    rfl
  · rename_i h
    exact getD_set_ne false h
theorem put_get {a : Act} {d : Option Nat} {u : Value} {t : Nat} (h : d ≠ some t) : (a.put d u).tmps.getD t undef = a.tmps.getD t undef := by
  cases d with
  | none => rfl
  | some d =>
    have hne : d ≠ t := fun he => h (by rw [he])
    simp only [Act.put]
    rw [Array.getD_eq_getD_getElem?, Array.getElem?_setIfInBounds_ne hne, ← Array.getD_eq_getD_getElem?]
theorem put_same {a : Act} {u : Value} {t : Nat} (h : t < a.tmps.size) : (a.put (some t) u).tmps.getD t undef = u := by
  simp only [Act.put]
  rw [Array.getD_eq_getD_getElem?, Array.getElem?_setIfInBounds_self_of_lt h]
  rfl
/-- A quiet operation has been done. -/
theorem DI.quiet (hc : CK E) (d : DI P T n X0 H0 E es done k S X a F H ds) {i : Nat} {o : Oper} (ho : nth E.ops i = some o) (hi : S.getD i true = false) (hb : ∀ p ∈ bnd o, S.getD p false = true) (he : effB o = false) (hl : getN E.lv i ≤ k) (hd : okD n o.dst = true)
    {Y : Ctx} {v : AV} {u : Value} (hst : Step X H Y H) (hφ : ∀ j q, nth E.ops j = some q → j ≠ i → allocB q = true → Y.φ (slotAt E j) = X.φ (slotAt E j)) (hφ0 : ∀ j, j < H0.length → Y.φ j = X.φ j) (hv : VR Y v u) (hF : ∀ t, o.dst = some t → v = F t) :
    DI P T n X0 H0 E es done k (S.setIfInBounds i true) Y (a.put o.dst u) F H ds := by
  have hsz := getD_fl hi
  have hg := getD_set S i
  refine ⟨by simp [d.size], fun j q hj hq p hp => ?_, fun j hj => ?_, fun j q hq hf hj => ?_, fun e hm => ?_, fun t ht => ?_, fun t ht => ?_, fun j q hq ha hj => ?_, d.slen, ?_, ?_, hst.hr, d.ext.trans hst.ext, fun j hj => (hφ0 j hj).trans (d.φ j hj), d.len⟩
  · rw [hg _ hsz] at hj ⊢
    split
    · rfl
    · split at hj
      · rename_i h; subst h
        rw [ho] at hq; cases hq
        exact hb p hp
      · exact d.closed j q hj hq p hp
  · rw [hg _ hsz] at hj
    split at hj
    · rename_i h; subst h; exact hl
    · exact d.lev j hj
  · rw [hg _ hsz] at hj
    split at hj
    · cases hj
    · exact d.effs j q hq hf hj
  · rw [hg _ hsz]
    split
    · rfl
    · exact d.done e hm
  · by_cases hdt : o.dst = some t
    · rw [hdt] at hd ⊢
      rw [put_same (by rw [d.tsz]; simpa [okD] using hd), ← hF t hdt]
      exact hv
    · rw [put_get hdt]
      refine VR.mono hst.le _ _ (d.fr t fun j q hq hqd => ?_)
      have := ht j q hq hqd
      rw [hg _ hsz] at this
      split at this
      · rename_i h; subst h
        rw [ho] at hq; cases hq
        exact absurd hqd hdt
      · exact this
  · have hdt : o.dst ≠ some t := fun hdt => by
      have := ht i o ho hdt
      rw [hg _ hsz, if_pos rfl] at this
      cases this
    rw [put_get hdt]
    refine VR.mono hst.le _ _ (d.fr0 t fun j q hq hqd => ?_)
    have := ht j q hq hqd
    rw [hg _ hsz] at this
    split at this
    · cases this
    · exact this
  · rw [hg _ hsz] at hj
    split at hj
    · cases hj
    · rename_i h
      rw [hφ j q hq (Ne.symm h) ha]
      exact d.slot j q hq ha hj
  · cases o.dst <;> simp [Act.put, d.tsz]
  · have : (a.put o.dst u).defers = a.defers := by cases o.dst <;> rfl
    rw [this]
    exact d.hds.mono hst.le
end
end Go.Proofs.YthbncljlclcecaaDoor.A

namespace Go.Proofs.YthbncljlclcecaaDoor.A
open Go
set_option linter.unusedVariables false
set_option linter.unusedSimpArgs false

section
variable {P : Program} {T : Tab} {n : Nat} {X0 : Ctx} {H0 : Heap} {Q : Exit → Act → World → Prop} {ops : Array Oper}
variable {E : DE} {es done : List Nat} {k : Nat} {S : Array Bool} {X : Ctx} {a : Act} {F : Fr} {H : Heap} {ds : List AD}

def Cont (P : Program) (T : Tab) (E : DE) (K : St → Prop) (Kp : Value → St → Prop) (es : List Nat) (k : Nat) (done : List Nat) (F : Fr) (H : Heap) (ds : List AD) : Prop :=
  match es with
  | [] => K ⟨F, H, ds⟩
  | j :: es => match swB E j es with
     | none => effG P T E Kp j F H ds fun F H ds => epochs P T E K Kp es (k + 1) (j :: done) F H ds
     | some b => Ob (chk (swE E j b) = true) (effG P T E Kp j F H ds (fun F H ds => epochs P T E K Kp es (k + 1) (j :: done) F H ds) ∧ effG P T (swE E j b) Kp b F H ds fun F H ds => epochs P T (swE E j b) K Kp [j] (k + 1) (b :: done) F H ds)
theorem epochs_eq (K : St → Prop) (Kp : Value → St → Prop) : epochs P T E K Kp es k done F H ds = pass1 T E k (fun F H => pass2 T E k done F H (Cont P T E K Kp es k done F H ds) E.ops 0) E.ops 0 F H := by
  cases es <;> rfl
def QS (T : Tab) (E : DE) (k : Nat) (S : Array Bool) (F : Fr) (H : Heap) : Prop := ∀ i o, nth E.ops i = some o → effB o = false → S.getD i false = false → getN E.lv i ≤ k → QG T E i o F H
theorem HR.patch {H' : Heap} (hr : HR X H) (hl : H'.length = H.length) (h : ∀ m, X.φ m ≠ none → H'[m]? = H[m]?) : HR X H' := by
  have hne : ∀ {i b}, X.φ i = some b → X.φ i ≠ none := fun h h' => by rw [h] at h'; cases h'
  have hlive : ∀ {i b}, X.φ i = some b → live H' i → live H i := fun hb ⟨o, h1, h2⟩ => ⟨o, by rw [← h _ (hne hb)]; exact h1, h2⟩
  refine ⟨fun i b hb => ?_, fun i cs b hi hb => ?_, fun i es b hi hb => ?_, fun i j bi bj hij hi hj hbi hbj => ?_, fun i b hi hb => ?_, hr.fl⟩
  · rw [hl]; exact hr.lt i b hb
  · rw [h _ (hne hb)] at hi; exact hr.row i cs b hi hb
  · rw [h _ (hne hb)] at hi; exact hr.mp i es b hi hb
  · exact hr.sep i j bi bj hij (hlive hbi hi) (hlive hbj hj) hbi hbj
  · exact hr.fz i b (hlive hb hi) hb
theorem Ext.patch {H' : Heap} (he : Ext X0 H0 X H) (h : ∀ m, X.φ m ≠ none → H'[m]? = H[m]?) : Ext X0 H0 X H' :=
  ⟨he.size, he.keep, he.shape, fun b ⟨i, ad, ⟨o, h1, h2⟩, hi, hb⟩ => he.own b ⟨i, ad, ⟨o, by rw [← h i (by rw [hi]; simp)]; exact h1, h2⟩, hi, hb⟩, he.F, he.Fn, he.os, he.tape, he.output⟩
/-- A new epoch has been looked at. -/
theorem DI.open_ (hc : CK E) (d : DI P T n X0 H0 E es done k S X a F H ds) (fresh : ∀ i o, nth E.ops i = some o → effB o = false → getN E.lv i = k → S.getD i false = false)
    (old : ∀ i o, nth E.ops i = some o → freeB o = true → S.getD i false = false → getN E.lv i < k → QG T E i o F H) {K : St → Prop} {Kp : Value → St → Prop} (h : epochs P T E K Kp es k done F H ds) :
    ∃ F' H', DI P T n X0 H0 E es done k S X a F' H' ds ∧ QS T E k S F' H' ∧ Cont P T E K Kp es k done F' H' ds := by
  rw [epochs_eq] at h
  obtain ⟨F', H', h1, h2, h3, h4, h5⟩ := p1 hc E.ops 0 F H (fun i => by rw [Nat.zero_add]) h
  obtain ⟨h6, h7⟩ := p2 E.ops 0 (fun i => by rw [Nat.zero_add]) h1
  have hpatch : ∀ m, X.φ m ≠ none → H'[m]? = H[m]? := fun m hm => h4 m fun i o ho ha he hl hs => hm (by rw [← hs]; exact d.slot i o ho ha (fresh i o ho he hl))
  refine ⟨F', H', ⟨d.size, d.closed, d.lev, d.effs, d.done, fun t ht => ?_, d.fr0, d.slot, fun i o ho ha => by rw [h3]; exact d.slen i o ho ha, d.tsz, d.hds, d.hr.patch h3 hpatch, d.ext.patch hpatch, d.φ, by rw [h3]; exact d.len⟩, fun i o ho he hS hl => ?_, h6⟩
  · rw [h2 t fun i o _ ho hd => ?_]
    · exact d.fr t ht
    · cases he : effB o with
      | true => exact .inl rfl
      | false =>
        right
        intro hl
        have := fresh i o ho he hl
        rw [ht i o ho hd] at this
        cases this
  · cases hf : freeB o with
    | true =>
      rcases Nat.lt_or_ge (getN E.lv i) k with hlt | hge
      · obtain ⟨v, hv1, hv2⟩ := old i o ho hf hS hlt
        refine ⟨v, runQ_free hf (opF_congr fun t w hw hb => ?_) hv1, fun t hd => ?_⟩
        · symm
          refine h2 t fun i' o' _ ho' hd' => .inr ?_
          have := writer_at hc ho' hd' hw
          subst this
          have := (hc.mono i o w ho (nth_lt ho') hb).1
          omega
        · rw [hv2 t hd]
          symm
          refine h2 t fun i' o' _ ho' hd' => .inr ?_
          have h8 := writer_is hc ho hd
          have := writer_at hc ho' hd' h8
          subst this
          omega
      · exact h5 i o (Nat.zero_le _) ho he (by omega) hf
    | false =>
      refine h7 i o (Nat.zero_le _) ho he hf hl ?_
      unfold openB
      rw [Bool.not_eq_true']
      cases hx : done.any fun e => bits (getL E.am e) i with
      | false => rfl
      | true =>
        exfalso
        rw [List.any_eq_true] at hx
        obtain ⟨e, he1, he2⟩ := hx
        have hSe := d.done e he1
        have hlt := getD_lt hSe
        rw [d.size] at hlt
        have hx : nth E.ops e = some E.ops[e] := by rw [nth_eq]; exact List.getElem?_eq_getElem hlt
        have := anc_in hc d.closed e _ hx (d.closed e _ hSe hx) i he2
        rw [hS] at this
        cases this
theorem lastB_some {E : DE} {j k : Nat} {prev : Option Nat} {es : List Nat} {q : Bool} (h : lastB E j k prev es = some q) : ∃ b, es = [b] ∧ q = (efB E b && Nat.beq (getN E.lv b) (k + 1) && (bits (getL E.am b) j || ordB E b prev)) := by
  match es, h with
  | [b], h => exact ⟨b, rfl, (Option.some.inj h).symm⟩
theorem efB_some {E : DE} {j : Nat} (h : efB E j = true) : ∃ o, nth E.ops j = some o ∧ effB o = true := by
  unfold efB at h
  cases hn : nth E.ops j with
  | none => rw [hn] at h; cases h
  | some o => rw [hn] at h; exact ⟨o, rfl, h⟩
theorem chkE_lv : ∀ {es : List Nat} {k : Nat} {prev : Option Nat}, chkE E es k prev = true → ∀ i ∈ es, k ≤ getN E.lv i
  | [], _, _, _, i, h => by cases h
  | j :: es, k, prev, hc, i, h => by
    simp only [chkE, Bool.and_eq_true] at hc
    cases h with
    | head => rw [Nat.eq_of_beq_eq_true hc.1.1.2]; exact Nat.le_refl _
    | tail _ h =>
      have hc2 := hc.2
      cases hl : lastB E j k prev es with
      | none => rw [hl] at hc2; exact Nat.le_of_succ_le (chkE_lv hc2 i h)
      | some q =>
        rw [hl] at hc2
        replace hc2 : q = true := hc2
        obtain ⟨b, rfl, hq⟩ := lastB_some hl
        obtain rfl := List.mem_singleton.1 h
        rw [hc2] at hq
        have hq := hq.symm
        simp only [Bool.and_eq_true] at hq
        rw [Nat.eq_of_beq_eq_true hq.1.2]
        omega
theorem chkE_prev : ∀ {es : List Nat} {k j : Nat}, chkE E es k (some j) = true → ∀ i ∈ es, ∃ p, (p = j ∨ p ∈ es) ∧ bits (getL E.am i) p = true
  | [], _, _, _, i, h => by cases h
  | j' :: es, k, j, hc, i, h => by
    simp only [chkE, Bool.and_eq_true] at hc
    cases h with
    | head => exact ⟨j, .inl rfl, hc.1.2⟩
    | tail _ h =>
      have hc2 := hc.2
      cases hl : lastB E j' k (some j) es with
      | none =>
        rw [hl] at hc2
        obtain ⟨p, h1, h2⟩ := chkE_prev hc2 i h
        refine ⟨p, .inr ?_, h2⟩
        rcases h1 with rfl | h1
        · exact .head _
        · exact .tail _ h1
      | some q =>
        rw [hl] at hc2
        replace hc2 : q = true := hc2
        obtain ⟨b, rfl, hq⟩ := lastB_some hl
        obtain rfl := List.mem_singleton.1 h
        rw [hc2] at hq
        have hq := hq.symm
        simp only [Bool.and_eq_true, Bool.or_eq_true] at hq
        rcases hq.2 with h1 | h1
        · exact ⟨j', .inr (.head _), h1⟩
        · exact ⟨j, .inl rfl, h1⟩
theorem chkE_next {j k : Nat} {es : List Nat} {prev : Option Nat} (hc : chkE E (j :: es) k prev = true) : ∃ prev', chkE E es (k + 1) prev' = true := by
  simp only [chkE, Bool.and_eq_true] at hc
  have hc2 := hc.2
  cases hl : lastB E j k prev es with
  | none => rw [hl] at hc2; exact ⟨_, hc2⟩
  | some q =>
    rw [hl] at hc2
    replace hc2 : q = true := hc2
    obtain ⟨b, rfl, hq⟩ := lastB_some hl
    rw [hc2] at hq
    have hq := hq.symm
    simp only [Bool.and_eq_true] at hq
    refine ⟨none, ?_⟩
    simp only [chkE, lastB, ordB, Bool.and_eq_true]
    exact ⟨⟨hq.1, trivial⟩, trivial⟩
theorem chkE_tail {j k : Nat} {es : List Nat} {prev : Option Nat} (hc : chkE E (j :: es) k prev = true) (hs : swB E j es = none) {i : Nat} (hi : i ∈ es) : ∃ p, (p = j ∨ p ∈ es) ∧ bits (getL E.am i) p = true := by
  simp only [chkE, Bool.and_eq_true] at hc
  have hc2 := hc.2
  cases hl : lastB E j k prev es with
  | none => rw [hl] at hc2; exact chkE_prev hc2 i hi
  | some q =>
    obtain ⟨b, rfl, hq⟩ := lastB_some hl
    simp only [List.mem_singleton] at hi
    subst hi
    refine ⟨j, .inl rfl, ?_⟩
    cases hb : bits (getL E.am i) j with
    | true => rfl
    | false => simp [swB, hb] at hs
theorem swB_some {j b : Nat} {es : List Nat} (h : swB E j es = some b) : es = [b] := by
  match es, h with
  | [x], h =>
    cases hb : bits (getL E.am x) j with
    | true => simp [swB, hb] at h
    | false =>
      simp only [swB, hb, cond_false, Option.some.injEq] at h
      rw [h]
theorem nth_setN : ∀ {l : List Nat} {j i v : Nat}, nth (setN l j v) i = if i = j then (nth l i).map (fun _ => v) else nth l i
  | [], j, i, v => by cases i <;> simp [setN, nth]
  | x :: l, 0, 0, v => by simp [setN, nth]
  | x :: l, 0, i + 1, v => by simp [setN, nth]
  | x :: l, j + 1, 0, v => by simp [setN, nth]
  | x :: l, j + 1, i + 1, v => by
    simp only [setN, nth]
    rw [nth_setN]
    by_cases h : i = j
    · rw [if_pos h, if_pos (by omega)]
    · rw [if_neg h, if_neg (by omega)]
theorem getN_ne {l : List Nat} {j i v : Nat} (h : i ≠ j) : getN (setN l j v) i = getN l i := by
  unfold getN
  rw [nth_setN, if_neg h]
theorem getN_eq {l : List Nat} {j v : Nat} (h : getN l j ≠ 0) : getN (setN l j v) j = v := by
  unfold getN at h ⊢
  rw [nth_setN, if_pos rfl]
  cases hn : nth l j with
  | none => rw [hn] at h; exact absurd rfl h
  | some x => rfl
theorem bnd_mem {o : Oper} {e : Edge} (h : e ∈ o.after) (hb : Region.binds .any e = true) : e.on ∈ bnd o := by
  unfold bnd
  rw [List.mem_map]
  exact ⟨e, List.mem_filter.2 ⟨by simpa using h, hb⟩, rfl⟩
theorem mem_bnd {o : Oper} {p : Nat} (h : p ∈ bnd o) : ∃ e ∈ o.after, Region.binds .any e = true ∧ e.on = p := by
  unfold bnd at h
  rw [List.mem_map] at h
  obtain ⟨e, h1, h2⟩ := h
  rw [List.mem_filter] at h1
  exact ⟨e, by simpa using h1.1, h1.2, h2⟩
theorem all_listed (hc : CK E) (hops : E.ops = ops.toList) (hsz : S.size = E.ops.length) (hr : Region.ready .any ops S = []) : ∀ i, i < E.ops.length → S.getD i true = true := by
  intro i
  induction i using Nat.strongRecOn with
  | _ i ih =>
    intro hi
    cases hS : S.getD i true with
    | true => rfl
    | false =>
      exfalso
      have ho : ops[i]? = some E.ops[i] := by
        have : ops.toList[i]? = some E.ops[i] := by rw [← hops]; exact List.getElem?_eq_getElem hi
        simpa using this
      have hn : nth E.ops i = some E.ops[i] := by rw [nth_eq]; exact List.getElem?_eq_getElem hi
      have : i ∈ Region.ready .any ops S := mem_ready.2 ⟨hS, _, ho, fun e he hb => by
        have h1 := hc.lt i _ hn e.on (bnd_mem he hb)
        have h2 := ih e.on h1 (by omega)
        rw [Array.getD_eq_getD_getElem?] at h2 ⊢
        rw [Array.getElem?_eq_getElem (by omega)] at h2 ⊢
        exact h2⟩
      rw [hr] at this
      cases this
/-- One that is quiet, run. -/
theorem runQ_wp (hT : TOk P T) (hops : E.ops = ops.toList) (hok : okOps n E.ops = true) {i : Nat} {o : Oper} (ho : nth E.ops i = some o) (hat : At n X0 H0 X ⟨opF E F i o, H, ds⟩ a) (hsl : allocB o = true → X.φ (slotAt E i) = none ∧ slotAt E i < H.length)
    {v : AV} (h : runQ T E i o F H (fun u G => u = v ∧ G = H)) {next : Act → World → Prop}
    (hn : ∀ Y u, Step X H Y H → (∀ j, (allocB o = true → j ≠ slotAt E i) → j < H.length → Y.φ j = X.φ j) → VR Y v u → next (a.put o.dst u) Y.w) :
    wpOp P ops Q i next a X.w := by
  have hoi : ops[i]? = some o := by
    rw [hops, nth_eq] at ho
    simpa using ho
  have key : aopQ T o (opF E F i o) H (slotAt E i) (fun ob => H.set (slotAt E i) ob) (fun u G => u = v ∧ G = H) → o.wp P a X.w next Q := fun h => by
    cases ha : allocB o with
    | true =>
      obtain ⟨h1, h2⟩ := hsl ha
      have hN : NewAt X H (slotAt E i) (fun ob => H.set (slotAt E i) ob) := ⟨h1, fun ob => by simp, fun ob => by rw [List.getElem?_set_self h2], fun ob j hj => by rw [List.getElem?_set_ne (Ne.symm hj)]⟩
      obtain ⟨v', H1, Y, u, nx, ⟨rfl, rfl⟩, hrun, hnx, hv, hst, hφ⟩ := aopQ_run hT hat.st.hr hat.st.ev hN h
      exact upon_of_run hrun hnx (hn Y u hst (fun j hj _ => hφ j (hj ha)) hv)
    | false =>
      obtain ⟨v', H1, Y, u, nx, ⟨rfl, rfl⟩, hrun, hnx, hv, hst, hφ⟩ := aopQ_run hT hat.st.hr hat.st.ev (NewAt.push hat.st.hr) (aopQ_na ha h)
      exact upon_of_run hrun hnx (hn Y u hst (fun j _ hj => hφ j (Nat.ne_of_lt hj)) hv)
  have hskip : v = undefA → next (a.put o.dst undef) X.w := fun he => hn X undef (Step.refl hat.st.hr) (fun _ _ _ => rfl) (by rw [he]; exact VR_undef)
  have hokA : ∀ q ∈ ops.toList, okD n q.dst = true := by rw [← hops]; exact okOps_mem hok
  unfold wpOp
  rw [hoi]
  simp only
  unfold runQ at h
  split at h
  · rename_i hg
    rw [if_pos (guard_none hg _)]
    exact .inl (key h)
  · rename_i g want hg
    split at h
    · rename_i b hb
      rw [hops] at hb
      have hw := guard_bool hat.st hokA hg hb
      rw [hw]
      cases want <;> cases b <;> simp only at h
      · exact .inl (key h)
      · exact hskip h.1.symm
      · exact hskip h.1.symm
      · exact .inl (key h)
    · rename_i vs hb
      rw [hops] at hb
      rw [guard_tup hat.st hg hb]
      exact hskip h.1.symm
    · exact h.elim
end
end Go.Proofs.YthbncljlclcecaaDoor.A
