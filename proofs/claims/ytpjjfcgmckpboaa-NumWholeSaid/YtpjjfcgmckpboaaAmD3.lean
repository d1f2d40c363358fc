/- Statements whose order is open: what is asked of them. No condition. -/
import Derived.Test.YtpjjfcgmckpboaaAmD2
import Derived.Test.YtpjjfcgmckpboaaAm13
import Derived.Orders
namespace Go.Proofs.Ytpjjfcgmckpboaa.A
open Go
set_option linter.unusedVariables false
set_option linter.unusedSimpArgs false

/-- The operations that must stand ahead, named at the operation itself. -/
def bnd (o : Oper) : List Nat := (o.after.toList.filter (Region.binds .any)).map (·.on)
/-- Does it more than look? -/
def effB (o : Oper) : Bool :=
  match o.op with
  | .store .. => true
  | .defer _ => true
  | .panic _ => true
  | .call c =>
    match c.callee with
    | .builtin .len => false
    | .builtin .max => false
    | .builtin .min => false
    | _ => true
  | _ => false
/-- Does it make an object? -/
def allocB (o : Oper) : Bool :=
  match o.op with
  | .alloc _ => true
  | .box .. => true
  | .buildSlice .. => true
  | .makeSlice .. => true
  | .makeMap .. => true
  | _ => false
/-- Does it look at nothing but its operands? -/
def freeB (o : Oper) : Bool :=
  match o.op with
  | .move _ => true
  | .assign _ => true
  | .pick .. => true
  | .build .. => true
  | .nilCheck _ => true
  | .binOp .. => true
  | .unOp .. => true
  | .makeInterface .. => true
  | .makeFunc .. => true
  | .fieldAddr .. => true
  | .field .. => true
  | .indexAddr .. => true
  | .index .. => true
  | .typeAssert .. => true
  | .extract .. => true
  | _ => false
def look (ops : List Oper) (o : Oper) : List Nat :=
  (o.op.operands.toList.filterMap fun | .tmp t => some t | _ => none) ++
  (match o.guard with
   | some (g, _) => match nth ops g with
     | some q => match q.dst with
       | some t => [t]
       | none => []
     | none => []
   | none => [])
def getN (l : List Nat) (i : Nat) : Nat :=
  match nth l i with
  | some x => x
  | none => 0
def getL (l : List (List Nat)) (i : Nat) : List Nat :=
  match nth l i with
  | some x => x
  | none => []
def bits (l : List Nat) (p : Nat) : Bool := l.any (Nat.beq p)
/-- How many of those that do more than look must stand ahead; such a one's own number. -/
def levOf (acc : List Nat) (c : Nat) (o : Oper) : Nat :=
  match effB o with
  | true => c + 1
  | false => (bnd o).foldl (fun m p => Nat.max m (getN acc p)) 0
def levs : List Oper → Nat → List Nat → List Nat
  | [], _, acc => acc
  | o :: os, c, acc => levs os (bif effB o then c + 1 else c) (acc ++ [levOf acc c o])
def slots : List Oper → Nat → List Nat
  | [], _ => []
  | o :: os, c => c :: slots os (bif allocB o then c + 1 else c)
def countB (f : Oper → Bool) : List Oper → Nat
  | [] => 0
  | o :: os => bif f o then countB f os + 1 else countB f os
def effsOf : List Oper → Nat → List Nat
  | [], _ => []
  | o :: os, i => bif effB o then i :: effsOf os (i + 1) else effsOf os (i + 1)
/-- A region, and what is known of its order. -/
structure DE where
  ops : List Oper
  lv : List Nat
  am : List (List Nat)
  sl : List Nat
  es : List Nat
  lk : List (List Nat)
  f0 : Fr
  N0 : Nat
def eqN : List Nat → List Nat → Bool
  | [], [] => true
  | x :: xs, y :: ys => bif Nat.beq x y then eqN xs ys else false
  | _, _ => false
theorem eqN_eq : ∀ {x y : List Nat}, eqN x y = true → x = y
  | [], [], _ => rfl
  | [], _ :: _, h => by simp [eqN] at h
  | _ :: _, [], h => by simp [eqN] at h
  | x :: xs, y :: ys, h => by
    cases hb : Nat.beq x y with
    | false => simp [eqN, hb] at h
    | true =>
      simp only [eqN, hb, cond_true] at h
      rw [Nat.eq_of_beq_eq_true hb, eqN_eq h]
/-- Who writes a place. -/
def writer : List Oper → Nat → Nat → Option Nat
  | [], _, _ => none
  | o :: os, i, t =>
    match o.dst with
    | some d => bif Nat.beq d t then some i else writer os (i + 1) t
    | none => writer os (i + 1) t
/-- What operation j sees. -/
def opF (E : DE) (F : Fr) (j : Nat) (o : Oper) : Fr := fun t =>
  bif (getL E.lk j).any (Nat.beq t) then
    match writer E.ops 0 t with
    | none => E.f0 t
    | some i => bif bits (getL E.am j) i then F t else E.f0 t
  else .junk
def slotAt (E : DE) (j : Nat) : Nat := E.N0 + getN E.sl j
def runQ (T : Tab) (E : DE) (j : Nat) (o : Oper) (F : Fr) (H : Heap) (K : AV → Heap → Prop) : Prop :=
  match o.guard with
  | none => aopQ T o (opF E F j o) H (slotAt E j) (fun ob => H.set (slotAt E j) ob) K
  | some (g, want) =>
    match guardV E.ops (opF E F j o) g with
    | some (.sc (.bool b)) =>
      match want with
      | true => @Bool.rec (fun _ => Prop) (K undefA H) (aopQ T o (opF E F j o) H (slotAt E j) (fun ob => H.set (slotAt E j) ob) K) b
      | false => @Bool.rec (fun _ => Prop) (aopQ T o (opF E F j o) H (slotAt E j) (fun ob => H.set (slotAt E j) ob) K) (K undefA H) b
    | some (.tup _) => K undefA H
    | _ => False
/-- The operations of level k, in the text's order. -/
def pass1 (T : Tab) (E : DE) (k : Nat) (K : Fr → Heap → Prop) : List Oper → Nat → Fr → Heap → Prop
  | [], _, F, H => K F H
  | o :: os, j, F, H =>
    match effB o || !Nat.beq (getN E.lv j) k with
    | true => pass1 T E k K os (j + 1) F H
    | false => runQ T E j o F H fun v H' => force v fun v => forceH H' fun H' =>
        match o.dst with
        | some t => pass1 T E k K os (j + 1) (upd F t v) H'
        | none => pass1 T E k K os (j + 1) F H'
def Same (a b : AV) (H H' : Heap) (K : Prop) : Prop := (a = b ∧ H = H') ∧ K
theorem same {a : AV} {H : Heap} {K : Prop} (k : K) : Same a a H H K := ⟨⟨rfl, rfl⟩, k⟩
/-- May it be still to come when the effects done have been done? -/
def openB (E : DE) (done : List Nat) (j : Nat) : Bool := !(done.any fun e => bits (getL E.am e) j)
/-- What has been seen is seen again. -/
def pass2 (T : Tab) (E : DE) (k : Nat) (done : List Nat) (F : Fr) (H : Heap) (K : Prop) : List Oper → Nat → Prop
  | [], _ => K
  | o :: os, j =>
    match effB o || freeB o || !Nat.ble (getN E.lv j) k || !openB E done j with
    | true => pass2 T E k done F H K os (j + 1)
    | false => runQ T E j o F H fun v H' =>
        match o.dst with
        | some t => Same v (F t) H' H (pass2 T E k done F H K os (j + 1))
        | none => False
def epochs (P : Program) (T : Tab) (E : DE) (K : St → Prop) : List Nat → Nat → List Nat → Fr → Heap → List AD → Prop
  | [], k, done, F, H, ds => pass1 T E k (fun F H => pass2 T E k done F H (K ⟨F, H, ds⟩) E.ops 0) E.ops 0 F H
  | j :: es, k, done, F, H, ds => pass1 T E k (fun F H => pass2 T E k done F H
      (match nth E.ops j with
       | some o => aopG P T E.ops o ⟨opF E F j o, H, ds⟩ (fun s =>
           match s, o.dst with
           | ⟨fr, H, ds⟩, some t => force (fr t) fun v => epochs P T E K es (k + 1) (j :: done) (upd F t v) H ds
           | ⟨fr, H, ds⟩, none => epochs P T E K es (k + 1) (j :: done) F H ds) (fun _ _ => False)
       | none => False) E.ops 0) E.ops 0 F H
def allN (f : Nat → Bool) : Nat → Bool
  | 0 => true
  | n + 1 => bif f n then allN f n else false
/-- What is asked of two operations. -/
def pairB (E : DE) (i : Nat) (o : Oper) (j : Nat) (q : Oper) : Bool :=
  (match o.dst with
   | some t => (match q.dst with
      | some d => !Nat.beq d t
      | none => true) && (!(look E.ops q).any (Nat.beq t) || bits (getL E.am j) i || bits (getL E.am i) j)
   | none => true) && (!(allocB o && allocB q) || !Nat.beq (getN E.sl i) (getN E.sl j))
/-- What is asked of a region's order, to be reckoned once. -/
def chk1 (E : DE) (i : Nat) (o : Oper) : Bool :=
  (bnd o).all (fun p => Nat.blt p i) &&
  (getL E.am i).all (fun p => (bnd o).any fun q => Nat.beq q p || bits (getL E.am q) p) &&
  (match effB o with
   | true => true
   | false => Nat.beq (getN E.lv i) 0 || (bnd o).any fun p => Nat.beq (getN E.lv p) (getN E.lv i)) &&
  allN (fun j =>
    (!bits (getL E.am i) j || (Nat.ble (getN E.lv j) (getN E.lv i) && (match effB o with
      | true => Nat.blt (getN E.lv j) (getN E.lv i)
      | false => true))) &&
    (Nat.beq i j || match nth E.ops j with
      | some q => pairB E i o j q
      | none => true)) E.ops.length
def chkL (E : DE) : List Oper → Nat → Bool
  | [], _ => true
  | o :: os, i => bif chk1 E i o then chkL E os (i + 1) else false
/-- The effects stand one behind the other. -/
def chkE (E : DE) : List Nat → Nat → Option Nat → Bool
  | [], _, _ => true
  | j :: es, k, prev =>
    (match nth E.ops j with
     | some o => effB o
     | none => false) && Nat.beq (getN E.lv j) k &&
    (match prev with
     | some p => bits (getL E.am j) p
     | none => true) && chkE E es (k + 1) (some j)
def chk (E : DE) : Bool :=
  chkL E E.ops 0 && chkE E E.es 1 none && Nat.beq E.es.length (countB effB E.ops) &&
  allN (fun i => match nth E.ops i with
    | some o => !effB o || E.es.any (Nat.beq i)
    | none => true) E.ops.length && allN (fun i => match nth E.ops i with
    | some o => eqN (getL E.lk i) (look E.ops o)
    | none => true) E.ops.length && allN (fun i => match nth E.ops i with
    | some o => !allocB o || Nat.blt (getN E.sl i) (countB allocB E.ops)
    | none => true) E.ops.length
def awpDraw (P : Program) (T : Tab) (ops : Array Oper) (K : St → Prop) (Kp : Value → St → Prop) (s : St) : Prop :=
  match s with
  | ⟨fr, H, ds⟩ => ∃ lv am sl es lk, Ob (chk ⟨ops.toList, lv, am, sl, es, lk, fr, H.length⟩ = true) (epochs P T ⟨ops.toList, lv, am, sl, es, lk, fr, H.length⟩ K es 0 [] fr (H ++ List.replicate (countB allocB ops.toList) .dead) ds)
end Go.Proofs.Ytpjjfcgmckpboaa.A
