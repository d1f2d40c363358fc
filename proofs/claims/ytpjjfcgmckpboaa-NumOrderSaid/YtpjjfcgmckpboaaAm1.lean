/- An abstract machine over the model: abstract values, and how they stand for the model's values. No condition. -/
import Derived.Defers
import Derived.Recover
import Derived.Orders
import Derived.LoopN
namespace Go.Proofs.Ytpjjfcgmckpboaa.A
open Go
set_option linter.unusedVariables false

/-- Abstract values: 'view': a slice that nobody writes any more, by content; 'vp': a pointer into what nobody writes any more; 'ptr', 'slc', 'mapr': into an object by its number; 'junk': anything. -/
inductive AV where
  | junk
  | sc (v : Value)
  | nan (k : FloatKind)
  | ptr (i off : Nat)
  | slc (i off len sz : Nat)
  | vp (cells : List AV)
  | view (len : Nat) (cells : List AV)
  | mapr (i : Nat)
  | fn (f : Fn) (caps : List AV)
  | agg (cells : List AV)
  | tup (vs : List AV)
  deriving Inhabited

def plainS : Value → Bool
  | .bool _ => true
  | .int _ _ => true
  | .float _ _ => true
  | .string _ => true
  | .pointer none => true
  | .map none => true
  | .nilFunc => true
  | .nilIface => true
  | .slice none 0 0 => true
  | _ => false
def plain : Value → Bool
  | .iface _ (.agg cs) => cs.toList.all plainS
  | .iface _ v => plainS v
  | v => plainS v

/-- A plain value stands for itself; the nil slice for any slice without room. -/
def ScR (v v' : Value) : Prop := plain v = true ∧ (v' = v ∨ (v = .slice none 0 0 ∧ ∃ a, v' = .slice a 0 0))

structure Ctx where
  φ : Nat → Option Addr
  F : Nat → Prop
  w : World

/-- No objects: what is in a slice that nobody writes names none. -/
def Ctx.nof (X : Ctx) : Ctx := ⟨fun _ => none, X.F, X.w⟩
mutual
def VR : Ctx → AV → Value → Prop
  | X, .junk, _ => True
  | X, .sc v, v' => ScR v v'
  | X, .nan k, v' => ∃ b, v' = .float k b ∧ ∃ s t, k.format.read b = .nan s t
  | X, .ptr i off, v' => ∃ b, X.φ i = some b ∧ v' = .pointer (some ⟨b.block, b.off + off, none⟩)
  | X, .slc i off len sz, v' => ∃ b o c cells e, X.φ i = some b ∧ v' = .slice (some ⟨b.block, o, none⟩) len c ∧ len ≤ c ∧ (0 < len → o = b.off + off) ∧
      X.w.heap[b.block]? = some (Go.Obj.cells cells e (0, 0)) ∧ o + c * sz ≤ cells.size
  | X, .vp cells, v' => ∃ ad, v' = .pointer (some ad) ∧ ad.spot = none ∧ VC X (some ad) 0 cells
  | X, .view len cells, v' => ∃ a c, v' = .slice a len c ∧ len ≤ c ∧ (len = 0 ∨ ∃ ad : Addr, a = some ad ∧ ad.spot = none) ∧ VC X a 0 cells
  | X, .mapr i, v' => ∃ b, X.φ i = some b ∧ v' = .map (some b.block)
  | X, .fn f caps, v' => ∃ caps', v' = .func f #[] caps' ∧ VL X caps caps'.toList
  | X, .agg cells, v' => ∃ cs, v' = .agg cs ∧ VL X cells cs.toList
  | X, .tup vs, v' => ∃ ws, v' = .tuple ws ∧ VL X vs ws.toList
def VL : Ctx → List AV → List Value → Prop
  | X, [], [] => True
  | X, a :: as, v :: vs => VR X a v ∧ VL X as vs
  | X, _, _ => False
def VC : Ctx → Option Addr → Nat → List AV → Prop
  | X, a, _, [] => True
  | X, a, k, c :: cs => (∃ ad v', a = some ad ∧ ad.spot = none ∧ X.F ad.block ∧ X.w.cell? ⟨ad.block, ad.off + k, none⟩ = some v' ∧ VR X.nof c v') ∧ VC X a (k + 1) cs
end

/-- What may have happened between two worlds, as seen from values: what was known is known. -/
structure Le (X Y : Ctx) : Prop where
  φ : ∀ i b, X.φ i = some b → Y.φ i = some b
  F : ∀ b, X.F b → Y.F b
  fz : ∀ b, X.F b → Y.w.heap[b]? = X.w.heap[b]?
  shape : ∀ (b : Nat) (cells : Array Value) (e : TypeId) (fr : Nat × Nat), X.w.heap[b]? = some (Go.Obj.cells cells e fr) → ∃ cells', Y.w.heap[b]? = some (Go.Obj.cells cells' e fr) ∧ cells'.size = cells.size

theorem Le.nof {X Y : Ctx} (h : Le X Y) : Le X.nof Y.nof := ⟨fun _ _ h => (by cases h), h.F, h.fz, h.shape⟩
theorem Le.of_nof (X : Ctx) : Le X.nof X := ⟨fun _ _ h => (by cases h), fun _ h => h, fun _ _ => rfl, fun _ cells _ _ h => ⟨cells, h, rfl⟩⟩
theorem Le.refl (X : Ctx) : Le X X := ⟨fun _ _ h => h, fun _ h => h, fun _ _ => rfl, fun _ _ _ _ h => ⟨_, h, rfl⟩⟩
theorem Le.trans {X Y Z : Ctx} (h : Le X Y) (k : Le Y Z) : Le X Z :=
  ⟨fun i b hb => k.φ i b (h.φ i b hb), fun b hb => k.F b (h.F b hb), fun b hb => (k.fz b (h.F b hb)).trans (h.fz b hb), fun b cells e fr hb => by
    obtain ⟨c1, h1, s1⟩ := h.shape b cells e fr hb
    obtain ⟨c2, h2, s2⟩ := k.shape b c1 e fr h1
    exact ⟨c2, h2, s2.trans s1⟩⟩

theorem cell_of_heap {w w' : World} {b o : Nat} (h : w'.heap[b]? = w.heap[b]?) : w'.cell? ⟨b, o, none⟩ = w.cell? ⟨b, o, none⟩ := by
  simp only [World.cell?, h]

mutual
theorem VR.mono : ∀ {X Y : Ctx} (h : Le X Y) (a : AV) (v : Value), VR X a v → VR Y a v
  | X, Y, h, .junk, _, _ => by simp [VR]
  | X, Y, h, .sc s, v, hv => by simpa [VR] using hv
  | X, Y, h, .nan k, v, hv => by simpa [VR] using hv
  | X, Y, h, .ptr i off, v, hv => by
    simp only [VR] at hv ⊢
    obtain ⟨b, hb, e⟩ := hv
    exact ⟨b, h.φ _ _ hb, e⟩
  | X, Y, h, .slc i off len sz, v, hv => by
    simp only [VR] at hv ⊢
    obtain ⟨b, o, c, cells, e, hb, he, h1, h2, h3, h4⟩ := hv
    obtain ⟨cells', h3', hs⟩ := h.shape _ _ _ _ h3
    exact ⟨b, o, c, cells', e, h.φ _ _ hb, he, h1, h2, h3', by omega⟩
  | X, Y, h, .vp cells, v, hv => by
    simp only [VR] at hv ⊢
    obtain ⟨ad, e, hs, hc⟩ := hv
    exact ⟨ad, e, hs, VC.mono h _ 0 cells hc⟩
  | X, Y, h, .view len cells, v, hv => by
    simp only [VR] at hv ⊢
    obtain ⟨a, c, e, hl, hn, hc⟩ := hv
    exact ⟨a, c, e, hl, hn, VC.mono h a 0 cells hc⟩
  | X, Y, h, .mapr i, v, hv => by
    simp only [VR] at hv ⊢
    obtain ⟨b, hb, e⟩ := hv
    exact ⟨b, h.φ _ _ hb, e⟩
  | X, Y, h, .fn f caps, v, hv => by
    simp only [VR] at hv ⊢
    obtain ⟨c, e, hl⟩ := hv
    exact ⟨c, e, VL.mono h caps _ hl⟩
  | X, Y, h, .agg cells, v, hv => by
    simp only [VR] at hv ⊢
    obtain ⟨c, e, hl⟩ := hv
    exact ⟨c, e, VL.mono h cells _ hl⟩
  | X, Y, h, .tup vs, v, hv => by
    simp only [VR] at hv ⊢
    obtain ⟨c, e, hl⟩ := hv
    exact ⟨c, e, VL.mono h vs _ hl⟩
theorem VL.mono : ∀ {X Y : Ctx} (h : Le X Y) (as : List AV) (vs : List Value), VL X as vs → VL Y as vs
  | X, Y, h, [], [], _ => by simp [VL]
  | X, Y, h, [], _ :: _, hv => by simp [VL] at hv
  | X, Y, h, _ :: _, [], hv => by simp [VL] at hv
  | X, Y, h, a :: as, v :: vs, hv => by
    simp only [VL] at hv ⊢
    exact ⟨VR.mono h a v hv.1, VL.mono h as vs hv.2⟩
theorem VC.mono : ∀ {X Y : Ctx} (h : Le X Y) (ad : Option Addr) (k : Nat) (cs : List AV), VC X ad k cs → VC Y ad k cs
  | X, Y, h, ad, _, [], _ => by simp [VC]
  | X, Y, h, ad, k, c :: cs, hv => by
    simp only [VC] at hv ⊢
    obtain ⟨⟨a, v', e, hs, hF, hc, hr⟩, hrest⟩ := hv
    exact ⟨⟨a, v', e, hs, h.F _ hF, (cell_of_heap (h.fz _ hF)).trans hc, VR.mono h.nof c v' hr⟩, VC.mono h ad (k + 1) cs hrest⟩
end

theorem VL.length {X : Ctx} : ∀ {as : List AV} {vs : List Value}, VL X as vs → as.length = vs.length
  | [], [], _ => rfl
  | [], _ :: _, h => by simp [VL] at h
  | _ :: _, [], h => by simp [VL] at h
  | a :: as, v :: vs, h => by
    simp only [VL] at h
    simp [VL.length h.2]
theorem VL.get {X : Ctx} : ∀ {as : List AV} {vs : List Value}, VL X as vs → ∀ (i : Nat) (a : AV), as[i]? = some a → ∃ v, vs[i]? = some v ∧ VR X a v
  | [], [], _, i, a, h => by simp at h
  | [], _ :: _, h, _, _, _ => by simp [VL] at h
  | _ :: _, [], h, _, _, _ => by simp [VL] at h
  | a :: as, v :: vs, h, 0, x, hx => by
    simp only [VL] at h
    simp at hx
    exact ⟨v, by simp, hx ▸ h.1⟩
  | a :: as, v :: vs, h, i + 1, x, hx => by
    simp only [VL] at h
    simp at hx
    simpa using VL.get h.2 i x hx
theorem VL.of_get {X : Ctx} : ∀ {as : List AV} {vs : List Value}, as.length = vs.length → (∀ (i : Nat) (a : AV) (v : Value), as[i]? = some a → vs[i]? = some v → VR X a v) → VL X as vs
  | [], [], _, _ => by simp [VL]
  | [], _ :: _, h, _ => by simp at h
  | _ :: _, [], h, _ => by simp at h
  | a :: as, v :: vs, h, hg => by
    simp only [VL]
    exact ⟨hg 0 a v (by simp) (by simp), VL.of_get (by simpa using h) fun i x y hx hy => hg (i + 1) x y (by simpa using hx) (by simpa using hy)⟩
theorem VL.append {X : Ctx} : ∀ {as : List AV} {vs : List Value} {bs : List AV} {ws : List Value}, VL X as vs → VL X bs ws → VL X (as ++ bs) (vs ++ ws)
  | [], [], _, _, _, h => by simpa using h
  | [], _ :: _, _, _, h, _ => by simp [VL] at h
  | _ :: _, [], _, _, h, _ => by simp [VL] at h
  | a :: as, v :: vs, _, _, h, k => by
    simp only [VL] at h
    simp only [List.cons_append, VL]
    exact ⟨h.1, VL.append h.2 k⟩
theorem VL.drop {X : Ctx} : ∀ {as : List AV} {vs : List Value} (n : Nat), VL X as vs → VL X (as.drop n) (vs.drop n)
  | _, _, 0, h => by simpa using h
  | [], [], n + 1, _ => by simp [VL]
  | [], _ :: _, _ + 1, h => by simp [VL] at h
  | _ :: _, [], _ + 1, h => by simp [VL] at h
  | a :: as, v :: vs, n + 1, h => by
    simp only [VL] at h
    simpa using VL.drop n h.2
theorem VL.take {X : Ctx} : ∀ {as : List AV} {vs : List Value} (n : Nat), VL X as vs → VL X (as.take n) (vs.take n)
  | _, _, 0, h => by simp [VL]
  | [], [], n + 1, _ => by simp [VL]
  | [], _ :: _, _ + 1, h => by simp [VL] at h
  | _ :: _, [], _ + 1, h => by simp [VL] at h
  | a :: as, v :: vs, n + 1, h => by
    simp only [VL] at h
    simp only [List.take_succ_cons, VL]
    exact ⟨h.1, VL.take n h.2⟩
theorem VL.set {X : Ctx} : ∀ {as : List AV} {vs : List Value} (n : Nat) {a : AV} {v : Value}, VL X as vs → VR X a v → VL X (as.set n a) (vs.set n v)
  | [], [], _, _, _, h, _ => by simpa using h
  | [], _ :: _, _, _, _, h, _ => by simp [VL] at h
  | _ :: _, [], _, _, _, h, _ => by simp [VL] at h
  | a :: as, v :: vs, 0, _, _, h, k => by
    simp only [VL] at h
    simp only [List.set_cons_zero, VL]
    exact ⟨k, h.2⟩
  | a :: as, v :: vs, n + 1, _, _, h, k => by
    simp only [VL] at h
    simp only [List.set_cons_succ, VL]
    exact ⟨h.1, VL.set n h.2 k⟩
theorem VC.get' {X : Ctx} {ad : Option Addr} : ∀ {cs : List AV} {k : Nat}, VC X ad k cs → ∀ (i : Nat) (c : AV), cs[i]? = some c →
    ∃ a v', ad = some a ∧ a.spot = none ∧ X.F a.block ∧ X.w.cell? ⟨a.block, a.off + (k + i), none⟩ = some v' ∧ VR X.nof c v'
  | [], k, _, i, c, h => by simp at h
  | c :: cs, k, h, 0, x, hx => by
    simp only [VC] at h
    simp at hx
    obtain ⟨⟨a, v', h1, h2, h3, h4, h5⟩, _⟩ := h
    exact ⟨a, v', h1, h2, h3, by simpa using h4, hx ▸ h5⟩
  | c :: cs, k, h, i + 1, x, hx => by
    simp only [VC] at h
    simp at hx
    obtain ⟨a, v', h1, h2, h3, h4, h5⟩ := VC.get' h.2 i x hx
    exact ⟨a, v', h1, h2, h3, by rw [show k + (i + 1) = k + 1 + i by omega]; exact h4, h5⟩
theorem VC.get {X : Ctx} {ad : Option Addr} {cs : List AV} {k : Nat} (h : VC X ad k cs) (i : Nat) (c : AV) (hc : cs[i]? = some c) :
    ∃ a v', ad = some a ∧ a.spot = none ∧ X.F a.block ∧ X.w.cell? ⟨a.block, a.off + (k + i), none⟩ = some v' ∧ VR X c v' := by
  obtain ⟨a, v', h1, h2, h3, h4, h5⟩ := h.get' i c hc
  exact ⟨a, v', h1, h2, h3, h4, VR.mono (Le.of_nof X) _ _ h5⟩
theorem VC.of_get {X : Ctx} {ad : Addr} (hs : ad.spot = none) (hF : X.F ad.block) : ∀ {cs : List AV} {k : Nat},
    (∀ (i : Nat) (c : AV), cs[i]? = some c → ∃ v', X.w.cell? ⟨ad.block, ad.off + (k + i), none⟩ = some v' ∧ VR X.nof c v') → VC X (some ad) k cs
  | [], _, _ => by simp [VC]
  | c :: cs, k, h => by
    simp only [VC]
    obtain ⟨v', h1, h2⟩ := h 0 c (by simp)
    exact ⟨⟨ad, v', rfl, hs, hF, by simpa using h1, h2⟩, VC.of_get hs hF fun i x hx => by
      obtain ⟨v', h1, h2⟩ := h (i + 1) x (by simpa using hx)
      exact ⟨v', by rw [show k + 1 + i = k + (i + 1) by omega]; exact h1, h2⟩⟩

/-! ### Objects, heaps -/
inductive AObj where
  | dead
  | row (cs : List AV)
  | mp (es : List (Value × AV))
  deriving Inhabited
abbrev Heap := List AObj
def AObj.live : AObj → Bool
  | .dead => false
  | _ => true
def live (H : Heap) (i : Nat) : Prop := ∃ o, H[i]? = some o ∧ o.live = true

def RowR (X : Ctx) (b : Addr) (cs : List AV) : Prop :=
  ∃ cells e, X.w.heap[b.block]? = some (Go.Obj.cells cells e (0, 0)) ∧ ∀ (k : Nat) (c : AV), cs[k]? = some c → ∃ v', cells[b.off + k]? = some v' ∧ VR X c v'
def EntR (X : Ctx) : List (Value × AV) → List MapEntry → Prop
  | [], [] => True
  | (k, v) :: es, e :: fs => e.key = k ∧ plainS k = true ∧ VR X v e.val ∧ EntR X es fs
  | _, _ => False
def MapR (X : Ctx) (b : Addr) (es : List (Value × AV)) : Prop :=
  ∃ es' clock, X.w.heap[b.block]? = some (Go.Obj.map es' clock) ∧ EntR X es es'.toList

structure HR (X : Ctx) (H : Heap) : Prop where
  lt : ∀ i b, X.φ i = some b → i < H.length ∧ b.spot = none ∧ b.block < X.w.heap.size
  row : ∀ i cs b, H[i]? = some (.row cs) → X.φ i = some b → RowR X b cs
  mp : ∀ i es b, H[i]? = some (.mp es) → X.φ i = some b → MapR X b es
  sep : ∀ i j bi bj, i ≠ j → live H i → live H j → X.φ i = some bi → X.φ j = some bj → bi.block ≠ bj.block
  fz : ∀ i b, live H i → X.φ i = some b → ¬ X.F b.block
  fl : ∀ b, X.F b → b < X.w.heap.size

def Owned (X : Ctx) (H : Heap) (blk : Nat) : Prop := ∃ i b, live H i ∧ X.φ i = some b ∧ b.block = blk

/-- What a run may have done to the world. -/
structure Ext (X : Ctx) (H : Heap) (Y : Ctx) (H' : Heap) : Prop where
  size : X.w.heap.size ≤ Y.w.heap.size
  keep : ∀ b, b < X.w.heap.size → ¬ Owned X H b → Y.w.heap[b]? = X.w.heap[b]?
  shape : ∀ (b : Nat) (cells : Array Value) (e : TypeId) (fr : Nat × Nat), X.w.heap[b]? = some (Go.Obj.cells cells e fr) → ∃ cells', Y.w.heap[b]? = some (Go.Obj.cells cells' e fr) ∧ cells'.size = cells.size
  own : ∀ b, Owned Y H' b → Owned X H b ∨ X.w.heap.size ≤ b
  F : ∀ b, X.F b → Y.F b
  Fn : ∀ b, Y.F b → X.F b ∨ Owned X H b ∨ X.w.heap.size ≤ b
  os : Y.w.os = X.w.os
  tape : Y.w.tape = X.w.tape
  output : Y.w.output = X.w.output

theorem Ext.refl (X : Ctx) (H : Heap) : Ext X H X H :=
  ⟨Nat.le_refl _, fun _ _ _ => rfl, fun _ _ _ _ h => ⟨_, h, rfl⟩, fun _ h => .inl h, fun _ h => h, fun _ h => .inl h, rfl, rfl, rfl⟩
theorem Ext.trans {X Y Z : Ctx} {H H' H'' : Heap} (h : Ext X H Y H') (k : Ext Y H' Z H'') : Ext X H Z H'' :=
  ⟨Nat.le_trans h.size k.size,
   fun b hb hn => (k.keep b (Nat.lt_of_lt_of_le hb h.size) fun ho => by
      rcases h.own b ho with h1 | h1
      · exact hn h1
      · omega).trans (h.keep b hb hn),
   fun b cells e fr hb => by
    obtain ⟨c1, h1, s1⟩ := h.shape b cells e fr hb
    obtain ⟨c2, h2, s2⟩ := k.shape b c1 e fr h1
    exact ⟨c2, h2, s2.trans s1⟩,
   fun b ho => by
    rcases k.own b ho with h1 | h1
    · exact h.own b h1
    · exact .inr (Nat.le_trans h.size h1),
   fun b hb => k.F b (h.F b hb),
   fun b hb => by
    rcases k.Fn b hb with h1 | h1 | h1
    · exact h.Fn b h1
    · rcases h.own b h1 with h2 | h2
      · exact .inr (.inl h2)
      · exact .inr (.inr h2)
    · exact .inr (.inr (Nat.le_trans h.size h1)),
   k.os.trans h.os, k.tape.trans h.tape, k.output.trans h.output⟩
theorem Ext.le {X Y : Ctx} {H H' : Heap} (h : Ext X H Y H') (hr : HR X H) (hφ : ∀ i b, X.φ i = some b → Y.φ i = some b) : Le X Y :=
  ⟨hφ, h.F, fun b hb => h.keep b (hr.fl b hb) (by
    rintro ⟨i, a, hl, ha, rfl⟩
    exact hr.fz i a hl ha hb), h.shape⟩

theorem RowR.mono {X Y : Ctx} (h : Le X Y) {b : Addr} {cs : List AV} (hw : Y.w.heap[b.block]? = X.w.heap[b.block]?) (k : RowR X b cs) : RowR Y b cs := by
  obtain ⟨cells, e, h1, h2⟩ := k
  exact ⟨cells, e, hw.trans h1, fun i c hc => by
    obtain ⟨v', h3, h4⟩ := h2 i c hc
    exact ⟨v', h3, VR.mono h _ _ h4⟩⟩
theorem EntR.mono {X Y : Ctx} (h : Le X Y) : ∀ {es : List (Value × AV)} {fs : List MapEntry}, EntR X es fs → EntR Y es fs
  | [], [], _ => by simp [EntR]
  | [], _ :: _, hv => by simp [EntR] at hv
  | _ :: _, [], hv => by simp [EntR] at hv
  | (k, v) :: es, e :: fs, hv => by
    simp only [EntR] at hv ⊢
    exact ⟨hv.1, hv.2.1, VR.mono h _ _ hv.2.2.1, EntR.mono h hv.2.2.2⟩
theorem MapR.mono {X Y : Ctx} (h : Le X Y) {b : Addr} {es : List (Value × AV)} (hw : Y.w.heap[b.block]? = X.w.heap[b.block]?) (k : MapR X b es) : MapR Y b es := by
  obtain ⟨es', c, h1, h2⟩ := k
  exact ⟨es', c, hw.trans h1, EntR.mono h h2⟩

theorem EntR.length {X : Ctx} : ∀ {es : List (Value × AV)} {fs : List MapEntry}, EntR X es fs → es.length = fs.length
  | [], [], _ => rfl
  | [], _ :: _, h => by simp [EntR] at h
  | _ :: _, [], h => by simp [EntR] at h
  | (k, v) :: es, e :: fs, h => by
    simp only [EntR] at h
    simp [EntR.length h.2.2.2]

end Go.Proofs.Ytpjjfcgmckpboaa.A
