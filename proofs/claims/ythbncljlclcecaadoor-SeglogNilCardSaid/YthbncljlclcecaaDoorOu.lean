/- Handles: rows told by a list; heaps handed back. No condition. -/
import Derived.Test.YthbncljlclcecaaDoorAm18
namespace Go.Proofs.YthbncljlclcecaaDoor.A
open Go
set_option linter.unusedVariables false

theorem renL_map {α : Type} {g : α → AV} (h : ∀ r x, ren r (g x) = g x) (r : Nat → Nat) : ∀ l : List α, renL r (l.map g) = l.map g
  | [] => rfl
  | n :: l => by simp only [List.map_cons, renL, h]; exact congrArg _ (renL_map h r l)
/-- It returns v, and leaves G. -/
def RetH (v : AV) (G : Heap) : AEnd → Heap → Prop := fun E H => E = .ret v ∧ H = G
/-- The end of a function that leaves objects. -/
theorem endH {T : Tab} {rs : List ResultVar} {n0 : Nat} {u : AV} {G : Heap} {s : St} {vs : List AV} {v : AV} (hd : s.ds = []) (hv : resV T s rs = some vs) (hf : frz s.H G.length 8 (mkR vs) = some v)
    (hp : PreH G s.H) (hl : n0 ≤ G.length) (hb : belowH G.length G = true) (hR : v = u) : endK T rs n0 (RetH u G) .ret s :=
  ⟨hd, G, v, ⟨⟨vs, hv, hf⟩, hp, hl, hb⟩, by rw [hR], rfl⟩
mutual
/-- Nothing out of objects or slices. -/
def closedV : AV → Bool
  | .sc _ => true
  | .nan _ => true
  | .agg cs => closedL cs
  | .tup vs => closedL vs
  | _ => false
def closedL : List AV → Bool
  | [] => true
  | a :: l => bif closedV a then closedL l else false
end
mutual
theorem VR.closed {X Y : Ctx} : ∀ (a : AV) (v : Value), closedV a = true → VR X a v → VR Y a v
  | .sc s, v, _, h => by simpa [VR] using h
  | .nan k, v, _, h => by simpa [VR] using h
  | .agg cs, v, hc, h => by
    simp only [VR] at h ⊢
    obtain ⟨c, e, hl⟩ := h
    exact ⟨c, e, VL.closed cs _ hc hl⟩
  | .tup cs, v, hc, h => by
    simp only [VR] at h ⊢
    obtain ⟨c, e, hl⟩ := h
    exact ⟨c, e, VL.closed cs _ hc hl⟩
  | .junk, _, hc, _ => by cases hc
  | .ptr _ _, _, hc, _ => by cases hc
  | .slc _ _ _ _, _, hc, _ => by cases hc
  | .vp _, _, hc, _ => by cases hc
  | .view _ _, _, hc, _ => by cases hc
  | .mapr _, _, hc, _ => by cases hc
  | .fn _ _, _, hc, _ => by cases hc
theorem VL.closed {X Y : Ctx} : ∀ (l : List AV) (vs : List Value), closedL l = true → VL X l vs → VL Y l vs
  | [], [], _, _ => by simp [VL]
  | [], _ :: _, _, h => by simp [VL] at h
  | _ :: _, [], _, h => by simp [VL] at h
  | a :: l, v :: vs, hc, h => by
    simp only [VL] at h ⊢
    have hq : closedV a = true ∧ closedL l = true := by
      cases h1 : closedV a with
      | false => simp [closedL, h1] at hc
      | true => exact ⟨rfl, by simpa [closedL, h1] using hc⟩
    exact ⟨VR.closed a v hq.1 h.1, VL.closed l vs hq.2 h.2⟩
end
/-- A contract serves all that is told more of. -/
theorem ACalls.weaken {P : Program} {g : FuncId} {bs args : List AV} {H : Heap} {R : AEnd → Heap → Prop} (h : ACalls P g bs H R) (ha : ∀ X vs, VL X args vs → VL X bs vs) : ACalls P g args H R :=
  fun X vs hr hv => h X vs hr (ha X _ hv)
theorem VR_nilView {X : Ctx} {v : Value} (h : VR X (.sc (.slice none 0 0)) v) : VR X (.view 0 []) v := by
  simp only [VR, ScR] at h
  simp only [VR]
  rcases h with ⟨_, rfl | ⟨_, a, rfl⟩⟩
  · exact ⟨none, 0, rfl, Nat.le_refl _, .inl (by simp), by simp [VC]⟩
  · exact ⟨a, 0, rfl, Nat.le_refl _, .inl (by simp), by simp [VC]⟩
mutual
/-- Nothing out of slices that nobody writes. -/
def noView : AV → Bool
  | .view _ _ => false
  | .vp _ => false
  | .fn _ caps => noViewL caps
  | .agg cs => noViewL cs
  | .tup vs => noViewL vs
  | _ => true
def noViewL : List AV → Bool
  | [] => true
  | a :: l => bif noView a then noViewL l else false
end
theorem noViewL_cons {a : AV} {l : List AV} (h : noViewL (a :: l) = true) : noView a = true ∧ noViewL l = true := by
  cases h1 : noView a with
  | false => simp [noViewL, h1] at h
  | true => exact ⟨rfl, by simpa [noViewL, h1] using h⟩
mutual
theorem VR.back {X Y : Ctx} (hφ : ∀ i b, X.φ i = some b → Y.φ i = some b) (hw : Y.w = X.w) : ∀ (a : AV) (v : Value), noView a = true → VR X a v → VR Y a v
  | .junk, _, _, _ => by simp [VR]
  | .sc s, v, _, h => by simpa [VR] using h
  | .nan k, v, _, h => by simpa [VR] using h
  | .ptr i off, v, _, h => by
    simp only [VR] at h ⊢
    obtain ⟨b, hb, e⟩ := h
    exact ⟨b, hφ _ _ hb, e⟩
  | .slc i off len sz, v, _, h => by
    simp only [VR] at h ⊢
    rcases h with h | ⟨b, o, c, cells, e, hb, h1⟩
    · exact .inl h
    rw [hw]
    exact .inr ⟨b, o, c, cells, e, hφ _ _ hb, h1⟩
  | .mapr i, v, _, h => by
    simp only [VR] at h ⊢
    obtain ⟨b, hb, e⟩ := h
    exact ⟨b, hφ _ _ hb, e⟩
  | .fn f caps, v, hc, h => by
    simp only [VR] at h ⊢
    obtain ⟨c, e, hl⟩ := h
    exact ⟨c, e, VL.back hφ hw caps _ hc hl⟩
  | .agg cs, v, hc, h => by
    simp only [VR] at h ⊢
    obtain ⟨c, e, hl⟩ := h
    exact ⟨c, e, VL.back hφ hw cs _ hc hl⟩
  | .tup cs, v, hc, h => by
    simp only [VR] at h ⊢
    obtain ⟨c, e, hl⟩ := h
    exact ⟨c, e, VL.back hφ hw cs _ hc hl⟩
  | .vp _, _, hc, _ => by cases hc
  | .view _ _, _, hc, _ => by cases hc
theorem VL.back {X Y : Ctx} (hφ : ∀ i b, X.φ i = some b → Y.φ i = some b) (hw : Y.w = X.w) : ∀ (l : List AV) (vs : List Value), noViewL l = true → VL X l vs → VL Y l vs
  | [], [], _, _ => by simp [VL]
  | [], _ :: _, _, h => by simp [VL] at h
  | _ :: _, [], _, h => by simp [VL] at h
  | a :: l, v :: vs, hc, h => by
    simp only [VL] at h ⊢
    obtain ⟨h1, h2⟩ := noViewL_cons hc
    exact ⟨VR.back hφ hw a v h1 h.1, VL.back hφ hw l vs h2 h.2⟩
end
theorem EntR.back {X Y : Ctx} (hφ : ∀ i b, X.φ i = some b → Y.φ i = some b) (hw : Y.w = X.w) : ∀ {es : List (Value × AV)} {fs : List MapEntry}, noViewL (es.map (·.2)) = true → EntR X es fs → EntR Y es fs
  | [], [], _, _ => by simp [EntR]
  | [], _ :: _, _, h => by simp [EntR] at h
  | _ :: _, [], _, h => by simp [EntR] at h
  | (k, v) :: es, e :: fs, hc, h => by
    simp only [EntR] at h ⊢
    obtain ⟨h1, h2⟩ := noViewL_cons hc
    exact ⟨h.1, h.2.1, VR.back hφ hw v _ h1 h.2.2.1, EntR.back hφ hw h2 h.2.2.2⟩
end Go.Proofs.YthbncljlclcecaaDoor.A
