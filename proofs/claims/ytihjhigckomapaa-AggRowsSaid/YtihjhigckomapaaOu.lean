/- Handles: rows told by a list; heaps handed back. No condition. -/
import Derived.Test.YtihjhigckomapaaAm18
namespace Go.Proofs.Ytihjhigckomapaa.A
open Go
set_option linter.unusedVariables false

theorem renL_map {α : Type} {g : α → AV} (h : ∀ r x, ren r (g x) = g x) (r : Nat → Nat) : ∀ l : List α, renL r (l.map g) = l.map g
  | [] => rfl
  | n :: l => by simp only [List.map_cons, renL, h]; exact congrArg _ (renL_map h r l)
theorem frz_map {α : Type} {g : α → AV} {H : Heap} {i n : Nat} {cs : List AV} {L : List α} (h : nth H i = some (.row cs)) (hc : cs = L.map g) (hn : n = L.length) (hg : ∀ x, frz0 H 0 7 (g x) = some (g x)) : frz H 0 8 (mkR [.slc i 0 n 1]) = some (.view n (L.map g)) := by
  have h1 : rdN H i 0 (n * 1) = some cs := rdN_all h (by rw [hc, List.length_map]; omega)
  have h2 : mapO (frz0 H 0 7) cs = some (L.map g) := by
    rw [hc]
    exact mapO_map (f := frz0 H 0 7) (g := g) (h := g) hg L
  have h3 : Nat.blt i 0 = false := by cases i <;> rfl
  simp only [mkR, frz, frz0, h3, cond_false, h1, h2]
theorem nth_map {α : Type} {g : α → AV} {L : List α} {k : Nat} {x : α} (h : L[k]? = some x) : nth (List.drop ((k : Int).toNat * 1) (L.map g)) 0 = some (g x) := by
  rw [nth_eq, List.getElem?_drop, Nat.mul_one, Int.toNat_natCast, Nat.add_zero, List.getElem?_map, h]
  rfl
/-- It returns v, and leaves G. -/
def RetH (v : AV) (G : Heap) : AEnd → Heap → Prop := fun E H => E = .ret v ∧ H = G
/-- The end of a function that leaves objects. -/
theorem endH {T : Tab} {rs : List ResultVar} {n0 : Nat} {u : AV} {G : Heap} {s : St} {vs : List AV} {v : AV} (hd : s.ds = []) (hv : resV T s rs = some vs) (hf : frz s.H G.length 8 (mkR vs) = some v)
    (hp : PreH G s.H) (hl : n0 ≤ G.length) (hb : belowH G.length G = true) (hR : v = u) : endK T rs n0 (RetH u G) .ret s :=
  ⟨hd, G, v, ⟨⟨vs, hv, hf⟩, hp, hl, hb⟩, by rw [hR], rfl⟩
mutual
/-- Nothing out of objects or slices. -/
def closedV : AV → Bool
  | .sc _ => true
  | .nan _ => true
  | .agg cs => closedL cs
  | .tup vs => closedL vs
  | _ => false
def closedL : List AV → Bool
  | [] => true
  | a :: l => bif closedV a then closedL l else false
end
mutual
theorem VR.closed {X Y : Ctx} : ∀ (a : AV) (v : Value), closedV a = true → VR X a v → VR Y a v
  | .sc s, v, _, h => by simpa [VR] using h
  | .nan k, v, _, h => by simpa [VR] using h
  | .agg cs, v, hc, h => by
    simp only [VR] at h ⊢
    obtain ⟨c, e, hl⟩ := h
    exact ⟨c, e, VL.closed cs _ hc hl⟩
  | .tup cs, v, hc, h => by
    simp only [VR] at h ⊢
    obtain ⟨c, e, hl⟩ := h
    exact ⟨c, e, VL.closed cs _ hc hl⟩
  | .junk, _, hc, _ => by cases hc
  | .ptr _ _, _, hc, _ => by cases hc
  | .slc _ _ _ _, _, hc, _ => by cases hc
  | .vp _, _, hc, _ => by cases hc
  | .view _ _, _, hc, _ => by cases hc
  | .mapr _, _, hc, _ => by cases hc
  | .fn _ _, _, hc, _ => by cases hc
theorem VL.closed {X Y : Ctx} : ∀ (l : List AV) (vs : List Value), closedL l = true → VL X l vs → VL Y l vs
  | [], [], _, _ => by simp [VL]
  | [], _ :: _, _, h => by simp [VL] at h
  | _ :: _, [], _, h => by simp [VL] at h
  | a :: l, v :: vs, hc, h => by
    simp only [VL] at h ⊢
    have hq : closedV a = true ∧ closedL l = true := by
      cases h1 : closedV a with
      | false => simp [closedL, h1] at hc
      | true => exact ⟨rfl, by simpa [closedL, h1] using hc⟩
    exact ⟨VR.closed a v hq.1 h.1, VL.closed l vs hq.2 h.2⟩
end
/-- A call of a function that is told by values; what is handed to it out of objects is told by content, and stays as it was. -/
theorem callF {P : Program} {g : FuncId} {bs args : List AV} {v : AV} {H : Heap} {K : AV → Heap → Prop} {Kp : Value → Heap → Prop} (h : ACalls P g bs [] (Ret v)) (ha : mapO (frz H 0 8) args = some bs) (hc : closedV v = true) (k : K v H) :
    ACalls P g args H (panK K Kp) := by
  intro X vs hr hv
  have hX : HR (X.frozen H 0) [] := HR.frozen hr (H' := []) True.intro rfl
  have hva : VL (X.frozen H 0) bs vs.toList := mapO_VL ha (fun a b v => frz_ok hr 0 8 a b v) hv
  refine (h (X.frozen H 0) vs hX hva).mono ?_
  rintro e w' ⟨E, H', Y, ⟨rfl, rfl⟩, rfl, hE, hrY, hext, hφ, hle⟩
  have hold : ∀ b, b < X.w.heap.size → Y.w.heap[b]? = X.w.heap[b]? := fun b hb => hext.keep b hb (fun ⟨i, a, hl, _⟩ => by
    obtain ⟨o, h1, _⟩ := hl
    simp at h1)
  have hleX : Le X ⟨X.φ, X.F, Y.w⟩ := ⟨fun _ _ h => h, fun _ h => h, fun b hb => hold b (hr.fl b hb), hext.shape⟩
  refine ⟨.ret v, H, ⟨X.φ, X.F, Y.w⟩, k, rfl, ?_, ⟨?_, ?_, ?_, hr.sep, hr.fz, ?_⟩, ⟨hext.size, fun b hb _ => hold b hb, hext.shape, fun b ho => .inl ho, fun _ h => h, fun _ h => .inl h, hext.os, hext.tape, hext.output⟩, fun _ _ => rfl, Nat.le_refl _⟩
  · cases e with
    | returned u => exact VR.closed v u hc hE
    | panicked _ => exact hE.elim
    | outgrown => exact hE.elim
  · intro i b hb
    obtain ⟨h1, h2, h3⟩ := hr.lt i b hb
    exact ⟨h1, h2, Nat.lt_of_lt_of_le h3 hext.size⟩
  · intro i cs b hi hb
    exact (hr.row i cs b hi hb).mono hleX (hold _ (hr.lt i b hb).2.2)
  · intro i es b hi hb
    exact (hr.mp i es b hi hb).mono hleX (hold _ (hr.lt i b hb).2.2)
  · intro b hb
    exact Nat.lt_of_lt_of_le (hr.fl b hb) hext.size
end Go.Proofs.Ytihjhigckomapaa.A
