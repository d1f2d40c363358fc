/- Handles: rows told by a list; heaps handed back. No condition. -/
import Derived.Test.YtmfifbclldnpkaaAm18
namespace Go.Proofs.Ytmfifbclldnpkaa.A
open Go
set_option linter.unusedVariables false

theorem renL_map {α : Type} {g : α → AV} (h : ∀ r x, ren r (g x) = g x) (r : Nat → Nat) : ∀ l : List α, renL r (l.map g) = l.map g
  | [] => rfl
  | n :: l => by simp only [List.map_cons, renL, h]; exact congrArg _ (renL_map h r l)
theorem nth_map {α : Type} {g : α → AV} {L : List α} {k : Nat} {x : α} (h : L[k]? = some x) : nth (List.drop ((k : Int).toNat * 1) (L.map g)) 0 = some (g x) := by
  rw [nth_eq, List.getElem?_drop, Nat.mul_one, Int.toNat_natCast, Nat.add_zero, List.getElem?_map, h]
  rfl
mutual
/-- Nothing out of objects or slices. -/
def closedV : AV → Bool
  | .sc _ => true
  | .nan _ => true
  | .agg cs => closedL cs
  | .tup vs => closedL vs
  | _ => false
def closedL : List AV → Bool
  | [] => true
  | a :: l => bif closedV a then closedL l else false
end
mutual
theorem VR.closed {X Y : Ctx} : ∀ (a : AV) (v : Value), closedV a = true → VR X a v → VR Y a v
  | .sc s, v, _, h => by simpa [VR] using h
  | .nan k, v, _, h => by simpa [VR] using h
  | .agg cs, v, hc, h => by
    simp only [VR] at h ⊢
    obtain ⟨c, e, hl⟩ := h
    exact ⟨c, e, VL.closed cs _ hc hl⟩
  | .tup cs, v, hc, h => by
    simp only [VR] at h ⊢
    obtain ⟨c, e, hl⟩ := h
    exact ⟨c, e, VL.closed cs _ hc hl⟩
  | .junk, _, hc, _ => by cases hc
  | .ptr _ _, _, hc, _ => by cases hc
  | .slc _ _ _ _, _, hc, _ => by cases hc
  | .vp _, _, hc, _ => by cases hc
  | .view _ _, _, hc, _ => by cases hc
  | .mapr _, _, hc, _ => by cases hc
  | .fn _ _, _, hc, _ => by cases hc
theorem VL.closed {X Y : Ctx} : ∀ (l : List AV) (vs : List Value), closedL l = true → VL X l vs → VL Y l vs
  | [], [], _, _ => by simp [VL]
  | [], _ :: _, _, h => by simp [VL] at h
  | _ :: _, [], _, h => by simp [VL] at h
  | a :: l, v :: vs, hc, h => by
    simp only [VL] at h ⊢
    have hq : closedV a = true ∧ closedL l = true := by
      cases h1 : closedV a with
      | false => simp [closedL, h1] at hc
      | true => exact ⟨rfl, by simpa [closedL, h1] using hc⟩
    exact ⟨VR.closed a v hq.1 h.1, VL.closed l vs hq.2 h.2⟩
end
/-- A contract serves all that is told more of. -/
theorem ACalls.weaken {P : Program} {g : FuncId} {bs args : List AV} {H : Heap} {R : AEnd → Heap → Prop} (h : ACalls P g bs H R) (ha : ∀ X vs, VL X args vs → VL X bs vs) : ACalls P g args H R :=
  fun X vs hr hv => h X vs hr (ha X _ hv)
theorem VR_nilView {X : Ctx} {v : Value} (h : VR X (.sc (.slice none 0 0)) v) : VR X (.view 0 []) v := by
  simp only [VR, ScR] at h
  simp only [VR]
  rcases h with ⟨_, rfl | ⟨_, a, rfl⟩⟩
  · exact ⟨none, 0, rfl, Nat.le_refl _, .inl (by simp), by simp [VC]⟩
  · exact ⟨a, 0, rfl, Nat.le_refl _, .inl (by simp), by simp [VC]⟩
/-- Objects from m on, forgotten. -/
def deadFrom : Heap → Nat → Heap
  | [], _ => []
  | _ :: H, 0 => .dead :: deadFrom H 0
  | o :: H, m + 1 => o :: deadFrom H m
theorem deadFrom_len : ∀ (H : Heap) (m : Nat), (deadFrom H m).length = H.length
  | [], _ => rfl
  | _ :: H, 0 => by simp [deadFrom, deadFrom_len H 0]
  | _ :: H, m + 1 => by simp [deadFrom, deadFrom_len H m]
theorem deadFrom_get : ∀ (H : Heap) (m i : Nat) (o : AObj), (deadFrom H m)[i]? = some o → (i < m ∧ H[i]? = some o) ∨ o = .dead
  | [], _, _, _, h => by simp [deadFrom] at h
  | x :: H, 0, 0, o, h => by simp [deadFrom] at h; exact .inr h.symm
  | x :: H, 0, i + 1, o, h => by
    rcases deadFrom_get H 0 i o (by simpa [deadFrom] using h) with h | h
    · omega
    · exact .inr h
  | x :: H, m + 1, 0, o, h => by simp [deadFrom] at h; exact .inl ⟨by omega, by simp [h]⟩
  | x :: H, m + 1, i + 1, o, h => by
    rcases deadFrom_get H m i o (by simpa [deadFrom] using h) with h | h
    · exact .inl ⟨by omega, by simpa using h.2⟩
    · exact .inr h
theorem deadFrom_live {H : Heap} {m i : Nat} (h : live (deadFrom H m) i) : i < m ∧ live H i := by
  obtain ⟨o, h1, h2⟩ := h
  rcases deadFrom_get H m i o h1 with h3 | h3
  · exact ⟨h3.1, o, h3.2, h2⟩
  · subst h3; simp [AObj.live] at h2
/-- A call to which what the objects from m on hold is told by content; these objects are written no more. -/
theorem callCut {P : Program} {g : FuncId} {bs args : List AV} {H : Heap} {R : AEnd → Heap → Prop} (m : Nat) (ha : mapO (frz H m 8) args = some bs) (h : ACalls P g bs (deadFrom H m) R) : ACalls P g args H R := by
  intro X vs hr hv
  let Z : Ctx := ⟨X.φ, fun b => X.F b ∨ ∃ i a, m ≤ i ∧ live H i ∧ X.φ i = some a ∧ a.block = b, X.w⟩
  have hφZ : ∀ i b, (X.frozen H m).φ i = some b → Z.φ i = some b := fun i b hb => by
    have : (if i < m then X.φ i else none) = some b := hb
    split at this
    · exact this
    · cases this
  have hle : Le (X.frozen H m) Z := ⟨hφZ, fun b hb => hb, fun _ _ => rfl, fun _ cells _ _ hb => ⟨cells, hb, rfl⟩⟩
  have hleX : Le X Z := ⟨fun _ _ hb => hb, fun _ hb => .inl hb, fun _ _ => rfl, fun _ cells _ _ hb => ⟨cells, hb, rfl⟩⟩
  have hva : VL Z bs vs.toList := VL.mono hle _ _ (mapO_VL ha (fun a b v => frz_ok hr m 8 a b v) hv)
  have hZ : HR Z (deadFrom H m) := by
    refine ⟨fun i b hb => ?_, fun i cs b hi hb => ?_, fun i es b hi hb => ?_, fun i j bi bj hne hi hj => ?_, fun i b hi hb hF => ?_, fun b hF => ?_⟩
    · have := hr.lt i b hb
      rw [deadFrom_len]
      exact this
    · rcases deadFrom_get H m i _ hi with h1 | h1
      · exact (hr.row i cs b h1.2 hb).mono hleX rfl
      · cases h1
    · rcases deadFrom_get H m i _ hi with h1 | h1
      · exact (hr.mp i es b h1.2 hb).mono hleX rfl
      · cases h1
    · exact hr.sep i j bi bj hne (deadFrom_live hi).2 (deadFrom_live hj).2
    · obtain ⟨h1, h2⟩ := deadFrom_live hi
      rcases hF with hF | ⟨j, a, h3, h4, h5, h6⟩
      · exact hr.fz i b h2 hb hF
      · exact hr.sep i j b a (by omega) h2 h4 hb h5 h6.symm
    · rcases hF with hF | ⟨j, a, _, _, h5, rfl⟩
      · exact hr.fl b hF
      · exact (hr.lt j a h5).2.2
  refine (h Z vs hZ hva).mono ?_
  rintro e w' ⟨E, G, Y, hR, rfl, hE, hrY, hext, hφ, hlen⟩
  have hown : ∀ b, Owned Z (deadFrom H m) b → Owned X H b := fun b ⟨i, a, h1, h2, h3⟩ => ⟨i, a, (deadFrom_live h1).2, h2, h3⟩
  rw [deadFrom_len] at hφ hlen
  refine ⟨E, G, Y, hR, rfl, hE, hrY, ⟨hext.size, fun b hb hn => hext.keep b hb (fun ho => hn (hown b ho)), hext.shape, fun b ho => ?_, fun b hb => hext.F b (.inl hb), fun b hb => ?_, hext.os, hext.tape, hext.output⟩, hφ, hlen⟩
  · rcases hext.own b ho with h1 | h1
    · exact .inl (hown b h1)
    · exact .inr h1
  · rcases hext.Fn b hb with (h1 | ⟨i, a, _, h2, h3, h4⟩) | h1 | h1
    · exact .inl h1
    · exact .inr (.inl ⟨i, a, h2, h3, h4⟩)
    · exact .inr (.inl (hown b h1))
    · exact .inr (.inr h1)
mutual
/-- Nothing out of slices that nobody writes. -/
def noView : AV → Bool
  | .view _ _ => false
  | .vp _ => false
  | .fn _ caps => noViewL caps
  | .agg cs => noViewL cs
  | .tup vs => noViewL vs
  | _ => true
def noViewL : List AV → Bool
  | [] => true
  | a :: l => bif noView a then noViewL l else false
end
theorem noViewL_cons {a : AV} {l : List AV} (h : noViewL (a :: l) = true) : noView a = true ∧ noViewL l = true := by
  cases h1 : noView a with
  | false => simp [noViewL, h1] at h
  | true => exact ⟨rfl, by simpa [noViewL, h1] using h⟩
mutual
theorem VR.back {X Y : Ctx} (hφ : ∀ i b, X.φ i = some b → Y.φ i = some b) (hw : Y.w = X.w) : ∀ (a : AV) (v : Value), noView a = true → VR X a v → VR Y a v
  | .junk, _, _, _ => by simp [VR]
  | .sc s, v, _, h => by simpa [VR] using h
  | .nan k, v, _, h => by simpa [VR] using h
  | .ptr i off, v, _, h => by
    simp only [VR] at h ⊢
    obtain ⟨b, hb, e⟩ := h
    exact ⟨b, hφ _ _ hb, e⟩
  | .slc i off len sz, v, _, h => by
    simp only [VR] at h ⊢
    rcases h with h | ⟨b, o, c, cells, e, hb, h1⟩
    · exact .inl h
    rw [hw]
    exact .inr ⟨b, o, c, cells, e, hφ _ _ hb, h1⟩
  | .mapr i, v, _, h => by
    simp only [VR] at h ⊢
    obtain ⟨b, hb, e⟩ := h
    exact ⟨b, hφ _ _ hb, e⟩
  | .fn f caps, v, hc, h => by
    simp only [VR] at h ⊢
    obtain ⟨c, e, hl⟩ := h
    exact ⟨c, e, VL.back hφ hw caps _ hc hl⟩
  | .agg cs, v, hc, h => by
    simp only [VR] at h ⊢
    obtain ⟨c, e, hl⟩ := h
    exact ⟨c, e, VL.back hφ hw cs _ hc hl⟩
  | .tup cs, v, hc, h => by
    simp only [VR] at h ⊢
    obtain ⟨c, e, hl⟩ := h
    exact ⟨c, e, VL.back hφ hw cs _ hc hl⟩
  | .vp _, _, hc, _ => by cases hc
  | .view _ _, _, hc, _ => by cases hc
theorem VL.back {X Y : Ctx} (hφ : ∀ i b, X.φ i = some b → Y.φ i = some b) (hw : Y.w = X.w) : ∀ (l : List AV) (vs : List Value), noViewL l = true → VL X l vs → VL Y l vs
  | [], [], _, _ => by simp [VL]
  | [], _ :: _, _, h => by simp [VL] at h
  | _ :: _, [], _, h => by simp [VL] at h
  | a :: l, v :: vs, hc, h => by
    simp only [VL] at h ⊢
    obtain ⟨h1, h2⟩ := noViewL_cons hc
    exact ⟨VR.back hφ hw a v h1 h.1, VL.back hφ hw l vs h2 h.2⟩
end
theorem EntR.back {X Y : Ctx} (hφ : ∀ i b, X.φ i = some b → Y.φ i = some b) (hw : Y.w = X.w) : ∀ {es : List (Value × AV)} {fs : List MapEntry}, noViewL (es.map (·.2)) = true → EntR X es fs → EntR Y es fs
  | [], [], _, _ => by simp [EntR]
  | [], _ :: _, _, h => by simp [EntR] at h
  | _ :: _, [], _, h => by simp [EntR] at h
  | (k, v) :: es, e :: fs, hc, h => by
    simp only [EntR] at h ⊢
    obtain ⟨h1, h2⟩ := noViewL_cons hc
    exact ⟨h.1, h.2.1, VR.back hφ hw v _ h1 h.2.2.1, EntR.back hφ hw h2 h.2.2.2⟩
end Go.Proofs.Ytmfifbclldnpkaa.A
