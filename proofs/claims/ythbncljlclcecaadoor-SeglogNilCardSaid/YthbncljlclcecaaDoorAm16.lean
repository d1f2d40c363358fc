/- Names changed. No condition. -/
import Derived.Test.YthbncljlclcecaaDoorAmD9
namespace Go.Proofs.YthbncljlclcecaaDoor.A
open Go
set_option linter.unusedVariables false
set_option linter.unusedSimpArgs false

/-! ### Names changed -/
theorem VC.same {X Y : Ctx} (hF : Y.F = X.F) (hw : Y.w = X.w) {ad : Option Addr} : ∀ (k : Nat) (cs : List AV), VC X ad k cs → VC Y ad k cs
  | _, [], _ => by simp [VC]
  | k, c :: cs, hv => by
    have hn : Y.nof = X.nof := by unfold Ctx.nof; rw [hF, hw]
    simp only [VC] at hv ⊢
    rw [hF, hw, hn]
    exact ⟨hv.1, VC.same hF hw (k + 1) cs hv.2⟩
/-- The great name of a small one: the objects is, and behind them new ones from N on. -/
def rn (is : List Nat) (N i : Nat) : Nat :=
  match nth is i with
  | some j => j
  | none => N + (i - is.length)
mutual
def ren (r : Nat → Nat) : AV → AV
  | .ptr i off => .ptr (r i) off
  | .slc i off len sz => .slc (r i) off len sz
  | .mapr i => .mapr (r i)
  | .fn f caps => .fn f (renL r caps)
  | .agg cells => .agg (renL r cells)
  | .tup vs => .tup (renL r vs)
  | a => a
def renL (r : Nat → Nat) : List AV → List AV
  | [] => []
  | a :: as => ren r a :: renL r as
end
def renM (r : Nat → Nat) : List (Value × AV) → List (Value × AV)
  | [] => []
  | (k, v) :: es => (k, ren r v) :: renM r es
def renO (r : Nat → Nat) : AObj → AObj
  | .row cs => .row (renL r cs)
  | .mp es => .mp (renM r es)
  | .dead => .dead
def renH (r : Nat → Nat) : Heap → Heap
  | [] => []
  | o :: H => renO r o :: renH r H
def renE (r : Nat → Nat) : AEnd → AEnd
  | .ret v => .ret (ren r v)
  | .pan u => .pan u
/-- The objects is of H are those of Hs. -/
def Sel (H : Heap) (r : Nat → Nat) : List Nat → Heap → Prop
  | [], [] => True
  | j :: js, o :: os => (nth H j = some (renO r o) ∨ (o = .dead ∧ j < H.length)) ∧ Sel H r js os
  | _, _ => False
def setMany (H : Heap) : List Nat → Heap → Heap
  | j :: js, o :: os => setMany (H.set j o) js os
  | _, _ => H
def merge (H : Heap) (is : List Nat) (os : Heap) : Heap := setMany H is os ++ os.drop is.length
def noDup : List Nat → Bool
  | [] => true
  | j :: js => bif js.any (Nat.beq j) then false else noDup js

theorem renL_get (r : Nat → Nat) : ∀ (l : List AV) (k : Nat), (renL r l)[k]? = l[k]?.map (ren r)
  | [], k => by simp [renL]
  | a :: l, 0 => by simp [renL]
  | a :: l, k + 1 => by simp [renL, renL_get r l k]
theorem renH_get (r : Nat → Nat) : ∀ (l : Heap) (k : Nat), (renH r l)[k]? = l[k]?.map (renO r)
  | [], k => by simp [renH]
  | a :: l, 0 => by simp [renH]
  | a :: l, k + 1 => by simp [renH, renH_get r l k]
theorem renH_length (r : Nat → Nat) : ∀ (l : Heap), (renH r l).length = l.length
  | [] => rfl
  | _ :: l => by simp [renH, renH_length r l]
theorem renO_live (r : Nat → Nat) (o : AObj) : (renO r o).live = o.live := by cases o <;> rfl
theorem Sel.get {H : Heap} {r : Nat → Nat} : ∀ {is : List Nat} {Hs : Heap}, Sel H r is Hs → ∀ (k : Nat) (o : AObj), Hs[k]? = some o → ∃ j, is[k]? = some j ∧ j < H.length ∧ (H[j]? = some (renO r o) ∨ o = .dead)
  | [], [], _, k, o, h => by simp at h
  | [], _ :: _, h, _, _, _ => h.elim
  | _ :: _, [], h, _, _, _ => h.elim
  | j :: js, x :: os, h, 0, o, ho => by
    simp at ho
    subst ho
    rcases h.1 with h1 | ⟨h1, h2⟩
    · rw [nth_eq] at h1
      exact ⟨j, by simp, (List.getElem?_eq_some_iff.1 h1).1, .inl h1⟩
    · exact ⟨j, by simp, h2, .inr h1⟩
  | j :: js, x :: os, h, k + 1, o, ho => by
    obtain ⟨j', h1, h2⟩ := h.2.get k o (by simpa using ho)
    exact ⟨j', by simpa using h1, h2⟩
theorem Sel.length {H : Heap} {r : Nat → Nat} : ∀ {is : List Nat} {Hs : Heap}, Sel H r is Hs → is.length = Hs.length
  | [], [], _ => rfl
  | [], _ :: _, h => h.elim
  | _ :: _, [], h => h.elim
  | _ :: _, _ :: _, h => by simp [h.2.length]
theorem Sel.lt {H : Heap} {r : Nat → Nat} {is : List Nat} {Hs : Heap} (h : Sel H r is Hs) {k j : Nat} (hk : is[k]? = some j) : j < H.length ∧ k < Hs.length := by
  have hl := h.length
  have hk' := (List.getElem?_eq_some_iff.1 hk).1
  obtain ⟨j', h1, h2, _⟩ := h.get k Hs[k] (List.getElem?_eq_getElem (by omega))
  rw [hk] at h1
  cases h1
  exact ⟨h2, by omega⟩
theorem noDup_ne : ∀ {is : List Nat}, noDup is = true → ∀ (k l j : Nat), is[k]? = some j → is[l]? = some j → k = l
  | [], _, k, l, j, h, _ => by simp at h
  | x :: js, hn, k, l, j, h1, h2 => by
    cases ha : js.any (Nat.beq x) with
    | true => simp [noDup, ha] at hn
    | false =>
      simp only [noDup, ha, cond_false] at hn
      have hx : ∀ q, js[q]? ≠ some x := fun q hq => by
        have := List.mem_of_getElem? hq
        rw [List.any_eq_false] at ha
        have := ha x this
        simp at this
      cases k with
      | zero =>
        cases l with
        | zero => rfl
        | succ l =>
          simp at h1 h2
          subst h1
          exact absurd h2 (hx l)
      | succ k =>
        cases l with
        | zero =>
          simp at h1 h2
          subst h2
          exact absurd h1 (hx k)
        | succ l =>
          simp at h1 h2
          rw [noDup_ne hn k l j h1 h2]
theorem setMany_length : ∀ (H : Heap) (is : List Nat) (os : Heap), (setMany H is os).length = H.length
  | H, [], os => by simp [setMany]
  | H, _ :: _, [] => by simp [setMany]
  | H, j :: js, o :: os => by simp [setMany, setMany_length]
theorem setMany_out : ∀ (H : Heap) (is : List Nat) (os : Heap) (j : Nat), j ∉ is → (setMany H is os)[j]? = H[j]?
  | H, [], os, j, _ => by simp [setMany]
  | H, _ :: _, [], j, _ => by simp [setMany]
  | H, x :: js, o :: os, j, h => by
    simp only [List.mem_cons, not_or] at h
    simp only [setMany]
    rw [setMany_out _ _ _ _ h.2, List.getElem?_set_ne (Ne.symm h.1)]
theorem setMany_in : ∀ (H : Heap) (is : List Nat) (os : Heap), noDup is = true → is.length ≤ os.length → ∀ (k j : Nat), is[k]? = some j → j < H.length → (setMany H is os)[j]? = os[k]?
  | H, [], os, _, _, k, j, h, _ => by simp at h
  | H, _ :: _, [], _, hl, _, _, _, _ => by simp at hl
  | H, x :: js, o :: os, hn, hl, 0, j, h, hj => by
    simp at h
    subst h
    simp only [setMany]
    have : x ∉ js := fun hm => by
      obtain ⟨q, hq⟩ := List.getElem?_of_mem hm
      have := noDup_ne hn 0 (q + 1) x (by simp) (by simpa using hq)
      omega
    rw [setMany_out _ _ _ _ this, List.getElem?_set_self hj]
    simp
  | H, x :: js, o :: os, hn, hl, k + 1, j, h, hj => by
    have hn' : noDup js = true := by
      cases ha : js.any (Nat.beq x) with
      | true => simp [noDup, ha] at hn
      | false => simpa [noDup, ha] using hn
    simp only [setMany]
    rw [setMany_in _ _ _ hn' (by simpa using hl) k j (by simpa using h) (by simpa using hj)]
    simp

section
variable {X Xs Y Ys : Ctx}
mutual
/-- Names changed, the world being the same. -/
theorem VR.ren {r : Nat → Nat} (hφ : ∀ i b, X.φ (r i) = some b → Y.φ i = some b) (hF : Y.F = X.F) (hw : Y.w = X.w) : ∀ (a : AV) (v : Value), VR X (ren r a) v → VR Y a v
  | .junk, _, _ => by simp [VR]
  | .sc s, v, hv => by simpa [VR, A.ren] using hv
  | .nan k, v, hv => by simpa [VR, A.ren] using hv
  | .ptr i off, v, hv => by
    simp only [VR, A.ren] at hv ⊢
    obtain ⟨b, hb, e⟩ := hv
    exact ⟨b, hφ _ _ hb, e⟩
  | .slc i off len sz, v, hv => by
    simp only [VR, A.ren] at hv ⊢
    rcases hv with hv | ⟨b, o, c, cells, e, hb, h⟩
    · exact .inl hv
    rw [hw]
    exact .inr ⟨b, o, c, cells, e, hφ _ _ hb, h⟩
  | .vp cells, v, hv => by
    simp only [VR, A.ren] at hv ⊢
    obtain ⟨ad, e, hs, hc⟩ := hv
    exact ⟨ad, e, hs, VC.same hF hw 0 cells hc⟩
  | .view len cells, v, hv => by
    simp only [VR, A.ren] at hv ⊢
    obtain ⟨a, c, e, hl, hn, hc⟩ := hv
    exact ⟨a, c, e, hl, hn, VC.same hF hw 0 cells hc⟩
  | .mapr i, v, hv => by
    simp only [VR, A.ren] at hv ⊢
    obtain ⟨b, hb, e⟩ := hv
    exact ⟨b, hφ _ _ hb, e⟩
  | .fn f caps, v, hv => by
    simp only [VR, A.ren] at hv ⊢
    obtain ⟨c, e, hl⟩ := hv
    exact ⟨c, e, VL.ren hφ hF hw caps _ hl⟩
  | .agg cells, v, hv => by
    simp only [VR, A.ren] at hv ⊢
    obtain ⟨c, e, hl⟩ := hv
    exact ⟨c, e, VL.ren hφ hF hw cells _ hl⟩
  | .tup vs, v, hv => by
    simp only [VR, A.ren] at hv ⊢
    obtain ⟨c, e, hl⟩ := hv
    exact ⟨c, e, VL.ren hφ hF hw vs _ hl⟩
theorem VL.ren {r : Nat → Nat} (hφ : ∀ i b, X.φ (r i) = some b → Y.φ i = some b) (hF : Y.F = X.F) (hw : Y.w = X.w) : ∀ (as : List AV) (vs : List Value), VL X (renL r as) vs → VL Y as vs
  | [], [], _ => by simp [VL]
  | [], _ :: _, hv => by simp [VL, renL] at hv
  | _ :: _, [], hv => by simp [VL, renL] at hv
  | a :: as, v :: vs, hv => by
    simp only [VL, renL] at hv ⊢
    exact ⟨VR.ren hφ hF hw a v hv.1, VL.ren hφ hF hw as vs hv.2⟩
end
mutual
theorem VR.name {r : Nat → Nat} (hφ : ∀ i b, X.φ i = some b → Y.φ (r i) = some b) (hF : Y.F = X.F) (hw : Y.w = X.w) : ∀ (a : AV) (v : Value), VR X a v → VR Y (A.ren r a) v
  | .junk, _, _ => by simp [VR, A.ren]
  | .sc s, v, hv => by simpa [VR, A.ren] using hv
  | .nan k, v, hv => by simpa [VR, A.ren] using hv
  | .ptr i off, v, hv => by
    simp only [VR, A.ren] at hv ⊢
    obtain ⟨b, hb, e⟩ := hv
    exact ⟨b, hφ _ _ hb, e⟩
  | .slc i off len sz, v, hv => by
    simp only [VR, A.ren] at hv ⊢
    rcases hv with hv | ⟨b, o, c, cells, e, hb, h⟩
    · exact .inl hv
    rw [hw]
    exact .inr ⟨b, o, c, cells, e, hφ _ _ hb, h⟩
  | .vp cells, v, hv => by
    simp only [VR, A.ren] at hv ⊢
    obtain ⟨ad, e, hs, hc⟩ := hv
    exact ⟨ad, e, hs, VC.same hF hw 0 cells hc⟩
  | .view len cells, v, hv => by
    simp only [VR, A.ren] at hv ⊢
    obtain ⟨a, c, e, hl, hn, hc⟩ := hv
    exact ⟨a, c, e, hl, hn, VC.same hF hw 0 cells hc⟩
  | .mapr i, v, hv => by
    simp only [VR, A.ren] at hv ⊢
    obtain ⟨b, hb, e⟩ := hv
    exact ⟨b, hφ _ _ hb, e⟩
  | .fn f caps, v, hv => by
    simp only [VR, A.ren] at hv ⊢
    obtain ⟨c, e, hl⟩ := hv
    exact ⟨c, e, VL.name hφ hF hw caps _ hl⟩
  | .agg cells, v, hv => by
    simp only [VR, A.ren] at hv ⊢
    obtain ⟨c, e, hl⟩ := hv
    exact ⟨c, e, VL.name hφ hF hw cells _ hl⟩
  | .tup vs, v, hv => by
    simp only [VR, A.ren] at hv ⊢
    obtain ⟨c, e, hl⟩ := hv
    exact ⟨c, e, VL.name hφ hF hw vs _ hl⟩
theorem VL.name {r : Nat → Nat} (hφ : ∀ i b, X.φ i = some b → Y.φ (r i) = some b) (hF : Y.F = X.F) (hw : Y.w = X.w) : ∀ (as : List AV) (vs : List Value), VL X as vs → VL Y (renL r as) vs
  | [], [], _ => by simp [VL, renL]
  | [], _ :: _, hv => by simp [VL] at hv
  | _ :: _, [], hv => by simp [VL] at hv
  | a :: as, v :: vs, hv => by
    simp only [VL, renL] at hv ⊢
    exact ⟨VR.name hφ hF hw a v hv.1, VL.name hφ hF hw as vs hv.2⟩
end
theorem EntR.ren {r : Nat → Nat} (hφ : ∀ i b, X.φ (r i) = some b → Y.φ i = some b) (hF : Y.F = X.F) (hw : Y.w = X.w) : ∀ {es : List (Value × AV)} {fs : List MapEntry}, EntR X (renM r es) fs → EntR Y es fs
  | [], [], _ => by simp [EntR]
  | [], _ :: _, hv => by simp [EntR, renM] at hv
  | _ :: _, [], hv => by simp [EntR, renM] at hv
  | (k, v) :: es, e :: fs, hv => by
    simp only [EntR, renM] at hv ⊢
    exact ⟨hv.1, hv.2.1, VR.ren hφ hF hw _ _ hv.2.2.1, EntR.ren hφ hF hw hv.2.2.2⟩
theorem EntR.name {r : Nat → Nat} (hφ : ∀ i b, X.φ i = some b → Y.φ (r i) = some b) (hF : Y.F = X.F) (hw : Y.w = X.w) : ∀ {es : List (Value × AV)} {fs : List MapEntry}, EntR X es fs → EntR Y (renM r es) fs
  | [], [], _ => by simp [EntR, renM]
  | [], _ :: _, hv => by simp [EntR] at hv
  | _ :: _, [], hv => by simp [EntR] at hv
  | (k, v) :: es, e :: fs, hv => by
    simp only [EntR, renM] at hv ⊢
    exact ⟨hv.1, hv.2.1, VR.name hφ hF hw _ _ hv.2.2.1, EntR.name hφ hF hw hv.2.2.2⟩
theorem RowR.ren {r : Nat → Nat} (hφ : ∀ i b, X.φ (r i) = some b → Y.φ i = some b) (hF : Y.F = X.F) (hw : Y.w = X.w) {b : Addr} {cs : List AV} (h : RowR X b (renL r cs)) : RowR Y b cs := by
  obtain ⟨cells, e, h1, h2⟩ := h
  refine ⟨cells, e, by rw [hw]; exact h1, fun k c hc => ?_⟩
  obtain ⟨v, h3, h4⟩ := h2 k (A.ren r c) (by rw [renL_get, hc]; rfl)
  exact ⟨v, h3, VR.ren hφ hF hw _ _ h4⟩
theorem RowR.name {r : Nat → Nat} (hφ : ∀ i b, X.φ i = some b → Y.φ (r i) = some b) (hF : Y.F = X.F) (hw : Y.w = X.w) {b : Addr} {cs : List AV} (h : RowR X b cs) : RowR Y b (renL r cs) := by
  obtain ⟨cells, e, h1, h2⟩ := h
  refine ⟨cells, e, by rw [hw]; exact h1, fun k c hc => ?_⟩
  rw [renL_get] at hc
  cases hq : cs[k]? with
  | none => rw [hq] at hc; cases hc
  | some c' =>
    rw [hq] at hc
    simp only [Option.map_some, Option.some.injEq] at hc
    subst hc
    obtain ⟨v, h3, h4⟩ := h2 k c' hq
    exact ⟨v, h3, VR.name hφ hF hw _ _ h4⟩
theorem MapR.ren {r : Nat → Nat} (hφ : ∀ i b, X.φ (r i) = some b → Y.φ i = some b) (hF : Y.F = X.F) (hw : Y.w = X.w) {b : Addr} {es : List (Value × AV)} (h : MapR X b (renM r es)) : MapR Y b es := by
  obtain ⟨h0, ob, fs, h1, h3, h2⟩ := h
  exact ⟨h0, ob, fs, by rw [hw]; exact h1, h3, EntR.ren hφ hF hw h2⟩
theorem MapR.name {r : Nat → Nat} (hφ : ∀ i b, X.φ i = some b → Y.φ (r i) = some b) (hF : Y.F = X.F) (hw : Y.w = X.w) {b : Addr} {es : List (Value × AV)} (h : MapR X b es) : MapR Y b (renM r es) := by
  obtain ⟨h0, ob, fs, h1, h3, h2⟩ := h
  exact ⟨h0, ob, fs, by rw [hw]; exact h1, h3, EntR.name hφ hF hw h2⟩
end

/-- The world seen with the names of a part. -/
def Ctx.sel (X : Ctx) (is : List Nat) : Ctx := ⟨fun k => is[k]?.bind X.φ, X.F, X.w⟩
theorem sel_φ {X : Ctx} {is : List Nat} {k : Nat} {b : Addr} (hb : (X.sel is).φ k = some b) : ∃ j, is[k]? = some j ∧ X.φ j = some b := by
  have hb' : is[k]?.bind X.φ = some b := hb
  cases hq : is[k]? with
  | none => rw [hq] at hb'; cases hb'
  | some j => rw [hq] at hb'; exact ⟨j, rfl, hb'⟩
theorem rn_in {is : List Nat} {N k j : Nat} (hk : is[k]? = some j) : rn is N k = j := by simp only [rn, nth_eq, hk]
theorem rn_out {is : List Nat} {N k : Nat} (hk : is.length ≤ k) : rn is N k = N + (k - is.length) := by simp only [rn, nth_eq, List.getElem?_eq_none hk]
theorem sel_φ' {X : Ctx} {H : Heap} (hr : HR X H) {is : List Nat} {i : Nat} {b : Addr} (hb : X.φ (rn is H.length i) = some b) : (X.sel is).φ i = some b := by
  cases hq : is[i]? with
  | none =>
    have : is.length ≤ i := List.getElem?_eq_none_iff.1 hq
    rw [rn_out this] at hb
    have := (hr.lt _ _ hb).1
    omega
  | some j =>
    rw [rn_in hq] at hb
    show is[i]?.bind X.φ = some b
    rw [hq]
    exact hb
theorem sel_live {H : Heap} {r : Nat → Nat} {is : List Nat} {Hs : Heap} (hsel : Sel H r is Hs) {k : Nat} (h : live Hs k) : ∃ j, is[k]? = some j ∧ live H j := by
  obtain ⟨o, h1, h2⟩ := h
  obtain ⟨j, h3, _, h4 | rfl⟩ := hsel.get k o h1
  · exact ⟨j, h3, _, h4, by rw [renO_live]; exact h2⟩
  · cases h2
theorem HR.sel {X : Ctx} {H : Heap} (hr : HR X H) {is : List Nat} {Hs : Heap} (hsel : Sel H (rn is H.length) is Hs) (hn : noDup is = true) : HR (X.sel is) Hs := by
  refine ⟨fun k b hb => ?_, fun k cs b hk hb => ?_, fun k es b hk hb => ?_, fun k l bk bl hne hk hl hbk hbl => ?_, fun k b hk hb => ?_, hr.fl⟩
  · obtain ⟨j, h1, h2⟩ := sel_φ hb
    exact ⟨(hsel.lt h1).2, (hr.lt j b h2).2⟩
  · obtain ⟨j, h1, h2⟩ := sel_φ hb
    obtain ⟨j', h3, _, h4 | h4⟩ := hsel.get k _ hk
    · rw [h1] at h3
      cases h3
      exact RowR.ren (fun i b hb => sel_φ' hr hb) rfl rfl (hr.row j _ b h4 h2)
    · cases h4
  · obtain ⟨j, h1, h2⟩ := sel_φ hb
    obtain ⟨j', h3, _, h4 | h4⟩ := hsel.get k _ hk
    · rw [h1] at h3
      cases h3
      exact MapR.ren (fun i b hb => sel_φ' hr hb) rfl rfl (hr.mp j _ b h4 h2)
    · cases h4
  · obtain ⟨j, h1, h2⟩ := sel_φ hbk
    obtain ⟨j', h3, h4⟩ := sel_φ hbl
    obtain ⟨j1, h5, h6⟩ := sel_live hsel hk
    obtain ⟨j2, h7, h8⟩ := sel_live hsel hl
    rw [h1] at h5
    cases h5
    rw [h3] at h7
    cases h7
    exact hr.sep j j' bk bl (fun he => hne (noDup_ne hn k l j h1 (he ▸ h3))) h6 h8 h2 h4
  · obtain ⟨j, h1, h2⟩ := sel_φ hb
    obtain ⟨j1, h5, h6⟩ := sel_live hsel hk
    rw [h1] at h5
    cases h5
    exact hr.fz j b h6 h2
theorem Owned.sel {X : Ctx} {H : Heap} {r : Nat → Nat} {is : List Nat} {Hs : Heap} (hsel : Sel H r is Hs) {b : Nat} (h : Owned (X.sel is) Hs b) : ∃ j bj, j ∈ is ∧ live H j ∧ X.φ j = some bj ∧ bj.block = b := by
  obtain ⟨k, bk, h1, h2, h3⟩ := h
  obtain ⟨j, h4, h5⟩ := sel_φ h2
  obtain ⟨j1, h6, h7⟩ := sel_live hsel h1
  rw [h4] at h6
  cases h6
  exact ⟨j, bk, List.mem_of_getElem? h4, h7, h5, h3⟩
end Go.Proofs.YthbncljlclcecaaDoor.A

namespace Go.Proofs.YthbncljlclcecaaDoor.A
open Go
set_option linter.unusedVariables false
set_option linter.unusedSimpArgs false

/-! ### Forgetting -/
/-- A frame of which only some places are known. -/
def frL : List (Nat × AV) → Fr
  | [], _ => .junk
  | (t, a) :: L, i => bif Nat.beq i t then a else frL L i
/-- H' is a beginning of H, some objects forgotten. -/
def PreH : Heap → Heap → Prop
  | [], _ => True
  | o' :: H', o :: H => (o' = o ∨ o' = .dead) ∧ PreH H' H
  | _ :: _, [] => False
mutual
/-- Only objects below m are named. -/
def below (m : Nat) : AV → Bool
  | .ptr i _ => Nat.blt i m
  | .slc i _ _ _ => Nat.blt i m
  | .mapr i => Nat.blt i m
  | .fn _ caps => belowL m caps
  | .agg cells => belowL m cells
  | .tup vs => belowL m vs
  | _ => true
def belowL (m : Nat) : List AV → Bool
  | [] => true
  | a :: as => below m a && belowL m as
end
def belowO (m : Nat) : AObj → Bool
  | .row cs => belowL m cs
  | .mp es => belowL m (es.map (·.2))
  | .dead => true
def belowH (m : Nat) : Heap → Bool
  | [] => true
  | o :: H => belowO m o && belowH m H
def Ctx.cut (X : Ctx) (m : Nat) : Ctx := ⟨fun i => if i < m then X.φ i else none, X.F, X.w⟩
section
variable {X : Ctx} {m : Nat}
theorem VC.cut (ad : Option Addr) (k : Nat) (cs : List AV) (h : VC X ad k cs) : VC (X.cut m) ad k cs := VC.same (X := X) (Y := X.cut m) rfl rfl k cs h
mutual
theorem VR.cut : ∀ (a : AV) (v : Value), below m a = true → VR X a v → VR (X.cut m) a v
  | .junk, _, _, _ => by simp [VR]
  | .sc s, v, _, hv => by simpa [VR] using hv
  | .nan k, v, _, hv => by simpa [VR] using hv
  | .ptr i off, v, hb, hv => by
    simp only [VR] at hv ⊢
    have : i < m := by simpa [below] using hb
    simpa [Ctx.cut, this] using hv
  | .slc i off len sz, v, hb, hv => by
    simp only [VR] at hv ⊢
    have : i < m := by simpa [below] using hb
    simpa [Ctx.cut, this] using hv
  | .mapr i, v, hb, hv => by
    simp only [VR] at hv ⊢
    have : i < m := by simpa [below] using hb
    simpa [Ctx.cut, this] using hv
  | .vp cells, v, hb, hv => by
    simp only [VR] at hv ⊢
    obtain ⟨ad, e, hs, hc⟩ := hv
    exact ⟨ad, e, hs, VC.cut _ 0 cells hc⟩
  | .view len cells, v, hb, hv => by
    simp only [VR] at hv ⊢
    obtain ⟨a, c, e, hl, hn, hc⟩ := hv
    exact ⟨a, c, e, hl, hn, VC.cut a 0 cells hc⟩
  | .fn f caps, v, hb, hv => by
    simp only [VR] at hv ⊢
    obtain ⟨c, e, hl⟩ := hv
    exact ⟨c, e, VL.cut caps _ (by simpa [below] using hb) hl⟩
  | .agg cells, v, hb, hv => by
    simp only [VR] at hv ⊢
    obtain ⟨c, e, hl⟩ := hv
    exact ⟨c, e, VL.cut cells _ (by simpa [below] using hb) hl⟩
  | .tup vs, v, hb, hv => by
    simp only [VR] at hv ⊢
    obtain ⟨c, e, hl⟩ := hv
    exact ⟨c, e, VL.cut vs _ (by simpa [below] using hb) hl⟩
theorem VL.cut : ∀ (as : List AV) (vs : List Value), belowL m as = true → VL X as vs → VL (X.cut m) as vs
  | [], [], _, _ => by simp [VL]
  | [], _ :: _, _, hv => by simp [VL] at hv
  | _ :: _, [], _, hv => by simp [VL] at hv
  | a :: as, v :: vs, hb, hv => by
    simp only [VL] at hv ⊢
    simp only [belowL, Bool.and_eq_true] at hb
    exact ⟨VR.cut a v hb.1 hv.1, VL.cut as vs hb.2 hv.2⟩
end
end
theorem PreH.get : ∀ {H' H : Heap}, PreH H' H → ∀ (i : Nat) (o : AObj), H'[i]? = some o → H[i]? = some o ∨ (o = .dead ∧ i < H.length)
  | [], _, _, i, o, h => by simp at h
  | _ :: _, [], h, _, _, _ => h.elim
  | o' :: H', o :: H, h, 0, x, hx => by
    simp at hx
    subst hx
    rcases h.1 with h1 | h1
    · left; simp [h1]
    · right; exact ⟨h1, by simp⟩
  | o' :: H', o :: H, h, i + 1, x, hx => by
    simp at hx
    rcases h.2.get i x hx with h1 | ⟨h1, h2⟩
    · left; simpa using h1
    · right; exact ⟨h1, by simpa using h2⟩
theorem PreH.length : ∀ {H' H : Heap}, PreH H' H → H'.length ≤ H.length
  | [], _, _ => Nat.zero_le _
  | _ :: _, [], h => h.elim
  | _ :: _, _ :: _, h => by simpa using h.2.length
theorem belowH_get : ∀ {m : Nat} {H : Heap}, belowH m H = true → ∀ (i : Nat) (o : AObj), H[i]? = some o → belowO m o = true
  | _, [], _, i, o, h => by simp at h
  | m, x :: H, hb, 0, o, h => by
    simp at h
    subst h
    simp only [belowH, Bool.and_eq_true] at hb
    exact hb.1
  | m, x :: H, hb, i + 1, o, h => by
    simp at h
    simp only [belowH, Bool.and_eq_true] at hb
    exact belowH_get hb.2 i o h
theorem belowL_get : ∀ {m : Nat} {cs : List AV}, belowL m cs = true → ∀ (i : Nat) (c : AV), cs[i]? = some c → below m c = true
  | _, [], _, i, o, h => by simp at h
  | m, x :: H, hb, 0, o, h => by
    simp at h
    subst h
    simp only [belowL, Bool.and_eq_true] at hb
    exact hb.1
  | m, x :: H, hb, i + 1, o, h => by
    simp at h
    simp only [belowL, Bool.and_eq_true] at hb
    exact belowL_get hb.2 i o h
theorem EntR.cut {X : Ctx} {m : Nat} : ∀ {es : List (Value × AV)} {fs : List MapEntry}, belowL m (es.map (·.2)) = true → EntR X es fs → EntR (X.cut m) es fs
  | [], [], _, _ => by simp [EntR]
  | [], _ :: _, _, hv => by simp [EntR] at hv
  | _ :: _, [], _, hv => by simp [EntR] at hv
  | (k, v) :: es, e :: fs, hb, hv => by
    simp only [EntR] at hv ⊢
    simp only [List.map_cons, belowL, Bool.and_eq_true] at hb
    exact ⟨hv.1, hv.2.1, VR.cut _ _ hb.1 hv.2.2.1, EntR.cut hb.2 hv.2.2.2⟩
/-- Objects from m on are dropped. -/
theorem HR.cutTo {X : Ctx} {H H' : Heap} (h : HR X H) (hp : PreH H' H) (hb : belowH H'.length H' = true) : HR (X.cut H'.length) H' := by
  have hφ : ∀ i b, (X.cut H'.length).φ i = some b → i < H'.length ∧ X.φ i = some b := fun i b hb => by
    simp only [Ctx.cut] at hb
    split at hb
    · rename_i hi; exact ⟨hi, hb⟩
    · cases hb
  have hlive : ∀ i, live H' i → live H i := fun i ⟨o, h1, h2⟩ => by
    rcases hp.get i o h1 with h3 | ⟨rfl, _⟩
    · exact ⟨o, h3, h2⟩
    · cases h2
  refine ⟨fun i b hb => ?_, fun i cs b hi hb' => ?_, fun i es b hi hb' => ?_, fun i j bi bj hne hi hj hbi hbj => ?_, fun i b hi hb' => ?_, h.fl⟩
  · obtain ⟨h1, h2⟩ := hφ i b hb
    exact ⟨h1, (h.lt i b h2).2⟩
  · obtain ⟨h1, h2⟩ := hφ i b hb'
    rcases hp.get i _ hi with h3 | ⟨h3, _⟩
    · obtain ⟨cells, e, h4, h5⟩ := h.row i cs b h3 h2
      have hbo := belowH_get hb i _ hi
      refine ⟨cells, e, h4, fun k c hc => ?_⟩
      obtain ⟨v', h6, h7⟩ := h5 k c hc
      exact ⟨v', h6, VR.cut _ _ (belowL_get hbo k c hc) h7⟩
    · cases h3
  · obtain ⟨h1, h2⟩ := hφ i b hb'
    rcases hp.get i _ hi with h3 | ⟨h3, _⟩
    · obtain ⟨h0, ob, fs, h4, h6, h5⟩ := h.mp i es b h3 h2
      exact ⟨h0, ob, fs, h4, h6, EntR.cut (belowH_get hb i _ hi) h5⟩
    · cases h3
  · exact h.sep i j bi bj hne (hlive i hi) (hlive j hj) (hφ i bi hbi).2 (hφ j bj hbj).2
  · exact h.fz i b (hlive i hi) (hφ i b hb').2
theorem HR.pre {X : Ctx} {H H' : Heap} (h : HR X H) (hp : PreH H' H) (hl : H'.length = H.length) : HR X H' := by
  have hlive : ∀ i, live H' i → live H i := fun i ⟨o, h1, h2⟩ => by
    rcases hp.get i o h1 with h3 | ⟨rfl, _⟩
    · exact ⟨o, h3, h2⟩
    · cases h2
  refine ⟨fun i b hb => ?_, fun i cs b hi hb' => ?_, fun i es b hi hb' => ?_, fun i j bi bj hne hi hj hbi hbj => ?_, fun i b hi hb' => ?_, h.fl⟩
  · rw [hl]; exact h.lt i b hb
  · rcases hp.get i _ hi with h3 | ⟨h3, _⟩
    · exact h.row i cs b h3 hb'
    · cases h3
  · rcases hp.get i _ hi with h3 | ⟨h3, _⟩
    · exact h.mp i es b h3 hb'
    · cases h3
  · exact h.sep i j bi bj hne (hlive i hi) (hlive j hj) hbi hbj
  · exact h.fz i b (hlive i hi) hb'
theorem live_pre {H H' : Heap} (hp : PreH H' H) {i : Nat} (h : live H' i) : live H i := by
  obtain ⟨o, h1, h2⟩ := h
  rcases hp.get i o h1 with h3 | ⟨rfl, _⟩
  · exact ⟨o, h3, h2⟩
  · cases h2
/-- The places L, under the names of before. -/
def AllRen (r : Nat → Nat) (f : Fr) : List (Nat × AV) → Prop
  | [] => True
  | (t, a) :: L => f t = ren r a ∧ AllRen r f L
/-- The first n names stay. -/
def idPre : Nat → Nat → List Nat → Bool
  | 0, _, _ => true
  | _ + 1, _, [] => false
  | n + 1, k, j :: js => bif Nat.beq j k then idPre n (k + 1) js else false
theorem idPre_get : ∀ {n k : Nat} {is : List Nat}, idPre n k is = true → ∀ i, i < n → is[i]? = some (k + i)
  | 0, _, _, _, i, h => by omega
  | n + 1, k, [], h, _, _ => by simp [idPre] at h
  | n + 1, k, j :: js, h, i, hi => by
    cases hq : Nat.beq j k with
    | false => simp [idPre, hq] at h
    | true =>
      simp only [idPre, hq, cond_true] at h
      have := Nat.eq_of_beq_eq_true hq
      subst this
      cases i with
      | zero => simp
      | succ i =>
        have := idPre_get h i (by omega)
        simp only [List.getElem?_cons_succ, this]
        congr 1
        omega
theorem idPre_len : ∀ {n k : Nat} {is : List Nat}, idPre n k is = true → n ≤ is.length
  | 0, _, _, _ => Nat.zero_le _
  | n + 1, k, [], h => by simp [idPre] at h
  | n + 1, k, j :: js, h => by
    cases hq : Nat.beq j k with
    | false => simp [idPre, hq] at h
    | true =>
      simp only [idPre, hq, cond_true] at h
      have := idPre_len h
      simp
      omega
def renD (r : Nat → Nat) : List AD → List AD
  | [] => []
  | d :: ds => ⟨d.g, renL r d.caps, renL r d.args⟩ :: renD r ds
theorem DL.ren {X Y : Ctx} {r : Nat → Nat} (hφ : ∀ i b, X.φ (r i) = some b → Y.φ i = some b) (hF : Y.F = X.F) (hw : Y.w = X.w) : ∀ {D : List AD} {es : List Deferred}, DL X (renD r D) es → DL Y D es
  | [], [], _ => trivial
  | [], _ :: _, h => h.elim
  | _ :: _, [], h => h.elim
  | d :: D, e :: es, h => by
    obtain ⟨⟨c, h1, h2, h3⟩, h4⟩ := h
    exact ⟨⟨c, h1, VL.ren hφ hF hw _ _ h2, VL.ren hφ hF hw _ _ h3⟩, DL.ren hφ hF hw h4⟩
/-- A nil slice, told as a slice of a row of nothing: at a place, or in a cell of an object. -/
inductive Gh where
  | at_ (t sz : Nat)
  | cell (i off sz : Nat)
def isNilA : AV → Bool
  | .sc (.slice none 0 0) => true
  | _ => false
def ghostC (s : St) (i off sz : Nat) : St :=
  match nth s.H i with
  | some (.row cs) =>
    match nth cs off with
    | some a => bif isNilA a then ⟨s.fr, s.H.set i (.row (cs.set off (.slc s.H.length 0 0 sz))) ++ [.row []], s.ds⟩ else s
    | none => s
  | _ => s
def ghost1 (s : St) : Gh → St
  | .at_ t sz => bif isNilA (s.fr t) then ⟨upd s.fr t (.slc s.H.length 0 0 sz), s.H ++ [.row []], s.ds⟩ else s
  | .cell i off sz => ghostC s i off sz
def ghosts (s : St) : List Gh → St
  | [] => s
  | g :: gs => ghosts (ghost1 s g) gs
theorem isNilA_VR {X : Ctx} {a : AV} {v : Value} (h : isNilA a = true) (hv : VR X a v) (i off sz : Nat) : VR X (.slc i off 0 sz) v := by
  unfold isNilA at h
  split at h
  · simp only [VR, ScR] at hv ⊢
    rcases hv with ⟨_, rfl | ⟨_, a, rfl⟩⟩ <;> simp
  · cases h
theorem ghost1_at {n : Nat} {X0 : Ctx} {H0 : Heap} {X : Ctx} {s : St} {a : Act} (h : At n X0 H0 X s a) (g : Gh) : At n X0 H0 X (ghost1 s g) a := by
  cases g with
  | at_ t sz =>
    show At n X0 H0 X (bif isNilA (s.fr t) then _ else _) a
    cases hb : isNilA (s.fr t) with
    | false => exact h
    | true =>
      have hst := Step.ghost h.st.hr
      refine ⟨⟨h.st.size, fun u => ?_, h.st.ds, hst.hr⟩, h.ext.trans hst.ext, h.φ, Nat.le_trans h.len hst.len⟩
      show VR X (bif Nat.beq u t then AV.slc s.H.length 0 0 sz else s.fr u) _
      cases hq : Nat.beq u t with
      | false => exact h.st.fr u
      | true =>
        have := Nat.eq_of_beq_eq_true hq
        subst this
        exact isNilA_VR hb (h.st.fr u) _ _ _
  | cell i off sz =>
    show At n X0 H0 X (ghostC s i off sz) a
    unfold ghostC
    split
    · rename_i cs hi
      split
      · rename_i b hc
        cases hb : isNilA b with
        | false => exact h
        | true =>
          rw [nth_eq] at hi hc
          have h1 := Step.retell h.st.hr hi hc (fun v hv => isNilA_VR hb hv s.H.length 0 sz)
          have hst := h1.trans (Step.ghost h1.hr)
          exact ⟨⟨h.st.size, h.st.fr, h.st.ds, hst.hr⟩, h.ext.trans hst.ext, h.φ, Nat.le_trans h.len hst.len⟩
      · exact h
    · exact h
theorem ghosts_at {n : Nat} {X0 : Ctx} {H0 : Heap} {X : Ctx} {a : Act} : ∀ (gs : List Gh) {s : St}, At n X0 H0 X s a → At n X0 H0 X (ghosts s gs) a
  | [], _, h => h
  | g :: gs, _, h => ghosts_at gs (ghost1_at h g)
/-- From a state to one of which less is known: the places L, the objects is, told as H', what is deferred. -/
structure Weak (n0 : Nat) (s : St) (is : List Nat) (L : List (Nat × AV)) (H' : Heap) (D : List AD := []) : Prop where
  fr : AllRen (rn is s.H.length) s.fr L
  sel : Sel s.H (rn is s.H.length) is H'
  dup : noDup is = true
  pre : idPre n0 0 is = true
  ds : s.ds = renD (rn is s.H.length) D
theorem AllRen.frL {X Y : Ctx} {r : Nat → Nat} {f : Fr} (g : Nat → Value) (hf : ∀ t, VR X (f t) (g t)) (hφ : ∀ i b, X.φ (r i) = some b → Y.φ i = some b) (hF : Y.F = X.F) (hw : Y.w = X.w) : ∀ {L : List (Nat × AV)}, AllRen r f L → ∀ t, VR Y (frL L t) (g t)
  | [], _, t => by simp [A.frL, VR]
  | (u, a) :: L, h, t => by
    simp only [A.frL]
    cases hb : Nat.beq t u with
    | true =>
      have := Nat.eq_of_beq_eq_true hb
      subst this
      simp only [cond_true]
      have := hf t
      rw [h.1] at this
      exact VR.ren hφ hF hw a _ this
    | false => simp only [cond_false]; exact AllRen.frL g hf hφ hF hw h.2 t
theorem Weak.at_ {n n0 : Nat} {X0 : Ctx} {H0 : Heap} {X : Ctx} {s : St} {a : Act} (h : At n X0 H0 X s a) {is : List Nat} {L : List (Nat × AV)} {H' : Heap} {D : List AD} (hw : Weak H0.length s is L H' D) :
    ∃ Y, Y.w = X.w ∧ At n X0 H0 Y ⟨frL L, H', D⟩ a := by
  have hds := h.st.ds
  rw [hw.ds] at hds
  refine ⟨X.sel is, rfl, ⟨⟨h.st.size, AllRen.frL _ h.st.fr (fun i b hb => sel_φ' h.st.hr hb) rfl rfl hw.fr, DL.ren (fun i b hb => sel_φ' h.st.hr hb) rfl rfl hds, h.st.hr.sel hw.sel hw.dup⟩, ?_, fun i hi => ?_, ?_⟩⟩
  · exact ⟨h.ext.size, h.ext.keep, h.ext.shape, fun b hb => by
      obtain ⟨j, bj, _, h1, h2, h3⟩ := hb.sel hw.sel
      exact h.ext.own b ⟨j, bj, h1, h2, h3⟩, h.ext.F, h.ext.Fn, h.ext.os, h.ext.tape, h.ext.output⟩
  · have := idPre_get hw.pre i hi
    show is[i]?.bind X.φ = X0.φ i
    rw [this, ← h.φ i hi]
    simp
  · have := idPre_len hw.pre
    rw [← hw.sel.length]
    exact this

/-! ### Freezing: what is handed back is told by content -/
def mapO (f : AV → Option AV) : List AV → Option (List AV)
  | [] => some []
  | a :: as => match f a, mapO f as with
    | some x, some xs => some (x :: xs)
    | _, _ => none
/-- Told without objects: slices of objects from m on by their content. -/
def frz0 (H : Heap) (m : Nat) : Nat → AV → Option AV
  | 0, _ => none
  | k + 1, .slc i off len sz => bif Nat.blt i m then none else match rdN H i off (len * sz) with
    | some cs => match mapO (frz0 H m k) cs with
      | some ds => some (.view len ds)
      | none => none
    | none => none
  | k + 1, .agg cs => match mapO (frz0 H m k) cs with
    | some ds => some (.agg ds)
    | none => none
  | k + 1, .tup cs => match mapO (frz0 H m k) cs with
    | some ds => some (.tup ds)
    | none => none
  | _ + 1, .ptr _ _ => none
  | _ + 1, .mapr _ => none
  | _ + 1, .fn _ _ => none
  | _ + 1, a => some a
/-- The same, but objects below m may be named. -/
def frz (H : Heap) (m : Nat) : Nat → AV → Option AV
  | 0, _ => none
  | k + 1, .slc i off len sz => bif Nat.blt i m then some (.slc i off len sz) else frz0 H m (k + 1) (.slc i off len sz)
  | _ + 1, .ptr i off => bif Nat.blt i m then some (.ptr i off) else none
  | _ + 1, .mapr i => bif Nat.blt i m then some (.mapr i) else none
  | k + 1, .agg cs => match mapO (frz H m k) cs with
    | some ds => some (.agg ds)
    | none => none
  | k + 1, .tup cs => match mapO (frz H m k) cs with
    | some ds => some (.tup ds)
    | none => none
  | k + 1, .fn f cs => match mapO (frz H m k) cs with
    | some ds => some (.fn f ds)
    | none => none
  | _ + 1, a => some a
theorem mapO_get {f : AV → Option AV} : ∀ {as bs : List AV}, mapO f as = some bs → as.length = bs.length ∧ ∀ (i : Nat) (b : AV), bs[i]? = some b → ∃ a, as[i]? = some a ∧ f a = some b
  | [], bs, h => by simp [mapO] at h; subst h; simp
  | a :: as, bs, h => by
    simp only [mapO] at h
    split at h
    · rename_i x xs h1 h2
      simp only [Option.some.injEq] at h
      subst h
      obtain ⟨h3, h4⟩ := mapO_get h2
      refine ⟨by simp [h3], fun i b hb => ?_⟩
      cases i with
      | zero => simp at hb; exact ⟨a, rfl, hb ▸ h1⟩
      | succ i => simp at hb; simpa using h4 i b hb
    · cases h
theorem mapO_map {α : Type} {f : AV → Option AV} {g h : α → AV} (e : ∀ x, f (g x) = some (h x)) : ∀ xs : List α, mapO f (xs.map g) = some (xs.map h)
  | [] => rfl
  | x :: xs => by simp [mapO, e, mapO_map e xs]
theorem mapO_VL {X Y : Ctx} {f : AV → Option AV} {as bs : List AV} (h : mapO f as = some bs) (hf : ∀ a b v, f a = some b → VR X a v → VR Y b v) {vs : List Value} (hl : VL X as vs) : VL Y bs vs := by
  obtain ⟨h1, h2⟩ := mapO_get h
  have hlen := hl.length
  refine VL.of_get (by omega) fun i b v hb hv => ?_
  obtain ⟨a, h3, h4⟩ := h2 i b hb
  obtain ⟨v', h5, h6⟩ := hl.get i a h3
  rw [hv] at h5
  cases h5
  exact hf a b v h4 h6
/-- Objects from m on are told no more; their blocks are written no more. -/
def Ctx.frozen (X : Ctx) (H : Heap) (m : Nat) : Ctx := ⟨fun i => if i < m then X.φ i else none, fun b => X.F b ∨ ∃ i a, m ≤ i ∧ live H i ∧ X.φ i = some a ∧ a.block = b, X.w⟩
theorem Le.cut_frozen (X : Ctx) (H : Heap) (m : Nat) : Le (X.cut m) (X.frozen H m) := ⟨fun _ _ h => h, fun _ h => .inl h, fun _ _ => rfl, fun _ cells _ _ h => ⟨cells, h, rfl⟩⟩
theorem Le.nof_frozen (X : Ctx) (H : Heap) (m : Nat) : Le X.nof (X.frozen H m).nof := ⟨fun _ _ h => (by cases h), fun _ h => .inl h, fun _ _ => rfl, fun _ cells _ _ h => ⟨cells, h, rfl⟩⟩
theorem VC.nof {X Y : Ctx} (h : Le X.nof Y.nof) {ad : Option Addr} : ∀ (k : Nat) (cs : List AV), VC X ad k cs → VC Y ad k cs
  | _, [], _ => by simp [VC]
  | k, c :: cs, hv => by
    simp only [VC] at hv ⊢
    obtain ⟨⟨a, v', e, hs, hF, hc, hr⟩, hrest⟩ := hv
    exact ⟨⟨a, v', e, hs, h.F _ hF, (cell_of_heap (h.fz _ hF)).trans hc, VR.mono h c v' hr⟩, VC.nof h (k + 1) cs hrest⟩
theorem frz0_ok {X : Ctx} {H : Heap} (hr : HR X H) (m : Nat) : ∀ (k : Nat) (a b : AV) (v : Value), frz0 H m k a = some b → VR X a v → VR (X.frozen H m).nof b v
  | 0, _, _, _, h, _ => by simp [frz0] at h
  | k + 1, a, b, v, h, hv => by
    cases a with
    | junk => simp only [frz0, Option.some.injEq] at h; subst h; simp [VR]
    | sc s => simp only [frz0, Option.some.injEq] at h; subst h; simpa [VR] using hv
    | nan q => simp only [frz0, Option.some.injEq] at h; subst h; simpa [VR] using hv
    | ptr i o => simp [frz0] at h
    | mapr i => simp [frz0] at h
    | fn f c => simp [frz0] at h
    | vp cs =>
      simp only [frz0, Option.some.injEq] at h
      subst h
      simp only [VR] at hv ⊢
      obtain ⟨ad, e, hs, hc⟩ := hv
      exact ⟨ad, e, hs, VC.nof (X := X) (Y := (X.frozen H m).nof) (Le.nof_frozen X H m) 0 cs hc⟩
    | view len cs =>
      simp only [frz0, Option.some.injEq] at h
      subst h
      simp only [VR] at hv ⊢
      obtain ⟨a, c, e, hl, hn, hc⟩ := hv
      exact ⟨a, c, e, hl, hn, VC.nof (X := X) (Y := (X.frozen H m).nof) (Le.nof_frozen X H m) 0 cs hc⟩
    | agg cs =>
      simp only [frz0] at h
      split at h
      · rename_i ds hds
        simp only [Option.some.injEq] at h
        subst h
        simp only [VR] at hv ⊢
        obtain ⟨ws, e, hl⟩ := hv
        exact ⟨ws, e, mapO_VL hds (fun a b v => frz0_ok hr m k a b v) hl⟩
      · cases h
    | tup cs =>
      simp only [frz0] at h
      split at h
      · rename_i ds hds
        simp only [Option.some.injEq] at h
        subst h
        simp only [VR] at hv ⊢
        obtain ⟨ws, e, hl⟩ := hv
        exact ⟨ws, e, mapO_VL hds (fun a b v => frz0_ok hr m k a b v) hl⟩
      · cases h
    | slc i off len sz =>
      simp only [frz0] at h
      cases hb : Nat.blt i m with
      | true => simp [hb] at h
      | false =>
        simp only [hb, cond_false] at h
        have hi : m ≤ i := by
          rcases Nat.lt_or_ge i m with h1 | h1
          · have : Nat.blt i m = true := by simpa using h1
            rw [this] at hb
            cases hb
          · exact h1
        split at h
        · rename_i cs hcs
          split at h
          · rename_i ds hds
            simp only [Option.some.injEq] at h
            subst h
            simp only [VR] at hv ⊢
            rcases hv with ⟨hl0, a0, rfl⟩ | ⟨ba, o, c, cells, e, hφ, rfl, hlc, ho, hh, hsz⟩
            · subst hl0
              obtain ⟨all, _, _, hall⟩ := rdN_row hcs
              have hc0 : cs = [] := by rw [hall]; simp
              subst hc0
              simp only [mapO, Option.some.injEq] at hds
              subst hds
              exact ⟨_, _, rfl, Nat.le_refl _, .inl rfl, by simp [VC]⟩
            obtain ⟨all, hp, hle, _⟩ := rdN_row hcs
            obtain ⟨hlen, hg⟩ := rdN_get hr hφ hcs
            obtain ⟨h1, h2⟩ := mapO_get hds
            refine ⟨_, _, rfl, hlc, .inr ⟨_, rfl, rfl⟩, VC.of_get (ad := ⟨ba.block, o, none⟩) rfl (Or.inr ⟨i, ba, hi, ⟨_, hp, rfl⟩, hφ, rfl⟩) fun j y hy => ?_⟩
            obtain ⟨x, h3, h4⟩ := h2 j y hy
            obtain ⟨u, h5, h6⟩ := hg j x h3
            have hj : j < len * sz := by
              have := (List.getElem?_eq_some_iff.1 h3).1
              omega
            have : 0 < len := Nat.pos_of_ne_zero fun he => by rw [he, Nat.zero_mul] at hj; omega
            have ho' := ho this
            subst ho'
            refine ⟨u, ?_, frz0_ok hr m k x y u h4 h6⟩
            show X.w.cell? _ = some u
            simpa using h5
          · cases h
        · cases h
theorem frz_ok {X : Ctx} {H : Heap} (hr : HR X H) (m : Nat) : ∀ (k : Nat) (a b : AV) (v : Value), frz H m k a = some b → VR X a v → VR (X.frozen H m) b v
  | 0, _, _, _, h, _ => by simp [frz] at h
  | k + 1, a, b, v, h, hv => by
    have hcut : below m a = true → VR (X.frozen H m) a v := fun hb => VR.mono (Le.cut_frozen X H m) _ _ (VR.cut a v hb hv)
    cases a with
    | junk => simp only [frz, Option.some.injEq] at h; subst h; simp [VR]
    | sc s => simp only [frz, Option.some.injEq] at h; subst h; simpa [VR] using hv
    | nan q => simp only [frz, Option.some.injEq] at h; subst h; simpa [VR] using hv
    | vp cs => simp only [frz, Option.some.injEq] at h; subst h; exact hcut rfl
    | view len cs => simp only [frz, Option.some.injEq] at h; subst h; exact hcut rfl
    | ptr i o =>
      simp only [frz] at h
      cases hb : Nat.blt i m with
      | true => simp only [hb, cond_true, Option.some.injEq] at h; subst h; exact hcut hb
      | false => simp [hb] at h
    | mapr i =>
      simp only [frz] at h
      cases hb : Nat.blt i m with
      | true => simp only [hb, cond_true, Option.some.injEq] at h; subst h; exact hcut hb
      | false => simp [hb] at h
    | slc i off len sz =>
      simp only [frz] at h
      cases hb : Nat.blt i m with
      | true => simp only [hb, cond_true, Option.some.injEq] at h; subst h; exact hcut hb
      | false =>
        simp only [hb, cond_false] at h
        exact VR.mono (Le.of_nof _) _ _ (frz0_ok hr m (k + 1) _ _ _ h hv)
    | agg cs =>
      simp only [frz] at h
      split at h
      · rename_i ds hds
        simp only [Option.some.injEq] at h
        subst h
        simp only [VR] at hv ⊢
        obtain ⟨ws, e, hl⟩ := hv
        exact ⟨ws, e, mapO_VL hds (fun a b v => frz_ok hr m k a b v) hl⟩
      · cases h
    | tup cs =>
      simp only [frz] at h
      split at h
      · rename_i ds hds
        simp only [Option.some.injEq] at h
        subst h
        simp only [VR] at hv ⊢
        obtain ⟨ws, e, hl⟩ := hv
        exact ⟨ws, e, mapO_VL hds (fun a b v => frz_ok hr m k a b v) hl⟩
      · cases h
    | fn f cs =>
      simp only [frz] at h
      split at h
      · rename_i ds hds
        simp only [Option.some.injEq] at h
        subst h
        simp only [VR] at hv ⊢
        obtain ⟨ws, e, hl⟩ := hv
        exact ⟨ws, e, mapO_VL hds (fun a b v => frz_ok hr m k a b v) hl⟩
      · cases h
/-! ### Objects told by content from here on -/
def frzL (H : Heap) (m : Nat) : List (Nat × AV) → Option (List (Nat × AV))
  | [] => some []
  | (t, a) :: L => match frz H m 8 a, frzL H m L with
    | some b, some M => some ((t, b) :: M)
    | _, _ => none
def frzR (H : Heap) (m : Nat) : Nat → Heap → Option Heap
  | 0, _ => some []
  | _ + 1, [] => none
  | k + 1, .row cs :: r => match mapO (frz H m 8) cs, frzR H m k r with
    | some ds, some q => some (.row ds :: q)
    | _, _ => none
  | k + 1, .dead :: r => match frzR H m k r with
    | some q => some (.dead :: q)
    | none => none
  | _ + 1, .mp _ :: _ => none
theorem frzR_get {H : Heap} {m : Nat} : ∀ {k : Nat} {r q : Heap}, frzR H m k r = some q → q.length = k ∧ ∀ (i : Nat) (o : AObj), q[i]? = some o → o = .dead ∨ ∃ cs ds, o = .row ds ∧ r[i]? = some (.row cs) ∧ mapO (frz H m 8) cs = some ds
  | 0, r, q, h => by
    simp only [frzR, Option.some.injEq] at h
    subst h
    exact ⟨rfl, fun i o h => by simp at h⟩
  | k + 1, [], q, h => by simp [frzR] at h
  | k + 1, .row cs :: r, q, h => by
    simp only [frzR] at h
    split at h
    · rename_i ds q' h1 h2
      simp only [Option.some.injEq] at h
      subst h
      obtain ⟨g1, g2⟩ := frzR_get h2
      refine ⟨by simp [g1], fun i o ho => ?_⟩
      cases i with
      | zero => simp at ho; subst ho; exact .inr ⟨cs, ds, rfl, rfl, h1⟩
      | succ i => exact g2 i o (by simpa using ho)
    · cases h
  | k + 1, .dead :: r, q, h => by
    simp only [frzR] at h
    split at h
    · rename_i q' h2
      simp only [Option.some.injEq] at h
      subst h
      obtain ⟨g1, g2⟩ := frzR_get h2
      refine ⟨by simp [g1], fun i o ho => ?_⟩
      cases i with
      | zero => simp at ho; exact .inl ho.symm
      | succ i => exact g2 i o (by simpa using ho)
    · cases h
  | k + 1, .mp es :: r, q, h => by simp [frzR] at h
theorem frzL_VR {X : Ctx} {H : Heap} (hr : HR X H) {m : Nat} : ∀ {L M : List (Nat × AV)}, frzL H m L = some M → ∀ (t : Nat) (v : Value), VR X (frL L t) v → VR (X.frozen H m) (frL M t) v
  | [], M, h, t, v, _ => by
    simp only [frzL, Option.some.injEq] at h
    subst h
    simp [frL, VR]
  | (u, a) :: L, M, h, t, v, hv => by
    simp only [frzL] at h
    split at h
    · rename_i b N h1 h2
      simp only [Option.some.injEq] at h
      subst h
      simp only [frL] at hv ⊢
      cases hb : Nat.beq t u with
      | true => simp only [hb, cond_true] at hv ⊢; exact frz_ok hr m 8 a b v h1 hv
      | false => simp only [hb, cond_false] at hv ⊢; exact frzL_VR hr h2 t v hv
    · cases h
/-- Less is known, or less and told by content. -/
def WeakF (n0 : Nat) (s : St) (is : List Nat) (L : List (Nat × AV)) (H' : Heap) (D : List AD) : Prop :=
  Weak n0 s is L H' D ∨ ∃ L1 H1 m, Weak n0 s is L1 H1 [] ∧ n0 ≤ m ∧ frzL H1 m L1 = some L ∧ frzR H1 m m H1 = some H' ∧ D = []
theorem At.freeze {n : Nat} {X0 : Ctx} {H0 : Heap} {Y : Ctx} {L1 L : List (Nat × AV)} {H1 H' : Heap} {a : Act} {m : Nat} (h : At n X0 H0 Y ⟨frL L1, H1, []⟩ a) (hm : H0.length ≤ m) (hL : frzL H1 m L1 = some L) (hH : frzR H1 m m H1 = some H') :
    At n X0 H0 (Y.frozen H1 m) ⟨frL L, H', []⟩ a := by
  have hr := h.st.hr
  obtain ⟨hlen, hget⟩ := frzR_get hH
  have hlive : ∀ i, live H' i → live H1 i ∧ i < m := fun i ⟨o, h1, h2⟩ => by
    have hi := (List.getElem?_eq_some_iff.1 h1).1
    rcases hget i o h1 with rfl | ⟨cs, ds, rfl, h3, _⟩
    · simp [AObj.live] at h2
    · exact ⟨⟨_, h3, rfl⟩, by omega⟩
  have hφ : ∀ {i b}, (Y.frozen H1 m).φ i = some b → i < m ∧ Y.φ i = some b := fun {i b} hb => by
    have : (if i < m then Y.φ i else none) = some b := hb
    split at this
    · rename_i hi; exact ⟨hi, this⟩
    · cases this
  have hds : DL (Y.frozen H1 m) [] a.defers := by
    have := h.st.ds
    cases hd : a.defers with
    | nil => trivial
    | cons d ds => rw [hd] at this; exact this.elim
  refine ⟨⟨h.st.size, fun t => frzL_VR hr hL t _ (h.st.fr t), hds, ⟨fun i b hb => ?_, fun i ds b hi hb => ?_, fun i es b hi hb => ?_, fun i j bi bj hne hi hj hbi hbj => ?_, fun i b hi hb hF => ?_, fun b hF => ?_⟩⟩,
    ⟨h.ext.size, h.ext.keep, h.ext.shape, fun b hb => ?_, fun b hb => .inl (h.ext.F b hb), fun b hb => ?_, h.ext.os, h.ext.tape, h.ext.output⟩, fun i hi => ?_, ?_⟩
  · obtain ⟨h1, h2⟩ := hφ hb
    exact ⟨by show i < H'.length; omega, (hr.lt i b h2).2⟩
  · obtain ⟨h1, h2⟩ := hφ hb
    rcases hget i _ hi with h3 | ⟨cs, ds', h3, h4, h5⟩
    · cases h3
    · cases h3
      obtain ⟨cells, e, g1, g2⟩ := hr.row i cs b h4 h2
      refine ⟨cells, e, g1, fun k c hc => ?_⟩
      obtain ⟨x, hx1, hx2⟩ := (mapO_get h5).2 k c hc
      obtain ⟨v', g3, g4⟩ := g2 k x hx1
      exact ⟨v', g3, frz_ok hr m 8 x c v' hx2 g4⟩
  · rcases hget i _ hi with h3 | ⟨cs, ds', h3, h4, h5⟩
    · cases h3
    · cases h3
  · exact hr.sep i j bi bj hne (hlive i hi).1 (hlive j hj).1 (hφ hbi).2 (hφ hbj).2
  · obtain ⟨h1, h2⟩ := hφ hb
    rcases hF with hF | ⟨j, c, g1, g2, g3, g4⟩
    · exact hr.fz i b (hlive i hi).1 h2 hF
    · exact hr.sep i j b c (by omega) (hlive i hi).1 g2 h2 g3 g4.symm
  · rcases hF with hF | ⟨j, c, g1, g2, g3, rfl⟩
    · exact hr.fl b hF
    · exact (hr.lt j c g3).2.2
  · obtain ⟨i, c, g1, g2, g3⟩ := hb
    exact h.ext.own b ⟨i, c, (hlive i g1).1, (hφ g2).2, g3⟩
  · rcases hb with hb | ⟨j, c, g1, g2, g3, g4⟩
    · exact h.ext.Fn b hb
    · rcases h.ext.own b ⟨j, c, g2, g3, g4⟩ with g | g
      · exact .inr (.inl g)
      · exact .inr (.inr g)
  · show (if i < m then Y.φ i else none) = X0.φ i
    rw [if_pos (by omega)]
    exact h.φ i hi
  · show H0.length ≤ H'.length
    omega
theorem WeakF.at_ {n : Nat} {X0 : Ctx} {H0 : Heap} {X : Ctx} {s : St} {a : Act} (h : At n X0 H0 X s a) {is : List Nat} {L : List (Nat × AV)} {H' : Heap} {D : List AD} (hw : WeakF H0.length s is L H' D) :
    ∃ Y, Y.w = X.w ∧ At n X0 H0 Y ⟨frL L, H', D⟩ a := by
  rcases hw with hw | ⟨L1, H1, m, hw, hm, hL, hH, rfl⟩
  · exact Weak.at_ (n0 := H0.length) h hw
  · obtain ⟨Y, h1, h2⟩ := Weak.at_ (n0 := H0.length) h hw
    exact ⟨Y.frozen H1 m, h1, h2.freeze hm hL hH⟩

/-! ### Code -/
def nextX (K : St → Prop) (Q : AX → St → Prop) : AX → St → Prop
  | .normal, s => K s
  | e, s => Q e s
def blockX (id : Nat) (Q : AX → St → Prop) : AX → St → Prop
  | .exit id', s => bif Nat.beq id' id then Q .normal s else Q (.exit id') s
  | e, s => Q e s
/-- So many rounds at most; each round begins with places and objects named. -/
def roundsA (F : (AX → St → Prop) → St → Prop) (n0 : Nat) (Q : AX → St → Prop) : Nat → St → Prop
  | 0, _ => False
  | n + 1, s => ∃ gs is L H' D, WeakF n0 (ghosts s gs) is L H' D ∧ F (nextX (roundsA F n0 Q n) Q) ⟨frL L, H', D⟩
/-- One behind the other, with places and objects named between. -/
def CutP (A B : (AX → St → Prop) → St → Prop) (n0 : Nat) (Q : AX → St → Prop) (s : St) : Prop :=
  ∃ J : List (Nat × AV) → Heap → List AD → Prop, A (nextX (fun s' => ∃ gs is L H' D, Weak n0 (ghosts s' gs) is L H' D ∧ J L H' D) Q) s ∧ ∀ L H' D, J L H' D → B Q ⟨frL L, H', D⟩
/-- Does it begin with one of these regions? -/
def begins (cuts : List Nat) : Code → Bool
  | .region id _ _ => cuts.any (Nat.beq id)
  | .seq a _ => begins cuts a
  | .block _ c => begins cuts c
  | .loop c => begins cuts c
  | _ => false
def awp (P : Program) (T : Tab) (n0 : Nat) (cuts : List Nat) : Code → (AX → St → Prop) → St → Prop
  | .skip, Q, s => Q .normal s
  | .label _, Q, s => Q .normal s
  | .region _ ops draw, Q, s =>
    match draw with
    | false => awpOps P T ops.toList (Q .normal) (fun u s' => Q (.pan u) s') ops.toList s
    | true => awpDraw P T ops (Q .normal) (fun u s' => Q (.pan u) s') s
  | .seq a b, Q, s => bif begins cuts b then CutP (awp P T n0 cuts a) (awp P T n0 cuts b) n0 Q s else awp P T n0 cuts a (nextX (awp P T n0 cuts b Q) Q) s
  | .cond c x y, Q, s =>
    match ev s.fr c with
    | .sc (.bool b) => If b (awp P T n0 cuts x Q s) (awp P T n0 cuts y Q s)
    | _ => False
  | .block id c, Q, s => awp P T n0 cuts c (blockX id Q) s
  | .loop c, Q, s => ∃ n, roundsA (awp P T n0 cuts c) n0 Q n s
  | .exit id, Q, s => Q (.exit id) s
  | .ret, Q, s => Q .ret s
  | _, _, _ => False

def okCode (n : Nat) : Code → Bool
  | .region _ ops _ => okOps n ops.toList
  | .seq a b => okCode n a && okCode n b
  | .cond _ x y => okCode n x && okCode n y
  | .block _ c => okCode n c
  | .loop c => okCode n c
  | _ => true
def ExR : AX → Exit → Prop
  | .normal, .normal => True
  | .exit i, .exit j => i = j
  | .ret, .ret => True
  | .pan u, .panic ch => ch = [entry u] ∧ plain u = true
  | _, _ => False
section
variable {P : Program} {T : Tab} {n : Nat} {X0 : Ctx} {H0 : Heap}
/-- What our post says of the model's exits. -/
def PostR (n : Nat) (X0 : Ctx) (H0 : Heap) (Q : AX → St → Prop) : Exit → Act → World → Prop := fun e a w =>
  ∃ E s Y, Q E s ∧ ExR E e ∧ Y.w = w ∧ At n X0 H0 Y s a
theorem awp_sound {cuts : List Nat} (hT : TOk P T) (hm : P.follows .mixedOrders = true) : ∀ (c : Code), okCode n c = true → ∀ (Q : AX → St → Prop) (X : Ctx) (s : St) (a : Act), At n X0 H0 X s a → awp P T H0.length cuts c Q s → c.wp P (PostR n X0 H0 Q) a X.w
  | .skip, _, Q, X, s, a, h, hq => wp_skip ⟨.normal, s, X, hq, True.intro, rfl, h⟩
  | .label _, _, Q, X, s, a, h, hq => wp_label ⟨.normal, s, X, hq, True.intro, rfl, h⟩
  | .exit id, _, Q, X, s, a, h, hq => wp_exit ⟨.exit id, s, X, hq, rfl, rfl, h⟩
  | .ret, _, Q, X, s, a, h, hq => wp_ret ⟨.ret, s, X, hq, True.intro, rfl, h⟩
  | .region id ops draw, hok, Q, X, s, a, h, hq => by
    cases draw with
    | false =>
      refine wp_region ?_
      rw [List.range_eq_range']
      have := ops_wp (Q := PostR n X0 H0 Q) hT (all := ops) hok (K := Q .normal) (Kp := fun u s' => Q (.pan u) s') (fun Y s' a' hk hat => ⟨.normal, s', Y, hk, True.intro, rfl, hat⟩)
        (fun Y u s' a' hk hat hp => ⟨.pan u, s', Y, hk, ⟨rfl, hp⟩, rfl, hat⟩) ops.toList 0 (fun j => by simp) (by simp) X s a h hq
      simpa using this
    | true => exact draw_sound hT hm hok h hq (fun Y s' a' hk hat => ⟨.normal, s', Y, hk, True.intro, rfl, hat⟩) (fun Y u s' a' hk hat hp => ⟨.pan u, s', Y, hk, ⟨rfl, hp⟩, rfl, hat⟩)
  | .seq x y, hok, Q, X, s, a, h, hq => by
    simp only [okCode, Bool.and_eq_true] at hok
    simp only [awp] at hq
    cases hb : begins cuts y with
    | false =>
      simp only [hb, cond_false] at hq
      refine wp_seq (wp_mono (awp_sound hT hm x hok.1 _ X s a h hq) ?_)
      rintro e a' w' ⟨E, s', Y, hk, he, rfl, hat⟩
      cases E <;> cases e <;> first
        | exact he.elim
        | exact awp_sound hT hm y hok.2 Q Y s' a' hat hk
        | exact ⟨_, s', Y, hk, he, rfl, hat⟩
    | true =>
      simp only [hb, cond_true] at hq
      obtain ⟨J, h1, h2⟩ := hq
      refine wp_seq (wp_mono (awp_sound hT hm x hok.1 _ X s a h h1) ?_)
      rintro e a' w' ⟨E, s', Y, hk, he, rfl, hat⟩
      cases E <;> cases e <;> first
        | exact he.elim
        | exact ⟨_, s', Y, hk, he, rfl, hat⟩
        | skip
      obtain ⟨gs, is, L, H', D, hw, hj⟩ := hk
      obtain ⟨Z, hZ, hat'⟩ := Weak.at_ (n0 := H0.length) (ghosts_at gs hat) hw
      show Code.wp P y _ a' Y.w
      rw [← hZ]
      exact awp_sound hT hm y hok.2 Q Z _ a' hat' (h2 L H' D hj)
  | .cond c x y, hok, Q, X, s, a, h, hq => by
    simp only [okCode, Bool.and_eq_true] at hok
    simp only [awp] at hq
    split at hq
    · rename_i b hb
      have hv := h.st.ev c
      rw [hb, VR_bool] at hv
      cases b with
      | true => exact wp_cond_true hv (awp_sound hT hm x hok.1 Q X s a h hq)
      | false => exact wp_cond_false hv (awp_sound hT hm y hok.2 Q X s a h hq)
    · exact hq.elim
  | .block id c, hok, Q, X, s, a, h, hq => by
    refine wp_block (wp_mono (awp_sound hT hm c hok _ X s a h hq) ?_)
    rintro e a' w' ⟨E, s', Y, hk, he, rfl, hat⟩
    cases E with
    | exit i =>
      cases e with
      | exit j =>
        have : i = j := he
        subst this
        simp only [blockX] at hk
        cases hb : Nat.beq i id with
        | true =>
          simp only [hb, cond_true] at hk
          simp only [Exit.inBlock, if_pos (Nat.eq_of_beq_eq_true hb)]
          exact ⟨.normal, s', Y, hk, True.intro, rfl, hat⟩
        | false =>
          simp only [hb, cond_false] at hk
          have : i ≠ id := fun h => by subst h; simp at hb
          simp only [Exit.inBlock, if_neg this]
          exact ⟨.exit i, s', Y, hk, rfl, rfl, hat⟩
      | _ => exact he.elim
    | _ => cases e <;> first
      | exact he.elim
      | exact ⟨_, s', Y, hk, he, rfl, hat⟩
  | .loop c, hok, Q, X, s, a, h, hq => by
    obtain ⟨k, hk⟩ := hq
    refine wp_loop_rounds k ?_
    have key : ∀ (k : Nat) (X : Ctx) (s : St) (a : Act), At n X0 H0 X s a → roundsA (awp P T H0.length cuts c) H0.length Q k s → Code.rounds P c (PostR n X0 H0 Q) k a X.w := by
      intro k
      induction k with
      | zero => intro X s a _ h; exact h.elim
      | succ k ih =>
        intro X s a h hr
        obtain ⟨gs, is, L, H', D, hw, hf⟩ := hr
        obtain ⟨Y, hY, hat⟩ := WeakF.at_ (ghosts_at gs h) hw
        rw [← hY, rounds_succ]
        refine wp_mono (awp_sound hT hm c hok _ Y _ a hat hf) ?_
        rintro e a' w' ⟨E, s', Z, hk', he, rfl, hat'⟩
        cases E <;> cases e <;> first
          | exact he.elim
          | exact ih Z s' a' hat' hk'
          | exact ⟨_, s', Z, hk', he, rfl, hat'⟩
    exact key k X s a h hk
  | .rangeFunc .., _, _, _, _, _, _, hq => hq.elim
  | .scope .., _, _, _, _, _, _, hq => hq.elim
  | .goto .., _, _, _, _, _, _, hq => hq.elim
  | .refuse .., _, _, _, _, _, _, hq => hq.elim
end
end Go.Proofs.YthbncljlclcecaaDoor.A

namespace Go.Proofs.YthbncljlclcecaaDoor.A
open Go
set_option linter.unusedVariables false
set_option linter.unusedSimpArgs false

theorem HR.frozen {X : Ctx} {H H' : Heap} (h : HR X H) (hp : PreH H' H) (hb : belowH H'.length H' = true) : HR (X.frozen H H'.length) H' := by
  have h0 := h.cutTo hp hb
  have hle := Le.cut_frozen X H H'.length
  have hlive : ∀ i, live H' i → live H i := fun i hi => live_pre hp hi
  have hφ : ∀ i b, (X.frozen H H'.length).φ i = some b → i < H'.length ∧ X.φ i = some b := fun i b hb => by
    simp only [Ctx.frozen] at hb
    split at hb
    · rename_i hi; exact ⟨hi, hb⟩
    · cases hb
  refine ⟨h0.lt, fun i cs b hi hb' => (h0.row i cs b hi hb').mono hle rfl, fun i es b hi hb' => (h0.mp i es b hi hb').mono hle rfl, h0.sep, fun i b hi hb' hF => ?_, fun b hF => ?_⟩
  · obtain ⟨h1, h2⟩ := hφ i b hb'
    rcases hF with hF | ⟨j, a, h3, h4, h5, h6⟩
    · exact h.fz i b (hlive i hi) h2 hF
    · exact h.sep j i a b (by omega) h4 (hlive i hi) h5 h2 h6
  · rcases hF with hF | ⟨j, a, h3, h4, h5, rfl⟩
    · exact h.fl b hF
    · exact (h.lt j a h5).2.2
theorem Ext.frozen {X0 X : Ctx} {H0 H H' : Heap} (h : Ext X0 H0 X H) (hp : PreH H' H) : Ext X0 H0 (X.frozen H H'.length) H' := by
  refine ⟨h.size, h.keep, h.shape, fun b ⟨i, a, h1, h2, h3⟩ => h.own b ⟨i, a, live_pre hp h1, ?_, h3⟩, fun b hb => .inl (h.F b hb), fun b hb => ?_, h.os, h.tape, h.output⟩
  · simp only [Ctx.frozen] at h2
    split at h2
    · exact h2
    · cases h2
  · rcases hb with hb | ⟨j, a, h3, h4, h5, rfl⟩
    · exact h.Fn b hb
    · exact .inr (h.own _ ⟨j, a, h4, h5, rfl⟩)

/-! ### Results -/
def resV (T : Tab) (s : St) : List ResultVar → Option (List AV)
  | [] => some []
  | .tmp t :: rs => match resV T s rs with
    | some vs => some (s.fr t :: vs)
    | none => none
  | .cell a t :: rs => match T t, s.fr a with
    | some i, .ptr p off => match (bif i.d.agg then (rdN s.H p off i.size).map .agg else rd1 s.H p off), resV T s rs with
      | some v, some vs => some (v :: vs)
      | _, _ => none
    | _, _ => none
def mkR : List AV → AV
  | [v] => v
  | vs => .tup vs
/-- What stands at the end of a function. -/
def EndV (T : Tab) (rs : List ResultVar) (n0 : Nat) (s : St) (H' : Heap) (v : AV) : Prop :=
  (∃ vs, resV T s rs = some vs ∧ frz s.H H'.length 8 (mkR vs) = some v) ∧ PreH H' s.H ∧ n0 ≤ H'.length ∧ belowH H'.length H' = true
def endK (T : Tab) (rs : List ResultVar) (n0 : Nat) (R : AEnd → Heap → Prop) : AX → St → Prop
  | .normal, s => s.ds = [] ∧ ∃ H' v, EndV T rs n0 s H' v ∧ R (.ret v) H'
  | .ret, s => s.ds = [] ∧ ∃ H' v, EndV T rs n0 s H' v ∧ R (.ret v) H'
  | .pan u, s => s.ds = [] ∧ ∃ H', PreH H' s.H ∧ n0 ≤ H'.length ∧ belowH H'.length H' = true ∧ R (.pan u) H'
  | .exit _, _ => False
section
variable {P : Program} {T : Tab} {n : Nat} {X0 : Ctx} {H0 : Heap}
theorem resV_run (hT : TOk P T) {X : Ctx} {s : St} {a : Act} (h : StR n X s a) : ∀ {rs : List ResultVar} {vs : List AV}, resV T s rs = some vs →
    ∃ us : List Value, (rs.mapM (m := Sem) fun r => match r with | .tmp t => pure (a.tmps.getD t undef) | .cell b t => do loadVar t (← asAddr (a.tmps.getD b undef))).run P X.w = .ok us X.w ∧ VL X vs us
  | [], vs, he => by simp [resV] at he; subst he; exact ⟨[], by simp, by simp [VL]⟩
  | .tmp t :: rs, vs, he => by
    simp only [resV] at he
    split at he
    · rename_i ws hw
      simp only [Option.some.injEq] at he
      subst he
      obtain ⟨us, h1, h2⟩ := resV_run hT h hw
      exact ⟨a.tmps.getD t undef :: us, by simp only [List.mapM_cons, Sem.run_bind, Sem.run_pure, Result.andThen_ok, h1], by simp only [VL]; exact ⟨h.fr t, h2⟩⟩
    · cases he
  | .cell b t :: rs, vs, he => by
    simp only [resV] at he
    split at he
    · rename_i i p off hi hb
      split at he
      · rename_i v ws hv hw
        simp only [Option.some.injEq] at he
        subst he
        obtain ⟨us, h1, h2⟩ := resV_run hT h hw
        have hp := h.fr b
        rw [hb] at hp
        have key : ∃ c u, c = v ∧ (Instr.loadAt t (a.tmps.getD b undef)).run P X.w = .ok u X.w ∧ VR X c u := by
          refine load_run hT h.hr hi (a := .ptr p off) (K := fun c => c = v) ?_ hp
          cases hd : i.d.agg with
          | true =>
            simp only [hd, cond_true] at hv
            cases hq : rdN s.H p off i.size with
            | none => rw [hq] at hv; cases hv
            | some cs =>
              rw [hq] at hv
              simp only [Option.map_some, Option.some.injEq] at hv
              exact optK_intro hq hv
          | false =>
            simp only [hd, cond_false] at hv
            exact optK_intro hv rfl
        obtain ⟨c, u, rfl, h3, h4⟩ := key
        simp only [VR] at hp
        obtain ⟨ad, _, hp⟩ := hp
        rw [hp] at h3
        refine ⟨u :: us, ?_, by simp only [VL]; exact ⟨h4, h2⟩⟩
        simp only [Instr.loadAt, Instr.sureAddr, Sem.run_bind, Sem.run_pure, Result.andThen_ok] at h3
        have e1 : Sem.run P (do loadVar t (← asAddr (a.tmps.getD b undef))) X.w = .ok u X.w := by
          rw [hp]
          simp only [Sem.run_bind, asAddr, Sem.run_pure, Result.andThen_ok, h3]
        rw [List.mapM_cons, Sem.run_bind]
        change (Sem.run P (do loadVar t (← asAddr (a.tmps.getD b undef))) X.w).andThen _ = _
        rw [e1, Result.andThen_ok, Sem.run_bind, h1]
        rfl
      · cases he
    · cases he
theorem results_run (hT : TOk P T) {X : Ctx} {s : St} {a : Act} (h : StR n X s a) {fn : Func} {vs : List AV} (he : resV T s fn.results.toList = some vs) : ∃ u, (results fn a.tmps).run P X.w = .ok u X.w ∧ VR X (mkR vs) u := by
  obtain ⟨us, h1, h2⟩ := resV_run hT h he
  have hm : (fn.results.mapM (m := Sem) fun r => match r with | .tmp t => pure (a.tmps.getD t undef) | .cell b t => do loadVar t (← asAddr (a.tmps.getD b undef))).run P X.w = .ok us.toArray X.w := by
    rw [← Array.toArray_toList (xs := fn.results), List.mapM_toArray]
    simp only [Sem.run_map, h1, Result.andThen_ok]
  refine ⟨if h : us.toArray.size = 1 then us.toArray[0] else .tuple us.toArray, ?_, ?_⟩
  · have hres : (results fn a.tmps).run P X.w = ((fn.results.mapM (m := Sem) fun r => match r with | .tmp t => pure (a.tmps.getD t undef) | .cell b t => do loadVar t (← asAddr (a.tmps.getD b undef))).run P X.w).andThen fun vs w => .ok (if h : vs.size = 1 then vs[0] else .tuple vs) w := by
      unfold results
      rw [Sem.run_bind]
      rfl
    rw [hres, hm]
    rfl
  · have hlen := h2.length
    match vs, us, h2, hlen with
    | [], [], h2, _ => simp only [mkR, VR]; exact ⟨#[], by simp, h2⟩
    | [v], [u], h2, _ => simp only [VL, and_true] at h2; simpa [mkR] using h2
    | v :: w :: vs, u :: x :: us, h2, _ =>
      simp only [mkR, VR]
      refine ⟨(u :: x :: us).toArray, ?_, by simpa using h2⟩
      rw [dif_neg (by simp)]
    | [_], [], h2, hl => simp at hl
    | [], _ :: _, h2, hl => simp at hl
    | _ :: _ :: _, [], h2, hl => simp at hl
    | _ :: _ :: _, [_], h2, hl => simp at hl
    | [_], _ :: _ :: _, h2, hl => simp at hl
theorem endV_ok (hT : TOk P T) {X : Ctx} {s : St} {a : Act} (h : At n X0 H0 X s a) {fn : Func} {H' : Heap} {v : AV} (he : EndV T fn.results.toList H0.length s H' v) :
    ∃ Y u, Y.w = X.w ∧ (results fn a.tmps).run P X.w = .ok u X.w ∧ VR Y v u ∧ HR Y H' ∧ Ext X0 H0 Y H' ∧ (∀ i, i < H0.length → Y.φ i = X0.φ i) ∧ H0.length ≤ H'.length := by
  obtain ⟨⟨vs, h1, h2⟩, h3, h4, h5⟩ := he
  obtain ⟨u, h6, h7⟩ := results_run hT h.st h1
  refine ⟨X.frozen s.H H'.length, u, rfl, h6, frz_ok h.st.hr _ _ _ _ _ h2 h7, h.st.hr.frozen h3 h5, h.ext.frozen h3, fun i hi => ?_, h4⟩
  have : i < H'.length := Nat.lt_of_lt_of_le hi h4
  simp only [Ctx.frozen, if_pos this]
  exact h.φ i hi
/-- The frame that a function begins with. -/
def fr0 (args : List AV) : Fr := fun t => match nth args t with
  | some a => a
  | none => undefA
theorem At.enter {X : Ctx} {H : Heap} (hr : HR X H) {args : List AV} {as : Array Value} (hv : VL X args as.toList) (hn : args.length ≤ n) :
    At n X H X ⟨fr0 args, H, []⟩ { tmps := as ++ Array.replicate (n - as.size) undef, defers := [] } := by
  have hl := hv.length
  simp only [Array.length_toList] at hl
  refine ⟨⟨by simp; omega, fun t => ?_, True.intro, hr⟩, Ext.refl X H, fun _ _ => rfl, Nat.le_refl _⟩
  simp only [fr0]
  split
  · rename_i a ha
    rw [nth_eq] at ha
    obtain ⟨v, h1, h2⟩ := hv.get t a ha
    have hlt : t < as.size := by
      have := (List.getElem?_eq_some_iff.1 h1).1
      simpa using this
    rw [Array.getD_eq_getD_getElem?, Array.getElem?_append_left hlt]
    have h3 : as[t]? = some v := by simpa using h1
    rw [h3]
    exact h2
  · rename_i ha
    rw [nth_eq] at ha
    have hge : as.size ≤ t := by
      have := List.getElem?_eq_none_iff.1 ha
      omega
    rw [Array.getD_eq_getD_getElem?, Array.getElem?_append_right hge, Array.getElem?_replicate]
    split <;> exact VR_undef
/-- A function with a body, without deferred calls. -/
theorem acalls_of_awpC (cuts : List Nat) (hT : TOk P T) (hm : P.follows .mixedOrders = true) {g : FuncId} {fn : Func} {c : Code} (hf : P.funcs[g]? = some fn) (hb : fn.body = some c) (hnm : (fn.name == "runtime.NumGoroutine") = false) (hok : okCode fn.ntmps c = true)
    {args : List AV} {H : Heap} {R : AEnd → Heap → Prop} (hn : args.length ≤ fn.ntmps) (h : awp P T H.length cuts c (endK T fn.results.toList H.length R) ⟨fr0 args, H, []⟩) : ACalls P g args H R := by
  intro X as hr hv
  left
  refine ⟨?_, ?_⟩
  · simp only [callFunc, Sem.run_bind, run_program, Result.andThen_ok, hf, hnm, Bool.false_eq_true, if_false]
    simp [hb]
  · refine calls_of_wp hf hb ?_
    refine wp_mono (awp_sound (cuts := cuts) (n := fn.ntmps) hT hm c hok _ X _ _ (At.enter hr hv hn) h) ?_
    rintro e a w ⟨E, s, Y, hk, he, rfl, hat⟩
    have hds : s.ds = [] → a.defers = [] := fun hz => by
      have := hat.st.ds
      rw [hz] at this
      cases hq : a.defers with
      | nil => rfl
      | cons d ds => rw [hq] at this; exact this.elim
    cases E with
    | normal =>
      cases e <;> first | exact he.elim | skip
      obtain ⟨hd, H', v, h1, h2⟩ := hk
      obtain ⟨Z, u, h3, h4, h5, h6, h7, h8, h9⟩ := endV_ok hT hat h1
      exact ⟨hds hd, u, h4, .ret v, H', Z, h2, h3, h5, h6, h7, h8, h9⟩
    | ret =>
      cases e <;> first | exact he.elim | skip
      obtain ⟨hd, H', v, h1, h2⟩ := hk
      obtain ⟨Z, u, h3, h4, h5, h6, h7, h8, h9⟩ := endV_ok hT hat h1
      exact ⟨hds hd, u, h4, .ret v, H', Z, h2, h3, h5, h6, h7, h8, h9⟩
    | pan u =>
      cases e <;> first | exact he.elim | skip
      obtain ⟨hd, H', h1, h2, h3, h4⟩ := hk
      refine ⟨hds hd, .pan u, H', Y.cut H'.length, h4, rfl, he, hat.st.hr.cutTo h1 h3, ?_, fun i hi => ?_, h2⟩
      · refine ⟨hat.ext.size, hat.ext.keep, hat.ext.shape, fun b ⟨i, ad, hi, ha, hx⟩ => hat.ext.own b ⟨i, ad, live_pre h1 hi, ?_, hx⟩, hat.ext.F, hat.ext.Fn, hat.ext.os, hat.ext.tape, hat.ext.output⟩
        simp only [Ctx.cut] at ha
        split at ha
        · exact ha
        · cases ha
      · have : i < H'.length := Nat.lt_of_lt_of_le hi h2
        simp only [Ctx.cut, if_pos this]
        exact hat.φ i hi
    | exit i => exact hk.elim
/-- The same, without cuts. -/
theorem acalls_of_awp (hT : TOk P T) (hm : P.follows .mixedOrders = true) {g : FuncId} {fn : Func} {c : Code} (hf : P.funcs[g]? = some fn) (hb : fn.body = some c) (hnm : (fn.name == "runtime.NumGoroutine") = false) (hok : okCode fn.ntmps c = true)
    {args : List AV} {H : Heap} {R : AEnd → Heap → Prop} (hn : args.length ≤ fn.ntmps) (h : awp P T H.length [] c (endK T fn.results.toList H.length R) ⟨fr0 args, H, []⟩) : ACalls P g args H R :=
  acalls_of_awpC [] hT hm hf hb hnm hok hn h
/-- A type's row, out of closed facts. -/
theorem TOkAt.mk' {t : TypeId} {i : TI} (h1 : (P.info? t).map (fun ti => (ti.size, ti.bytes, ti.zero)) = some (i.size, i.bytes, some i.zero)) (h2 : (P.underlying t).map dOf = some i.d)
    (h3 : i.eqOk = true → P.stoodInHeld t = false ∧ P.eqGuardType P.depth t = false) : TOkAt P t i := by
  obtain ⟨ti, h4, h5⟩ := Option.map_eq_some_iff.1 h1
  obtain ⟨d, h6, h7⟩ := Option.map_eq_some_iff.1 h2
  simp only [Prod.mk.injEq] at h5
  exact ⟨⟨ti, h4, h5.1, h5.2.1, h5.2.2⟩, ⟨d, h6, h7⟩, h3⟩
end
end Go.Proofs.YthbncljlclcecaaDoor.A
