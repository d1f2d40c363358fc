/- Names changed. No condition. -/
import Derived.Test.YtpjjfcgmckpboaaAmD9
namespace Go.Proofs.Ytpjjfcgmckpboaa.A
open Go
set_option linter.unusedVariables false
set_option linter.unusedSimpArgs false

/-! ### Names changed -/
theorem VC.same {X Y : Ctx} (hF : Y.F = X.F) (hw : Y.w = X.w) {ad : Option Addr} : ∀ (k : Nat) (cs : List AV), VC X ad k cs → VC Y ad k cs
  | _, [], _ => by simp [VC]
  | k, c :: cs, hv => by
    have hn : Y.nof = X.nof := by unfold Ctx.nof; rw [hF, hw]
    simp only [VC] at hv ⊢
    rw [hF, hw, hn]
    exact ⟨hv.1, VC.same hF hw (k + 1) cs hv.2⟩
/-- The great name of a small one: the objects is, and behind them new ones from N on. -/
def rn (is : List Nat) (N i : Nat) : Nat :=
  match nth is i with
  | some j => j
  | none => N + (i - is.length)
mutual
def ren (r : Nat → Nat) : AV → AV
  | .ptr i off => .ptr (r i) off
  | .slc i off len sz => .slc (r i) off len sz
  | .mapr i => .mapr (r i)
  | .fn f caps => .fn f (renL r caps)
  | .agg cells => .agg (renL r cells)
  | .tup vs => .tup (renL r vs)
  | a => a
def renL (r : Nat → Nat) : List AV → List AV
  | [] => []
  | a :: as => ren r a :: renL r as
end
def renM (r : Nat → Nat) : List (Value × AV) → List (Value × AV)
  | [] => []
  | (k, v) :: es => (k, ren r v) :: renM r es
def renO (r : Nat → Nat) : AObj → AObj
  | .row cs => .row (renL r cs)
  | .mp es => .mp (renM r es)
  | .dead => .dead
def renH (r : Nat → Nat) : Heap → Heap
  | [] => []
  | o :: H => renO r o :: renH r H
def renE (r : Nat → Nat) : AEnd → AEnd
  | .ret v => .ret (ren r v)
  | .pan u => .pan u
/-- The objects is of H are those of Hs. -/
def Sel (H : Heap) (r : Nat → Nat) : List Nat → Heap → Prop
  | [], [] => True
  | j :: js, o :: os => (nth H j = some (renO r o) ∨ (o = .dead ∧ j < H.length)) ∧ Sel H r js os
  | _, _ => False
def setMany (H : Heap) : List Nat → Heap → Heap
  | j :: js, o :: os => setMany (H.set j o) js os
  | _, _ => H
def merge (H : Heap) (is : List Nat) (os : Heap) : Heap := setMany H is os ++ os.drop is.length
def noDup : List Nat → Bool
  | [] => true
  | j :: js => bif js.any (Nat.beq j) then false else noDup js

theorem renL_get (r : Nat → Nat) : ∀ (l : List AV) (k : Nat), (renL r l)[k]? = l[k]?.map (ren r)
  | [], k => by simp [renL]
  | a :: l, 0 => by simp [renL]
  | a :: l, k + 1 => by simp [renL, renL_get r l k]
theorem renH_get (r : Nat → Nat) : ∀ (l : Heap) (k : Nat), (renH r l)[k]? = l[k]?.map (renO r)
  | [], k => by simp [renH]
  | a :: l, 0 => by simp [renH]
  | a :: l, k + 1 => by simp [renH, renH_get r l k]
theorem renH_length (r : Nat → Nat) : ∀ (l : Heap), (renH r l).length = l.length
  | [] => rfl
  | _ :: l => by simp [renH, renH_length r l]
theorem renO_live (r : Nat → Nat) (o : AObj) : (renO r o).live = o.live := by cases o <;> rfl
theorem Sel.get {H : Heap} {r : Nat → Nat} : ∀ {is : List Nat} {Hs : Heap}, Sel H r is Hs → ∀ (k : Nat) (o : AObj), Hs[k]? = some o → ∃ j, is[k]? = some j ∧ j < H.length ∧ (H[j]? = some (renO r o) ∨ o = .dead)
  | [], [], _, k, o, h => by simp at h
  | [], _ :: _, h, _, _, _ => h.elim
  | _ :: _, [], h, _, _, _ => h.elim
  | j :: js, x :: os, h, 0, o, ho => by
    simp at ho
    subst ho
    rcases h.1 with h1 | ⟨h1, h2⟩
    · rw [nth_eq] at h1
      exact ⟨j, by simp, (List.getElem?_eq_some_iff.1 h1).1, .inl h1⟩
    · exact ⟨j, by simp, h2, .inr h1⟩
  | j :: js, x :: os, h, k + 1, o, ho => by
    obtain ⟨j', h1, h2⟩ := h.2.get k o (by simpa using ho)
    exact ⟨j', by simpa using h1, h2⟩
theorem Sel.length {H : Heap} {r : Nat → Nat} : ∀ {is : List Nat} {Hs : Heap}, Sel H r is Hs → is.length = Hs.length
  | [], [], _ => rfl
  | [], _ :: _, h => h.elim
  | _ :: _, [], h => h.elim
  | _ :: _, _ :: _, h => by simp [h.2.length]
theorem Sel.lt {H : Heap} {r : Nat → Nat} {is : List Nat} {Hs : Heap} (h : Sel H r is Hs) {k j : Nat} (hk : is[k]? = some j) : j < H.length ∧ k < Hs.length := by
  have hl := h.length
  have hk' := (List.getElem?_eq_some_iff.1 hk).1
  obtain ⟨j', h1, h2, _⟩ := h.get k Hs[k] (List.getElem?_eq_getElem (by omega))
  rw [hk] at h1
  cases h1
  exact ⟨h2, by omega⟩
theorem noDup_ne : ∀ {is : List Nat}, noDup is = true → ∀ (k l j : Nat), is[k]? = some j → is[l]? = some j → k = l
  | [], _, k, l, j, h, _ => by simp at h
  | x :: js, hn, k, l, j, h1, h2 => by
    cases ha : js.any (Nat.beq x) with
    | true => simp [noDup, ha] at hn
    | false =>
      simp only [noDup, ha, cond_false] at hn
      have hx : ∀ q, js[q]? ≠ some x := fun q hq => by
        have := List.mem_of_getElem? hq
        rw [List.any_eq_false] at ha
        have := ha x this
        simp at this
      cases k with
      | zero =>
        cases l with
        | zero => rfl
        | succ l =>
          simp at h1 h2
          subst h1
          exact absurd h2 (hx l)
      | succ k =>
        cases l with
        | zero =>
          simp at h1 h2
          subst h2
          exact absurd h1 (hx k)
        | succ l =>
          simp at h1 h2
          rw [noDup_ne hn k l j h1 h2]
theorem setMany_length : ∀ (H : Heap) (is : List Nat) (os : Heap), (setMany H is os).length = H.length
  | H, [], os => by simp [setMany]
  | H, _ :: _, [] => by simp [setMany]
  | H, j :: js, o :: os => by simp [setMany, setMany_length]
theorem setMany_out : ∀ (H : Heap) (is : List Nat) (os : Heap) (j : Nat), j ∉ is → (setMany H is os)[j]? = H[j]?
  | H, [], os, j, _ => by simp [setMany]
  | H, _ :: _, [], j, _ => by simp [setMany]
  | H, x :: js, o :: os, j, h => by
    simp only [List.mem_cons, not_or] at h
    simp only [setMany]
    rw [setMany_out _ _ _ _ h.2, List.getElem?_set_ne (Ne.symm h.1)]
theorem setMany_in : ∀ (H : Heap) (is : List Nat) (os : Heap), noDup is = true → is.length ≤ os.length → ∀ (k j : Nat), is[k]? = some j → j < H.length → (setMany H is os)[j]? = os[k]?
  | H, [], os, _, _, k, j, h, _ => by simp at h
  | H, _ :: _, [], _, hl, _, _, _, _ => by simp at hl
  | H, x :: js, o :: os, hn, hl, 0, j, h, hj => by
    simp at h
    subst h
    simp only [setMany]
    have : x ∉ js := fun hm => by
      obtain ⟨q, hq⟩ := List.getElem?_of_mem hm
      have := noDup_ne hn 0 (q + 1) x (by simp) (by simpa using hq)
      omega
    rw [setMany_out _ _ _ _ this, List.getElem?_set_self hj]
    simp
  | H, x :: js, o :: os, hn, hl, k + 1, j, h, hj => by
    have hn' : noDup js = true := by
      cases ha : js.any (Nat.beq x) with
      | true => simp [noDup, ha] at hn
      | false => simpa [noDup, ha] using hn
    simp only [setMany]
    rw [setMany_in _ _ _ hn' (by simpa using hl) k j (by simpa using h) (by simpa using hj)]
    simp

section
variable {X Xs Y Ys : Ctx}
mutual
/-- Names changed, the world being the same. -/
theorem VR.ren {r : Nat → Nat} (hφ : ∀ i b, X.φ (r i) = some b → Y.φ i = some b) (hF : Y.F = X.F) (hw : Y.w = X.w) : ∀ (a : AV) (v : Value), VR X (ren r a) v → VR Y a v
  | .junk, _, _ => by simp [VR]
  | .sc s, v, hv => by simpa [VR, A.ren] using hv
  | .nan k, v, hv => by simpa [VR, A.ren] using hv
  | .ptr i off, v, hv => by
    simp only [VR, A.ren] at hv ⊢
    obtain ⟨b, hb, e⟩ := hv
    exact ⟨b, hφ _ _ hb, e⟩
  | .slc i off len sz, v, hv => by
    simp only [VR, A.ren] at hv ⊢
    obtain ⟨b, o, c, cells, e, hb, h⟩ := hv
    rw [hw]
    exact ⟨b, o, c, cells, e, hφ _ _ hb, h⟩
  | .vp cells, v, hv => by
    simp only [VR, A.ren] at hv ⊢
    obtain ⟨ad, e, hs, hc⟩ := hv
    exact ⟨ad, e, hs, VC.same hF hw 0 cells hc⟩
  | .view len cells, v, hv => by
    simp only [VR, A.ren] at hv ⊢
    obtain ⟨a, c, e, hl, hn, hc⟩ := hv
    exact ⟨a, c, e, hl, hn, VC.same hF hw 0 cells hc⟩
  | .mapr i, v, hv => by
    simp only [VR, A.ren] at hv ⊢
    obtain ⟨b, hb, e⟩ := hv
    exact ⟨b, hφ _ _ hb, e⟩
  | .fn f caps, v, hv => by
    simp only [VR, A.ren] at hv ⊢
    obtain ⟨c, e, hl⟩ := hv
    exact ⟨c, e, VL.ren hφ hF hw caps _ hl⟩
  | .agg cells, v, hv => by
    simp only [VR, A.ren] at hv ⊢
    obtain ⟨c, e, hl⟩ := hv
    exact ⟨c, e, VL.ren hφ hF hw cells _ hl⟩
  | .tup vs, v, hv => by
    simp only [VR, A.ren] at hv ⊢
    obtain ⟨c, e, hl⟩ := hv
    exact ⟨c, e, VL.ren hφ hF hw vs _ hl⟩
theorem VL.ren {r : Nat → Nat} (hφ : ∀ i b, X.φ (r i) = some b → Y.φ i = some b) (hF : Y.F = X.F) (hw : Y.w = X.w) : ∀ (as : List AV) (vs : List Value), VL X (renL r as) vs → VL Y as vs
  | [], [], _ => by simp [VL]
  | [], _ :: _, hv => by simp [VL, renL] at hv
  | _ :: _, [], hv => by simp [VL, renL] at hv
  | a :: as, v :: vs, hv => by
    simp only [VL, renL] at hv ⊢
    exact ⟨VR.ren hφ hF hw a v hv.1, VL.ren hφ hF hw as vs hv.2⟩
end
mutual
theorem VR.name {r : Nat → Nat} (hφ : ∀ i b, X.φ i = some b → Y.φ (r i) = some b) (hF : Y.F = X.F) (hw : Y.w = X.w) : ∀ (a : AV) (v : Value), VR X a v → VR Y (A.ren r a) v
  | .junk, _, _ => by simp [VR, A.ren]
  | .sc s, v, hv => by simpa [VR, A.ren] using hv
  | .nan k, v, hv => by simpa [VR, A.ren] using hv
  | .ptr i off, v, hv => by
    simp only [VR, A.ren] at hv ⊢
    obtain ⟨b, hb, e⟩ := hv
    exact ⟨b, hφ _ _ hb, e⟩
  | .slc i off len sz, v, hv => by
    simp only [VR, A.ren] at hv ⊢
    obtain ⟨b, o, c, cells, e, hb, h⟩ := hv
    rw [hw]
    exact ⟨b, o, c, cells, e, hφ _ _ hb, h⟩
  | .vp cells, v, hv => by
    simp only [VR, A.ren] at hv ⊢
    obtain ⟨ad, e, hs, hc⟩ := hv
    exact ⟨ad, e, hs, VC.same hF hw 0 cells hc⟩
  | .view len cells, v, hv => by
    simp only [VR, A.ren] at hv ⊢
    obtain ⟨a, c, e, hl, hn, hc⟩ := hv
    exact ⟨a, c, e, hl, hn, VC.same hF hw 0 cells hc⟩
  | .mapr i, v, hv => by
    simp only [VR, A.ren] at hv ⊢
    obtain ⟨b, hb, e⟩ := hv
    exact ⟨b, hφ _ _ hb, e⟩
  | .fn f caps, v, hv => by
    simp only [VR, A.ren] at hv ⊢
    obtain ⟨c, e, hl⟩ := hv
    exact ⟨c, e, VL.name hφ hF hw caps _ hl⟩
  | .agg cells, v, hv => by
    simp only [VR, A.ren] at hv ⊢
    obtain ⟨c, e, hl⟩ := hv
    exact ⟨c, e, VL.name hφ hF hw cells _ hl⟩
  | .tup vs, v, hv => by
    simp only [VR, A.ren] at hv ⊢
    obtain ⟨c, e, hl⟩ := hv
    exact ⟨c, e, VL.name hφ hF hw vs _ hl⟩
theorem VL.name {r : Nat → Nat} (hφ : ∀ i b, X.φ i = some b → Y.φ (r i) = some b) (hF : Y.F = X.F) (hw : Y.w = X.w) : ∀ (as : List AV) (vs : List Value), VL X as vs → VL Y (renL r as) vs
  | [], [], _ => by simp [VL, renL]
  | [], _ :: _, hv => by simp [VL] at hv
  | _ :: _, [], hv => by simp [VL] at hv
  | a :: as, v :: vs, hv => by
    simp only [VL, renL] at hv ⊢
    exact ⟨VR.name hφ hF hw a v hv.1, VL.name hφ hF hw as vs hv.2⟩
end
theorem EntR.ren {r : Nat → Nat} (hφ : ∀ i b, X.φ (r i) = some b → Y.φ i = some b) (hF : Y.F = X.F) (hw : Y.w = X.w) : ∀ {es : List (Value × AV)} {fs : List MapEntry}, EntR X (renM r es) fs → EntR Y es fs
  | [], [], _ => by simp [EntR]
  | [], _ :: _, hv => by simp [EntR, renM] at hv
  | _ :: _, [], hv => by simp [EntR, renM] at hv
  | (k, v) :: es, e :: fs, hv => by
    simp only [EntR, renM] at hv ⊢
    exact ⟨hv.1, hv.2.1, VR.ren hφ hF hw _ _ hv.2.2.1, EntR.ren hφ hF hw hv.2.2.2⟩
theorem EntR.name {r : Nat → Nat} (hφ : ∀ i b, X.φ i = some b → Y.φ (r i) = some b) (hF : Y.F = X.F) (hw : Y.w = X.w) : ∀ {es : List (Value × AV)} {fs : List MapEntry}, EntR X es fs → EntR Y (renM r es) fs
  | [], [], _ => by simp [EntR, renM]
  | [], _ :: _, hv => by simp [EntR] at hv
  | _ :: _, [], hv => by simp [EntR] at hv
  | (k, v) :: es, e :: fs, hv => by
    simp only [EntR, renM] at hv ⊢
    exact ⟨hv.1, hv.2.1, VR.name hφ hF hw _ _ hv.2.2.1, EntR.name hφ hF hw hv.2.2.2⟩
theorem RowR.ren {r : Nat → Nat} (hφ : ∀ i b, X.φ (r i) = some b → Y.φ i = some b) (hF : Y.F = X.F) (hw : Y.w = X.w) {b : Addr} {cs : List AV} (h : RowR X b (renL r cs)) : RowR Y b cs := by
  obtain ⟨cells, e, h1, h2⟩ := h
  refine ⟨cells, e, by rw [hw]; exact h1, fun k c hc => ?_⟩
  obtain ⟨v, h3, h4⟩ := h2 k (A.ren r c) (by rw [renL_get, hc]; rfl)
  exact ⟨v, h3, VR.ren hφ hF hw _ _ h4⟩
theorem RowR.name {r : Nat → Nat} (hφ : ∀ i b, X.φ i = some b → Y.φ (r i) = some b) (hF : Y.F = X.F) (hw : Y.w = X.w) {b : Addr} {cs : List AV} (h : RowR X b cs) : RowR Y b (renL r cs) := by
  obtain ⟨cells, e, h1, h2⟩ := h
  refine ⟨cells, e, by rw [hw]; exact h1, fun k c hc => ?_⟩
  rw [renL_get] at hc
  cases hq : cs[k]? with
  | none => rw [hq] at hc; cases hc
  | some c' =>
    rw [hq] at hc
    simp only [Option.map_some, Option.some.injEq] at hc
    subst hc
    obtain ⟨v, h3, h4⟩ := h2 k c' hq
    exact ⟨v, h3, VR.name hφ hF hw _ _ h4⟩
theorem MapR.ren {r : Nat → Nat} (hφ : ∀ i b, X.φ (r i) = some b → Y.φ i = some b) (hF : Y.F = X.F) (hw : Y.w = X.w) {b : Addr} {es : List (Value × AV)} (h : MapR X b (renM r es)) : MapR Y b es := by
  obtain ⟨es', c, h1, h2⟩ := h
  exact ⟨es', c, by rw [hw]; exact h1, EntR.ren hφ hF hw h2⟩
theorem MapR.name {r : Nat → Nat} (hφ : ∀ i b, X.φ i = some b → Y.φ (r i) = some b) (hF : Y.F = X.F) (hw : Y.w = X.w) {b : Addr} {es : List (Value × AV)} (h : MapR X b es) : MapR Y b (renM r es) := by
  obtain ⟨es', c, h1, h2⟩ := h
  exact ⟨es', c, by rw [hw]; exact h1, EntR.name hφ hF hw h2⟩
end

/-- The world seen with the names of a part. -/
def Ctx.sel (X : Ctx) (is : List Nat) : Ctx := ⟨fun k => is[k]?.bind X.φ, X.F, X.w⟩
theorem sel_φ {X : Ctx} {is : List Nat} {k : Nat} {b : Addr} (hb : (X.sel is).φ k = some b) : ∃ j, is[k]? = some j ∧ X.φ j = some b := by
  have hb' : is[k]?.bind X.φ = some b := hb
  cases hq : is[k]? with
  | none => rw [hq] at hb'; cases hb'
  | some j => rw [hq] at hb'; exact ⟨j, rfl, hb'⟩
theorem rn_in {is : List Nat} {N k j : Nat} (hk : is[k]? = some j) : rn is N k = j := by simp only [rn, nth_eq, hk]
theorem rn_out {is : List Nat} {N k : Nat} (hk : is.length ≤ k) : rn is N k = N + (k - is.length) := by simp only [rn, nth_eq, List.getElem?_eq_none hk]
theorem sel_φ' {X : Ctx} {H : Heap} (hr : HR X H) {is : List Nat} {i : Nat} {b : Addr} (hb : X.φ (rn is H.length i) = some b) : (X.sel is).φ i = some b := by
  cases hq : is[i]? with
  | none =>
    have : is.length ≤ i := List.getElem?_eq_none_iff.1 hq
    rw [rn_out this] at hb
    have := (hr.lt _ _ hb).1
    omega
  | some j =>
    rw [rn_in hq] at hb
    show is[i]?.bind X.φ = some b
    rw [hq]
    exact hb
theorem sel_live {H : Heap} {r : Nat → Nat} {is : List Nat} {Hs : Heap} (hsel : Sel H r is Hs) {k : Nat} (h : live Hs k) : ∃ j, is[k]? = some j ∧ live H j := by
  obtain ⟨o, h1, h2⟩ := h
  obtain ⟨j, h3, _, h4 | rfl⟩ := hsel.get k o h1
  · exact ⟨j, h3, _, h4, by rw [renO_live]; exact h2⟩
  · cases h2
theorem HR.sel {X : Ctx} {H : Heap} (hr : HR X H) {is : List Nat} {Hs : Heap} (hsel : Sel H (rn is H.length) is Hs) (hn : noDup is = true) : HR (X.sel is) Hs := by
  refine ⟨fun k b hb => ?_, fun k cs b hk hb => ?_, fun k es b hk hb => ?_, fun k l bk bl hne hk hl hbk hbl => ?_, fun k b hk hb => ?_, hr.fl⟩
  · obtain ⟨j, h1, h2⟩ := sel_φ hb
    exact ⟨(hsel.lt h1).2, (hr.lt j b h2).2⟩
  · obtain ⟨j, h1, h2⟩ := sel_φ hb
    obtain ⟨j', h3, _, h4 | h4⟩ := hsel.get k _ hk
    · rw [h1] at h3
      cases h3
      exact RowR.ren (fun i b hb => sel_φ' hr hb) rfl rfl (hr.row j _ b h4 h2)
    · cases h4
  · obtain ⟨j, h1, h2⟩ := sel_φ hb
    obtain ⟨j', h3, _, h4 | h4⟩ := hsel.get k _ hk
    · rw [h1] at h3
      cases h3
      exact MapR.ren (fun i b hb => sel_φ' hr hb) rfl rfl (hr.mp j _ b h4 h2)
    · cases h4
  · obtain ⟨j, h1, h2⟩ := sel_φ hbk
    obtain ⟨j', h3, h4⟩ := sel_φ hbl
    obtain ⟨j1, h5, h6⟩ := sel_live hsel hk
    obtain ⟨j2, h7, h8⟩ := sel_live hsel hl
    rw [h1] at h5
    cases h5
    rw [h3] at h7
    cases h7
    exact hr.sep j j' bk bl (fun he => hne (noDup_ne hn k l j h1 (he ▸ h3))) h6 h8 h2 h4
  · obtain ⟨j, h1, h2⟩ := sel_φ hb
    obtain ⟨j1, h5, h6⟩ := sel_live hsel hk
    rw [h1] at h5
    cases h5
    exact hr.fz j b h6 h2
theorem Owned.sel {X : Ctx} {H : Heap} {r : Nat → Nat} {is : List Nat} {Hs : Heap} (hsel : Sel H r is Hs) {b : Nat} (h : Owned (X.sel is) Hs b) : ∃ j bj, j ∈ is ∧ live H j ∧ X.φ j = some bj ∧ bj.block = b := by
  obtain ⟨k, bk, h1, h2, h3⟩ := h
  obtain ⟨j, h4, h5⟩ := sel_φ h2
  obtain ⟨j1, h6, h7⟩ := sel_live hsel h1
  rw [h4] at h6
  cases h6
  exact ⟨j, bk, List.mem_of_getElem? h4, h7, h5, h3⟩
end Go.Proofs.Ytpjjfcgmckpboaa.A
