/- The law CapsNil, by the functions that it calls. No condition. -/
import Derived.Test.YtkbpddejafdmdaaCf
import Derived.Test.YtkbpddejafdmdaaAm19
namespace Go.Proofs.Ytkbpddejafdmdaa.A
open Go
set_option linter.unusedVariables false
set_option maxRecDepth 100000
set_option pp.maxSteps 1500

theorem VL_nil3 {X : Ctx} {a b d : AV} {vs : List Value} (h : VL X [a, b, nilS, d] vs) : VL X [a, b, us [], d] vs := by
  rcases vs with _ | ⟨v0, _ | ⟨v1, _ | ⟨v2, vs⟩⟩⟩
  · simp [VL] at h
  · simp [VL] at h
  · simp [VL] at h
  · simp only [VL] at h ⊢
    exact ⟨h.1, h.2.1, VR_nilView h.2.2.1, h.2.2.2⟩
theorem VL_nil4 {X : Ctx} {a b c : AV} {vs : List Value} (h : VL X [a, b, c, nilS] vs) : VL X [a, b, c, us []] vs := by
  rcases vs with _ | ⟨v0, _ | ⟨v1, _ | ⟨v2, _ | ⟨v3, vs⟩⟩⟩⟩
  · simp [VL] at h
  · simp [VL] at h
  · simp [VL] at h
  · simp [VL] at h
  · simp only [VL] at h ⊢
    exact ⟨h.1, h.2.1, h.2.2.1, VR_nilView h.2.2.2.1, h.2.2.2.2⟩
def g1 : Rg := [(1, 1), (0, 0)]
def g2 : Rg := [(1, 1), (1, 0)]
theorem wf_deed {l : List AV} (h : Wf (.strct (.cons (.int .i64) (.cons (.int .i64) (.cons (.int .i64) (.cons (.int .u64) (.cons .bool .none)))))) l) : ∃ (k w t : Int) (x : Nat) (m : Bool), AV.agg l = deed k w t x m ∧ x < 18446744073709551616 := by
  obtain ⟨x1, y1, rfl, ⟨k, rfl, _⟩, x2, y2, rfl, ⟨w, rfl, _⟩, x3, y3, rfl, ⟨t, rfl, _⟩, x4, y4, rfl, hx, x5, y5, rfl, ⟨m, rfl⟩, rfl⟩ := h
  obtain ⟨x, rfl, hxx⟩ := wf_nat hx
  exact ⟨k, w, t, x, m, rfl, hxx⟩
end Go.Proofs.Ytkbpddejafdmdaa.A

namespace Go.Proofs.Ytkbpddejafdmdaa.A
open Go
set_option linter.unusedVariables false
set_option maxRecDepth 100000
set_option pp.maxSteps 1500

theorem hasS_or {p b x : Nat} (h : hasS p x = true) : hasS (p ||| b) x = true := by
  unfold hasS at h ⊢
  have h : ¬ p &&& bitS x = 0 := by simpa using h
  have : ¬ (p ||| b) &&& bitS x = 0 := fun hz => by
    refine h ?_
    apply Nat.eq_of_testBit_eq
    intro i
    have := congrArg (fun n => n.testBit i) hz
    simp only [Nat.testBit_and, Nat.testBit_or, Nat.zero_testBit] at this ⊢
    cases h1 : p.testBit i
    · simp
    · rw [h1] at this
      simpa using this
  simp [this]
theorem maskOf_set (g : Rg) (who : Int) (m : Bool) (x : Nat) (v : Int) (c : Bool) : maskOf (setR g who m x) v c = maskOf g v c ∨ ∃ b, maskOf (setR g who m x) v c = maskOf g v c ||| b := by
  unfold setR
  split
  · rename_i r hr
    by_cases hv : v.toNat = who.toNat
    · unfold maskOf
      rw [hv, List.getElem?_set_self (List.getElem?_eq_some_iff.1 hr).1, hr]
      cases m <;> cases c
      · exact .inr ⟨_, rfl⟩
      · exact .inl rfl
      · exact .inl rfl
      · exact .inr ⟨_, rfl⟩
    · left
      unfold maskOf
      rw [List.getElem?_set_ne (fun h => hv h.symm)]
  · exact .inl rfl
theorem has_set {g : Rg} {who v : Int} {m c : Bool} {x y : Nat} (h : hasS (maskOf g v c) y = true) : hasS (maskOf (setR g who m x) v c) y = true := by
  rcases maskOf_set g who m x v c with h1 | ⟨b, h1⟩
  · rw [h1]; exact h
  · rw [h1]; exact hasS_or h
theorem has_do {tags : Nat} {g : Rg} {e k w t v : Int} {m c : Bool} {x y : Nat} (h : hasS (maskOf g v c) y = true) : hasS (maskOf (doG tags g e k w t x m) v c) y = true := by
  unfold doG
  split
  · split
    · exact has_set h
    · exact has_set (has_set h)
  · exact h
theorem doG_len (tags : Nat) (g : Rg) (e k w t : Int) (x : Nat) (m : Bool) : (doG tags g e k w t x m).length = g.length := by
  unfold doG
  split
  · split
    · exact setR_len _ _ _ _
    · rw [setR_len, setR_len]
  · rfl
theorem doG_ok {g : Rg} (h : RgOk g) (tags : Nat) (e k w t : Int) (x : Nat) (m : Bool) : RgOk (doG tags g e k w t x m) := by
  unfold doG
  split
  · split
    · exact setR_ok h _ _ _
    · exact setR_ok (setR_ok h _ _ _) _ _ _
  · exact h
theorem clear_do {tags : Nat} {g : Rg} {e k w t who : Int} {m : Bool} {x : Nat} {a l : List Nat} (h : clearT g who a l = true) : clearT (doG tags g e k w t x m) who a l = true := by
  unfold clearT at h ⊢
  simp only [Bool.and_eq_true, Bool.not_eq_true'] at h ⊢
  refine ⟨?_, ?_⟩
  · have h1 := of_decide_eq_true h.1
    unfold oneT
    rw [doG_len]
    exact decide_eq_true h1
  · rw [List.any_eq_false] at h ⊢
    intro y hy
    have := h.2 y hy
    unfold bad at this ⊢
    simp only [Bool.and_eq_true, Bool.not_eq_true', not_and, Bool.not_eq_false] at this ⊢
    intro hn
    refine this ?_
    cases hq : hasS (maskOf g who false) y
    · rfl
    · rw [has_do hq] at hn
      cases hn
theorem clear_more {g : Rg} {who : Int} {a b l : List Nat} (h : clearT g who a l = true) : clearT g who (a ++ b) l = true := by
  unfold clearT at h ⊢
  simp only [Bool.and_eq_true, Bool.not_eq_true'] at h ⊢
  refine ⟨h.1, ?_⟩
  rw [List.any_eq_false] at h ⊢
  intro y hy
  have := h.2 y hy
  unfold bad at this ⊢
  simp only [Bool.and_eq_true, Bool.not_eq_true', not_and, Bool.not_eq_false, decide_eq_true_eq, decide_eq_false_iff_not, Classical.not_not] at this ⊢
  intro hn
  exact List.mem_append_left _ (this hn)
theorem doA_ok (tags : Nat) (g : Rg) (k w t : Int) (x : Nat) (m : Bool) (hg : RgOk g) (ht : tags < 1000000) (hx : x < 18446744073709551616) :
    ∃ e : Int, ACalls Try.prog 24 [.ptr 1 0, deed k w t x m] (tabH tags g) (RetH (.tup [u64 (doN tags e k x), i64 e]) (tabH (doTags tags e k) (doG tags g e k w t x m))) := by
  cases m
  · exact ⟨_, do_false tags g k w t x _ rfl hg ht hx⟩
  · exact ⟨_, do_true tags g k w t x _ rfl hg ht hx⟩
end Go.Proofs.Ytkbpddejafdmdaa.A

namespace Go.Proofs.Ytkbpddejafdmdaa.A
open Go
set_option linter.unusedVariables false
set_option maxRecDepth 100000
set_option pp.maxSteps 1500

structure Dd where
  k : Int
  w : Int
  t : Int
  x : Nat
  m : Bool
def ddC (d : Dd) : List AV := [i64 d.k, i64 d.w, i64 d.t, u64 d.x, bo d.m]
def ddsC (L : List Dd) : List AV := (L.map ddC).flatten
theorem ddsC_drop : ∀ (L : List Dd) (k : Nat) (r : Dd), L[k]? = some r → (ddsC L).drop (k * 5) = ddC r ++ ddsC (L.drop (k + 1))
  | [], k, r, h => by simp at h
  | x :: L, 0, r, h => by
    simp at h
    subst h
    rfl
  | x :: L, k + 1, r, h => by
    have := ddsC_drop L k r (by simpa using h)
    show (ddC x ++ ddsC L).drop ((k + 1) * 5) = _
    rw [show (k + 1) * 5 = (ddC x).length + k * 5 by show _ = 5 + k * 5; omega, ← List.drop_drop, List.drop_left, this]
    rfl
theorem dd_take {L : List Dd} {k : Nat} {r : Dd} (h : L[k]? = some r) : takeN ((ddsC L).drop ((k : Int).toNat * 5)) 5 = some (ddC r) := by
  rw [Int.toNat_natCast, ddsC_drop L k r h, takeN_eq (by rw [List.length_append]; show 5 ≤ 5 + _; omega)]
  rw [List.take_append_of_le_length (by show 5 ≤ 5; omega)]
  rfl
theorem noView_rg : ∀ l : Rg, noViewL (rgC l) = true
  | [] => rfl
  | x :: l => by
    show (bif noView (u64 x.1) then (bif noView (u64 x.2) then noViewL (rgC l) else false) else false) = true
    rw [noView_rg l]
    rfl
/-- How far, the tags, the rights, and whether it was clear. -/
def MoreSt (n : Nat) (who : Int) (a o : List Nat) : Type := { z : Nat × Nat × Rg × Bool // z.1 ≤ 121 ∧ z.2.1 ≤ z.1 ∧ RgOk z.2.2.1 ∧ (z.2.2.2 = true → clearT z.2.2.1 who a o = true) }
theorem doTags_le {tags : Nat} {e k : Int} : doTags tags e k ≤ tags + 1 := by
  unfold doTags
  split <;> omega
theorem wf_deeds {l : List AV} (h : Wf (.slice (.strct (.cons (.int .i64) (.cons (.int .i64) (.cons (.int .i64) (.cons (.int .u64) (.cons .bool .none))))))) l) : ∃ L : List Dd, l = [.view L.length (ddsC L)] ∧ (∀ d ∈ L, d.x < 18446744073709551616) ∧ L.length ≤ 9223372036854775807 := by
  obtain ⟨rows, rfl, hlen, hr⟩ := h
  have one : ∀ x : List AV, Wf (.strct (.cons (.int .i64) (.cons (.int .i64) (.cons (.int .i64) (.cons (.int .u64) (.cons .bool .none)))))) x → ∃ d : Dd, x = ddC d ∧ d.x < 18446744073709551616 := by
    intro x hx
    obtain ⟨x1, y1, rfl, ⟨k, rfl, _⟩, x2, y2, rfl, ⟨w, rfl, _⟩, x3, y3, rfl, ⟨t, rfl, _⟩, x4, y4, rfl, hx, x5, y5, rfl, ⟨m, rfl⟩, rfl⟩ := hx
    obtain ⟨x, rfl, hxx⟩ := wf_nat hx
    exact ⟨⟨k, w, t, x, m⟩, rfl, hxx⟩
  have key : ∀ rows : List (List AV), (∀ r ∈ rows, Wf (.strct (.cons (.int .i64) (.cons (.int .i64) (.cons (.int .i64) (.cons (.int .u64) (.cons .bool .none)))))) r) → ∃ L : List Dd, L.length = rows.length ∧ rows.flatten = ddsC L ∧ ∀ d ∈ L, d.x < 18446744073709551616 := by
    intro rows
    induction rows with
    | nil => intro _; exact ⟨[], rfl, rfl, by simp⟩
    | cons r rows ih =>
      intro hr
      obtain ⟨m, h1, h2, h3⟩ := ih fun x hx => hr x (List.mem_cons_of_mem _ hx)
      obtain ⟨x, rfl, hx⟩ := one r (hr r (List.mem_cons_self ..))
      refine ⟨x :: m, by simp [h1], by rw [List.flatten_cons, h2]; rfl, ?_⟩
      intro y hy
      rcases List.mem_cons.1 hy with rfl | hy
      · exact hx
      · exact h3 y hy
  obtain ⟨m, h1, h2, h3⟩ := key rows hr
  exact ⟨m, by rw [h1, h2], h3, by omega⟩
end Go.Proofs.Ytkbpddejafdmdaa.A

namespace Go.Proofs.Ytkbpddejafdmdaa.A
open Go
set_option linter.unusedVariables false
set_option maxRecDepth 100000
set_option pp.maxSteps 1500

theorem tags_ok (tags : Nat) (g : Rg) : ACalls Try.prog 29 [.ptr 1 0] (tabH tags g) (RetH (i64 tags) (tabH tags g)) := by
  refine acalls_of_awp hT mixed Try.func29 rfl (by kernel_rfl) (by kernel_rfl) (Nat.le_of_ble_eq_true rfl) ?_
  refine endH rfl rfl rfl ⟨.inl rfl, .inl rfl, True.intro⟩ (Nat.le_refl 2) (belowH_tab tags g) rfl
theorem people_ok (tags : Nat) (g : Rg) : ACalls Try.prog 28 [.ptr 1 0] (tabH tags g) (RetH (i64 g.length) (tabH tags g)) := by
  refine acalls_of_awp hT mixed Try.func28 rfl (by kernel_rfl) (by kernel_rfl) (Nat.le_of_ble_eq_true rfl) ?_
  refine endH rfl rfl rfl ⟨.inl rfl, .inl rfl, True.intro⟩ (Nat.le_refl 2) (belowH_tab tags g) rfl
def plusL (g : Rg) : List Nat := g.map (·.1)
def minusL (g : Rg) : List Nat := g.map (·.2)
theorem rg_rdN {g : Rg} {k : Nat} {r : Nat × Nat} {G : Heap} (h : g[k]? = some r) : rdN (.row (rgC g) :: G) 0 (0 + (k : Int).toNat * 2) 2 = some [u64 r.1, u64 r.2] := by
  have hl := rgC_len g
  have hk := (List.getElem?_eq_some_iff.1 h).1
  rw [rdN_eq (cs := rgC g) rfl (by rw [hl, Int.toNat_natCast]; omega), Int.toNat_natCast, Nat.zero_add]
  obtain ⟨h1, h2⟩ := rgC_get g k r h
  congr 1
  apply List.ext_getElem?
  intro i
  rw [List.getElem?_take]
  match i with
  | 0 => simp [List.getElem?_drop, h1]
  | 1 => simp [List.getElem?_drop, h2]
  | i + 2 => rw [if_neg (by omega)]; rfl
theorem take_snocP {l : Rg} {i : Nat} {x : Nat × Nat} (h : l[i]? = some x) : l.take (i + 1) = l.take i ++ [x] := by
  obtain ⟨hi, rfl⟩ := List.getElem?_eq_some_iff.1 h
  exact List.take_succ_eq_append_getElem hi
def MaskSt (g : Rg) : Type := { x : Nat × List Nat × List Nat // x.1 ≤ g.length ∧ x.2.1 = plusL (g.take x.1) ∧ x.2.2 = minusL (g.take x.1) }
theorem masks_ok (tags : Nat) (g : Rg) (hg : 1 ≤ g.length) (hg8 : g.length ≤ 8) : ACalls Try.prog 48 [.ptr 1 0] (tabH tags g) (RetH (.tup [us (plusL g), us (minusL g)]) (tabH tags g)) := by
  have hrn : ∀ (f : Nat → Nat), renO f (.row (rgC g)) = .row (rgC g) := fun f => renO_rg f g
  refine acalls_of_awp hT mixed Try.func48 rfl (by kernel_rfl) (by kernel_rfl) (Nat.le_of_ble_eq_true rfl) ?_
  refine loopI (α := MaskSt g) (fun x => [(4, match x.val.1 with | 0 => AV.sc (.slice none 0 0) | k + 1 => .slc 2 0 (k + 1) 1), (5, match x.val.1 with | 0 => AV.sc (.slice none 0 0) | k + 1 => .slc 3 0 (k + 1) 1), (13, .slc 0 0 g.length 2), (14, i64 g.length), (15, i64 (x.val.1 : Nat))])
    (fun x => match x.val.1 with | 0 => tabH tags g | k + 1 => [.row (rgC g), tabO tags g, .row (x.val.2.1.map u64n), .row (x.val.2.2.map u64n)]) (fun x => g.length - x.val.1)
    ⟨(0, [], []), Nat.zero_le _, rfl, rfl⟩ [0, 1] ⟨⟨rfl, rfl, rfl, rfl, rfl, True.intro⟩, ⟨.inl (by rw [hrn]; rfl), .inl rfl, True.intro⟩, rfl, rfl, rfl⟩ ?_
  intro x K hK
  obtain ⟨⟨k, p, m⟩, hst⟩ := x
  replace hst : k ≤ g.length ∧ p = plusL (g.take k) ∧ m = minusL (g.take k) := hst
  have hinc : wrp .i64 ((k : Int) + 1) = ((k + 1 : Nat) : Int) := by rw [wrpE, wi64]; omega
  have hpl : p.length = k := by rw [hst.2.1, plusL, List.length_map, List.length_take]; omega
  have hml : m.length = k := by rw [hst.2.2, minusL, List.length_map, List.length_take]; omega
  have hnext : ∀ r, g[k]? = some r → k + 1 ≤ g.length ∧ p ++ [r.1] = plusL (g.take (k + 1)) ∧ m ++ [r.2] = minusL (g.take (k + 1)) := fun r hr => by
    rw [take_snocP hr, plusL, minusL, List.map_append, List.map_append, hst.2.1, hst.2.2]
    exact ⟨(List.getElem?_eq_some_iff.1 hr).1, rfl, rfl⟩
  cases k with
  | zero =>
    obtain rfl : p = [] := List.eq_nil_of_length_eq_zero hpl
    obtain rfl : m = [] := List.eq_nil_of_length_eq_zero hml
    refine forkD (fun h => ?_) (fun h => ?_)
    · obtain ⟨r, hr⟩ : ∃ r, g[0]? = some r := ⟨_, List.getElem?_eq_getElem (by omega)⟩
      refine Ob.intro (show (0 : Int) ≤ ((0 : Nat) : Int) ∧ (((0 : Nat) : Int)) < (g.length : Nat) by omega) ?_
      refine optK_intro (rg_rdN hr) ?_
      refine Ob.intro rfl ?_
      refine Ob.intro (show 1 * 8 ≤ 140737488355328 ∧ 1 ≤ 9223372036854775807 by decide) ?_
      refine Ob.intro rfl ?_
      refine Ob.intro (show 1 * 8 ≤ 140737488355328 ∧ 1 ≤ 9223372036854775807 by decide) ?_
      refine hK ⟨(1, [] ++ [r.1], [] ++ [r.2]), hnext r hr⟩ [0, 1, 4, 6] _ (show g.length - 0 = g.length - 1 + 1 by omega) ⟨⟨rfl, rfl, rfl, rfl, congrArg i64 hinc, True.intro⟩, ⟨.inl (by rw [hrn]; rfl), .inl rfl, .inl rfl, .inl rfl, True.intro⟩, rfl, rfl, rfl⟩
    · exfalso
      have h : ¬ ((0 : Nat) : Int) < (g.length : Int) := h
      omega
  | succ k =>
    refine forkD (fun h => ?_) (fun h => ?_)
    · have h1 : k + 1 < g.length := by have : ((k + 1 : Nat) : Int) < (g.length : Int) := h; omega
      obtain ⟨r, hr⟩ : ∃ r, g[k + 1]? = some r := ⟨_, List.getElem?_eq_getElem h1⟩
      refine Ob.intro (show (0 : Int) ≤ ((k + 1 : Nat) : Int) ∧ ((k + 1 : Nat) : Int) < (g.length : Nat) by omega) ?_
      refine optK_intro (rg_rdN hr) ?_
      refine Ob.intro rfl ?_
      refine optK_intro (rdN_all (cs := p.map u64n) rfl (show (k + 1) * 1 = (p.map u64n).length by rw [List.length_map]; omega)) ?_
      refine Ob.intro (show (k + 1 + 1) * 8 ≤ 140737488355328 ∧ k + 1 + 1 ≤ 9223372036854775807 by omega) ?_
      refine Ob.intro rfl ?_
      refine optK_intro (rdN_all (cs := m.map u64n) rfl (show (k + 1) * 1 = (m.map u64n).length by rw [List.length_map]; omega)) ?_
      refine Ob.intro (show (k + 1 + 1) * 8 ≤ 140737488355328 ∧ k + 1 + 1 ≤ 9223372036854775807 by omega) ?_
      refine hK ⟨(k + 1 + 1, p ++ [r.1], m ++ [r.2]), hnext r hr⟩ [0, 1, 6, 8] _ (show g.length - (k + 1) = g.length - (k + 1 + 1) + 1 by omega) ⟨⟨rfl, rfl, rfl, rfl, congrArg i64 hinc, True.intro⟩, ⟨.inl (by rw [hrn]; rfl), .inl rfl, .inl (by rw [renO_us, List.map_append]; rfl), .inl (by rw [renO_us, List.map_append]; rfl), True.intro⟩, rfl, rfl, rfl⟩
    · have h' : k + 1 = g.length := by have : ¬ ((k + 1 : Nat) : Int) < (g.length : Int) := h; have := hst.1; omega
      obtain ⟨_, h2, h3⟩ := hst
      rw [h', List.take_length] at h2 h3
      have a1 := frz_us2 (H := [.row (rgC g), tabO tags g, .row (p.map u64n), .row (m.map u64n)]) (i := 2) (n := k + 1) (l := p) rfl hpl.symm rfl 5
      have a2 := frz_us2 (H := [.row (rgC g), tabO tags g, .row (p.map u64n), .row (m.map u64n)]) (i := 3) (n := k + 1) (l := m) rfl hml.symm rfl 5
      have a3 : frz [.row (rgC g), tabO tags g, .row (p.map u64n), .row (m.map u64n)] (tabH tags g).length 8 (mkR [.slc 2 0 (k + 1) 1, .slc 3 0 (k + 1) 1]) = some (.tup [us p, us m]) := by
        show (match mapO (frz [.row (rgC g), tabO tags g, .row (p.map u64n), .row (m.map u64n)] 2 7) [.slc 2 0 (k + 1) 1, .slc 3 0 (k + 1) 1] with | some ds => some (AV.tup ds) | none => none) = _
        simp only [mapO, a1, a2]
      rw [← h2, ← h3]
      refine endH rfl rfl a3 ⟨.inl rfl, .inl rfl, True.intro⟩ (Nat.le_refl 2) (belowH_tab tags g) rfl
end Go.Proofs.Ytkbpddejafdmdaa.A

namespace Go.Proofs.Ytkbpddejafdmdaa.A
open Go
set_option linter.unusedVariables false
set_option maxRecDepth 100000
set_option pp.maxSteps 1500

/-- What is in the one, and not in the other. -/
def andN (a b : Nat) : Nat := (BitVec.ofNat 64 a &&& ~~~BitVec.ofNat 64 b).toNat
theorem andN_lt (a b : Nat) : andN a b < 18446744073709551616 := (BitVec.ofNat 64 a &&& ~~~BitVec.ofNat 64 b).isLt
theorem andN64 {a b : Nat} : wrp .u64 ((BitVec.ofInt IntKind.u64.bits (a : Int) &&& ~~~BitVec.ofInt IntKind.u64.bits (b : Int)).toNat : Int) = ((andN a b : Nat) : Int) := by
  have e : (BitVec.ofInt IntKind.u64.bits (a : Int) &&& ~~~BitVec.ofInt IntKind.u64.bits (b : Int)).toNat = andN a b := by
    show (BitVec.ofInt 64 (a : Int) &&& ~~~BitVec.ofInt 64 (b : Int)).toNat = _
    rw [BitVec.ofInt_natCast, BitVec.ofInt_natCast]
    rfl
  have hlt := andN_lt a b
  rw [e, wrpE, wu64]
  omega
theorem andN_bit {a b : Nat} (ha : a < 18446744073709551616) (i : Nat) : (andN a b).testBit i = (a.testBit i && !b.testBit i) := by
  unfold andN
  rw [BitVec.testBit_toNat]
  simp only [BitVec.getLsbD_and, BitVec.getLsbD_not, BitVec.getLsbD_ofNat]
  by_cases hi : i < 64
  · simp [hi]
  · have : a.testBit i = false := Nat.testBit_lt_two_pow (Nat.lt_of_lt_of_le (show a < 2 ^ 64 from ha) (Nat.pow_le_pow_right (by decide) (by omega)))
    simp [hi, this]
theorem andN_or {a b : Nat} (ha : a < 18446744073709551616) : andN a (a ||| b) = 0 := by
  refine Nat.eq_of_testBit_eq fun i => ?_
  rw [andN_bit ha, Nat.testBit_or, Nat.zero_testBit]
  cases a.testBit i <;> simp
theorem andN_self {a : Nat} (ha : a < 18446744073709551616) : andN a a = 0 := by
  refine Nat.eq_of_testBit_eq fun i => ?_
  rw [andN_bit ha, Nat.zero_testBit]
  cases a.testBit i <;> simp
theorem bitS_two {x : Nat} (h : ¬ (x < 1 ∨ 16 < x)) : bitS x = 2 ^ (x - 1) := if_neg h
/-- Of one bit nothing, or all. -/
theorem one_bit {f k : Nat} (h : ∀ i, f.testBit i = true → i = k) (h0 : f ≠ 0) : f = 2 ^ k := by
  obtain ⟨i, hi⟩ := Nat.exists_testBit_of_ne_zero h0
  have := h i hi
  subst this
  refine Nat.eq_of_testBit_eq fun j => ?_
  rw [Nat.testBit_two_pow]
  by_cases hj : i = j
  · subst hj
    simp [hi]
  · cases hq : f.testBit j
    · simp [hj]
    · exact absurd (h j hq).symm hj
/-- What each round tells of somebody. -/
structure Came (tags : Nat) (e k w t : Int) (x : Nat) (m : Bool) (pl ml pl' ml' : List Nat) (who : Nat) (p c p' c' : Nat) : Prop where
  gp : pl[who]? = some p
  gc : ml[who]? = some c
  gp' : pl'[who]? = some p'
  gc' : ml'[who]? = some c'
  lp : p < 18446744073709551616
  lc : c < 18446744073709551616
  lp' : p' < 18446744073709551616
  lc' : c' < 18446744073709551616
  keepP : andN p p' = 0
  keepC : andN c c' = 0
  new : andN p' p ||| andN c' c ≠ 0 → e = 0 ∧ ((k = 1 ∧ (who : Int) = w ∧ tags < 16 ∧ andN p' p ||| andN c' c = 2 ^ tags) ∨
    (k = 2 ∧ (who : Int) = t ∧ 1 ≤ x ∧ x ≤ 16 ∧ andN p' p ||| andN c' c = 2 ^ (x - 1) ∧ 0 ≤ w ∧ w < pl.length ∧ w < ml.length ∧
      ∃ a b, pl[w.toNat]? = some a ∧ ml[w.toNat]? = some b ∧ a < 18446744073709551616 ∧ b < 18446744073709551616 ∧ ((if m = true then b else a) &&& 2 ^ (x - 1) ≠ 0)))
theorem setR_get {g : Rg} {who : Int} {m : Bool} {x k : Nat} {r : Nat × Nat} (h : g[k]? = some r) : (setR g who m x)[k]? = some (if k = who.toNat then (if m = true then (r.1, r.2 ||| bitS x) else (r.1 ||| bitS x, r.2)) else r) := by
  unfold setR
  split
  · rename_i q hq
    by_cases hk : k = who.toNat
    · subst hk
      rw [h] at hq
      cases hq
      rw [if_pos rfl, List.getElem?_set_self (List.getElem?_eq_some_iff.1 h).1]
    · rw [if_neg hk, List.getElem?_set_ne (fun hh => hk hh.symm)]
      exact h
  · rename_i hq
    by_cases hk : k = who.toNat
    · subst hk
      rw [h] at hq
      cases hq
    · rw [if_neg hk]
      exact h
theorem came_same {tags : Nat} {e k w t : Int} {x : Nat} {m : Bool} {g : Rg} (hg : RgOk g) {who : Nat} {r : Nat × Nat} (hr : g[who]? = some r) :
    Came tags e k w t x m (plusL g) (minusL g) (plusL g) (minusL g) who r.1 r.2 r.1 r.2 := by
  have hb := hg.2 r (List.mem_of_getElem? hr)
  have h1 : (plusL g)[who]? = some r.1 := by rw [plusL, List.getElem?_map, hr]; rfl
  have h2 : (minusL g)[who]? = some r.2 := by rw [minusL, List.getElem?_map, hr]; rfl
  refine ⟨h1, h2, h1, h2, hb.1, hb.2, hb.1, hb.2, andN_self hb.1, andN_self hb.2, fun hh => ?_⟩
  rw [andN_self hb.1, andN_self hb.2] at hh
  exact absurd rfl hh
theorem came {tags : Nat} {e k w t : Int} {x : Nat} {m : Bool} {g : Rg} (hg : RgOk g) (he : checkE tags g k w t x m = e) {who : Nat} (hw : who < g.length) :
    ∃ p c p' c', Came tags e k w t x m (plusL g) (minusL g) (plusL (doG tags g e k w t x m)) (minusL (doG tags g e k w t x m)) who p c p' c' := by
  obtain ⟨r, hr⟩ : ∃ r, g[who]? = some r := ⟨_, List.getElem?_eq_getElem hw⟩
  have hb := hg.2 r (List.mem_of_getElem? hr)
  have get1 : ∀ {G : Rg} {j : Nat} {q : Nat × Nat}, G[j]? = some q → (plusL G)[j]? = some q.1 := fun h => by rw [plusL, List.getElem?_map, h]; rfl
  have get2 : ∀ {G : Rg} {j : Nat} {q : Nat × Nat}, G[j]? = some q → (minusL G)[j]? = some q.2 := fun h => by rw [minusL, List.getElem?_map, h]; rfl
  by_cases h0 : e = 0
  · rw [h0] at he
    rcases check_zero he with ⟨hk, ht, hx, hm, how, htag⟩ | ⟨hk, how, hot, hx1, hx2, hhas, hno⟩
    · -- a tag is made
      have how := of_decide_eq_true how
      have hG : doG tags g e k w t x m = setR (setR g w false (tags + 1)) w true (tags + 1) := by
        unfold doG
        rw [if_pos h0, if_neg (by omega)]
      have hbit : bitS (tags + 1) = 2 ^ tags := by rw [bitS_two (by omega), Nat.add_sub_cancel]
      have hlt : 2 ^ tags < 18446744073709551616 := by rw [← hbit]; exact bitS_lt _
      have g1 := setR_get (who := w) (m := false) (x := tags + 1) hr
      have g2 := setR_get (who := w) (m := true) (x := tags + 1) g1
      rw [← hG, hbit] at g2
      by_cases hwho : who = w.toNat
      · rw [if_pos hwho, if_pos hwho] at g2
        simp only [if_true, Bool.false_eq_true, if_false] at g2
        have l1 : r.1 ||| 2 ^ tags < 2 ^ 64 := Nat.or_lt_two_pow hb.1 hlt
        have l2 : r.2 ||| 2 ^ tags < 2 ^ 64 := Nat.or_lt_two_pow hb.2 hlt
        refine ⟨_, _, _, _, get1 hr, get2 hr, get1 g2, get2 g2, hb.1, hb.2, l1, l2, andN_or hb.1, andN_or hb.2, fun hne => ⟨h0, .inl ⟨hk, by omega, htag, one_bit (fun i hi => ?_) hne⟩⟩⟩
        rw [Nat.testBit_or, andN_bit l1, andN_bit l2, Nat.testBit_or, Nat.testBit_or, Nat.testBit_two_pow] at hi
        by_cases hj : tags = i
        · exact hj.symm
        · rw [decide_eq_false hj] at hi
          cases r.1.testBit i <;> cases r.2.testBit i <;> simp at hi
      · rw [if_neg hwho, if_neg hwho] at g2
        refine ⟨_, _, _, _, get1 hr, get2 hr, get1 g2, get2 g2, hb.1, hb.2, hb.1, hb.2, andN_self hb.1, andN_self hb.2, fun hh => ?_⟩
        rw [andN_self hb.1, andN_self hb.2] at hh
        exact absurd rfl hh
    · -- a tag is given
      have how := of_decide_eq_true how
      have hot := of_decide_eq_true hot
      have hG : doG tags g e k w t x m = setR g t m x := by
        unfold doG
        rw [if_pos h0, if_pos hk]
      have hx16 : ¬ (x < 1 ∨ 16 < x) := fun hh => by
        unfold hasR hasS bitS at hhas
        rw [if_pos hh, Nat.and_zero] at hhas
        cases hhas
      have hbit : bitS x = 2 ^ (x - 1) := bitS_two hx16
      have hlt : 2 ^ (x - 1) < 18446744073709551616 := by rw [← hbit]; exact bitS_lt _
      have g1 := setR_get (who := t) (m := m) (x := x) hr
      rw [← hG, hbit] at g1
      obtain ⟨q, hq⟩ : ∃ q, g[w.toNat]? = some q := ⟨_, List.getElem?_eq_getElem (by omega)⟩
      have hqb := hg.2 q (List.mem_of_getElem? hq)
      have hhas2 : (if m = true then q.2 else q.1) &&& 2 ^ (x - 1) ≠ 0 := by
        have h3 := hhas
        unfold hasR hasS maskOf at h3
        rw [hq, hbit] at h3
        exact fun hz => by
          have h4 : decide ((if m = true then q.2 else q.1) &&& 2 ^ (x - 1) = 0) = true := decide_eq_true hz
          have h5 : (!decide ((if m = true then q.2 else q.1) &&& 2 ^ (x - 1) = 0)) = true := h3
          rw [h4] at h5
          cases h5
      have fin : ∀ {z : Nat}, who = t.toNat → (∀ i, z.testBit i = true → i = x - 1) → z ≠ 0 → e = 0 ∧ ((k = 1 ∧ (who : Int) = w ∧ tags < 16 ∧ z = 2 ^ tags) ∨
          (k = 2 ∧ (who : Int) = t ∧ 1 ≤ x ∧ x ≤ 16 ∧ z = 2 ^ (x - 1) ∧ 0 ≤ w ∧ w < (plusL g).length ∧ w < (minusL g).length ∧
          ∃ a b, (plusL g)[w.toNat]? = some a ∧ (minusL g)[w.toNat]? = some b ∧ a < 18446744073709551616 ∧ b < 18446744073709551616 ∧ ((if m = true then b else a) &&& 2 ^ (x - 1) ≠ 0))) := fun hwho hz hne =>
        ⟨h0, .inr ⟨hk, by omega, by omega, by omega, one_bit hz hne, how.1, by unfold plusL; rw [List.length_map]; exact how.2, by unfold minusL; rw [List.length_map]; exact how.2, q.1, q.2, get1 hq, get2 hq, hqb.1, hqb.2, hhas2⟩⟩
      by_cases hwho : who = t.toNat
      · rw [if_pos hwho] at g1
        have l1 : r.1 ||| 2 ^ (x - 1) < 2 ^ 64 := Nat.or_lt_two_pow hb.1 hlt
        have l2 : r.2 ||| 2 ^ (x - 1) < 2 ^ 64 := Nat.or_lt_two_pow hb.2 hlt
        cases m with
        | true =>
          rw [if_pos rfl] at g1
          refine ⟨_, _, _, _, get1 hr, get2 hr, get1 g1, get2 g1, hb.1, hb.2, hb.1, l2, andN_self hb.1, andN_or hb.2, fin hwho fun i hi => ?_⟩
          rw [andN_self hb.1, Nat.testBit_or, andN_bit l2, Nat.testBit_or, Nat.testBit_two_pow, Nat.zero_testBit] at hi
          by_cases hj : x - 1 = i
          · exact hj.symm
          · rw [decide_eq_false hj] at hi
            cases r.2.testBit i <;> simp at hi
        | false =>
          rw [if_neg (by decide)] at g1
          refine ⟨_, _, _, _, get1 hr, get2 hr, get1 g1, get2 g1, hb.1, hb.2, l1, hb.2, andN_or hb.1, andN_self hb.2, fin hwho fun i hi => ?_⟩
          rw [andN_self hb.2, Nat.testBit_or, andN_bit l1, Nat.testBit_or, Nat.testBit_two_pow, Nat.zero_testBit] at hi
          by_cases hj : x - 1 = i
          · exact hj.symm
          · rw [decide_eq_false hj] at hi
            cases r.1.testBit i <;> simp at hi
      · rw [if_neg hwho] at g1
        refine ⟨_, _, _, _, get1 hr, get2 hr, get1 g1, get2 g1, hb.1, hb.2, hb.1, hb.2, andN_self hb.1, andN_self hb.2, fun hh => ?_⟩
        rw [andN_self hb.1, andN_self hb.2] at hh
        exact absurd rfl hh
  · have hG : doG tags g e k w t x m = g := if_neg h0
    rw [hG]
    exact ⟨_, _, _, _, came_same hg hr⟩
end Go.Proofs.Ytkbpddejafdmdaa.A

namespace Go.Proofs.Ytkbpddejafdmdaa.A
open Go
set_option linter.unusedVariables false
set_option maxRecDepth 100000
set_option pp.maxSteps 1500

theorem doB_ok (tags : Nat) (g : Rg) (k w t : Int) (x : Nat) (m : Bool) (e : Int) (he : checkE tags g k w t x m = e) (hg : RgOk g) (ht : tags < 1000000) (hx : x < 18446744073709551616) :
    ACalls Try.prog 24 [.ptr 1 0, deed k w t x m] (tabH tags g) (RetH (.tup [u64 (doN tags e k x), i64 e]) (tabH (doTags tags e k) (doG tags g e k w t x m))) := by
  cases m
  · exact do_false tags g k w t x e he hg ht hx
  · exact do_true tags g k w t x e he hg ht hx
theorem plusL_len (g : Rg) : (plusL g).length = g.length := List.length_map ..
theorem minusL_len (g : Rg) : (minusL g).length = g.length := List.length_map ..
def ComesSt (n : Nat) : Type := { z : Nat × Nat × Rg // z.1 ≤ 120 ∧ z.2.1 ≤ z.1 ∧ RgOk z.2.2 ∧ z.2.2.length = n }
theorem shl1 {k : Nat} (h : k < 16) : wrp .u64 ((1 : Int) * 2 ^ min ((k : Int)).toNat IntKind.u64.bits) = ((2 ^ k : Nat) : Int) := by
  have e2 : min ((k : Nat) : Int).toNat IntKind.u64.bits = k := by
    have : IntKind.u64.bits = 64 := rfl
    rw [this]
    omega
  have h15 : 2 ^ k ≤ 2 ^ 15 := Nat.pow_le_pow_right (by decide) (by omega)
  rw [e2, wrpE, wu64, Int.one_mul]
  have : ((2 : Int) ^ k) = ((2 ^ k : Nat) : Int) := by simp
  rw [this]
  generalize 2 ^ k = z at *
  omega
end Go.Proofs.Ytkbpddejafdmdaa.A
