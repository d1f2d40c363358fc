/- Whole functions: what they hand back, and what they leave. No condition. -/
import Derived.Test.YtpjjfcgmckpboaaAm15
namespace Go.Proofs.Ytpjjfcgmckpboaa.A
open Go
set_option linter.unusedVariables false
set_option linter.unusedSimpArgs false

/-! ### Freezing: what is handed back is told by content -/
def mapO (f : AV → Option AV) : List AV → Option (List AV)
  | [] => some []
  | a :: as => match f a, mapO f as with
    | some x, some xs => some (x :: xs)
    | _, _ => none
/-- Told without objects: slices of objects from m on by their content. -/
def frz0 (H : Heap) (m : Nat) : Nat → AV → Option AV
  | 0, _ => none
  | k + 1, .slc i off len sz => bif Nat.blt i m then none else match rdN H i off (len * sz) with
    | some cs => match mapO (frz0 H m k) cs with
      | some ds => some (.view len ds)
      | none => none
    | none => none
  | k + 1, .agg cs => match mapO (frz0 H m k) cs with
    | some ds => some (.agg ds)
    | none => none
  | k + 1, .tup cs => match mapO (frz0 H m k) cs with
    | some ds => some (.tup ds)
    | none => none
  | _ + 1, .ptr _ _ => none
  | _ + 1, .mapr _ => none
  | _ + 1, .fn _ _ => none
  | _ + 1, a => some a
/-- The same, but objects below m may be named. -/
def frz (H : Heap) (m : Nat) : Nat → AV → Option AV
  | 0, _ => none
  | k + 1, .slc i off len sz => bif Nat.blt i m then some (.slc i off len sz) else frz0 H m (k + 1) (.slc i off len sz)
  | _ + 1, .ptr i off => bif Nat.blt i m then some (.ptr i off) else none
  | _ + 1, .mapr i => bif Nat.blt i m then some (.mapr i) else none
  | k + 1, .agg cs => match mapO (frz H m k) cs with
    | some ds => some (.agg ds)
    | none => none
  | k + 1, .tup cs => match mapO (frz H m k) cs with
    | some ds => some (.tup ds)
    | none => none
  | k + 1, .fn f cs => match mapO (frz H m k) cs with
    | some ds => some (.fn f ds)
    | none => none
  | _ + 1, a => some a
theorem mapO_get {f : AV → Option AV} : ∀ {as bs : List AV}, mapO f as = some bs → as.length = bs.length ∧ ∀ (i : Nat) (b : AV), bs[i]? = some b → ∃ a, as[i]? = some a ∧ f a = some b
  | [], bs, h => by simp [mapO] at h; subst h; simp
  | a :: as, bs, h => by
    simp only [mapO] at h
    split at h
    · rename_i x xs h1 h2
      simp only [Option.some.injEq] at h
      subst h
      obtain ⟨h3, h4⟩ := mapO_get h2
      refine ⟨by simp [h3], fun i b hb => ?_⟩
      cases i with
      | zero => simp at hb; exact ⟨a, rfl, hb ▸ h1⟩
      | succ i => simp at hb; simpa using h4 i b hb
    · cases h
theorem mapO_map {α : Type} {f : AV → Option AV} {g h : α → AV} (e : ∀ x, f (g x) = some (h x)) : ∀ xs : List α, mapO f (xs.map g) = some (xs.map h)
  | [] => rfl
  | x :: xs => by simp [mapO, e, mapO_map e xs]
theorem mapO_VL {X Y : Ctx} {f : AV → Option AV} {as bs : List AV} (h : mapO f as = some bs) (hf : ∀ a b v, f a = some b → VR X a v → VR Y b v) {vs : List Value} (hl : VL X as vs) : VL Y bs vs := by
  obtain ⟨h1, h2⟩ := mapO_get h
  have hlen := hl.length
  refine VL.of_get (by omega) fun i b v hb hv => ?_
  obtain ⟨a, h3, h4⟩ := h2 i b hb
  obtain ⟨v', h5, h6⟩ := hl.get i a h3
  rw [hv] at h5
  cases h5
  exact hf a b v h4 h6
/-- Objects from m on are told no more; their blocks are written no more. -/
def Ctx.frozen (X : Ctx) (H : Heap) (m : Nat) : Ctx := ⟨fun i => if i < m then X.φ i else none, fun b => X.F b ∨ ∃ i a, m ≤ i ∧ live H i ∧ X.φ i = some a ∧ a.block = b, X.w⟩
theorem Le.cut_frozen (X : Ctx) (H : Heap) (m : Nat) : Le (X.cut m) (X.frozen H m) := ⟨fun _ _ h => h, fun _ h => .inl h, fun _ _ => rfl, fun _ cells _ _ h => ⟨cells, h, rfl⟩⟩
theorem Le.nof_frozen (X : Ctx) (H : Heap) (m : Nat) : Le X.nof (X.frozen H m).nof := ⟨fun _ _ h => (by cases h), fun _ h => .inl h, fun _ _ => rfl, fun _ cells _ _ h => ⟨cells, h, rfl⟩⟩
theorem VC.nof {X Y : Ctx} (h : Le X.nof Y.nof) {ad : Option Addr} : ∀ (k : Nat) (cs : List AV), VC X ad k cs → VC Y ad k cs
  | _, [], _ => by simp [VC]
  | k, c :: cs, hv => by
    simp only [VC] at hv ⊢
    obtain ⟨⟨a, v', e, hs, hF, hc, hr⟩, hrest⟩ := hv
    exact ⟨⟨a, v', e, hs, h.F _ hF, (cell_of_heap (h.fz _ hF)).trans hc, VR.mono h c v' hr⟩, VC.nof h (k + 1) cs hrest⟩
theorem frz0_ok {X : Ctx} {H : Heap} (hr : HR X H) (m : Nat) : ∀ (k : Nat) (a b : AV) (v : Value), frz0 H m k a = some b → VR X a v → VR (X.frozen H m).nof b v
  | 0, _, _, _, h, _ => by simp [frz0] at h
  | k + 1, a, b, v, h, hv => by
    cases a with
    | junk => simp only [frz0, Option.some.injEq] at h; subst h; simp [VR]
    | sc s => simp only [frz0, Option.some.injEq] at h; subst h; simpa [VR] using hv
    | nan q => simp only [frz0, Option.some.injEq] at h; subst h; simpa [VR] using hv
    | ptr i o => simp [frz0] at h
    | mapr i => simp [frz0] at h
    | fn f c => simp [frz0] at h
    | vp cs =>
      simp only [frz0, Option.some.injEq] at h
      subst h
      simp only [VR] at hv ⊢
      obtain ⟨ad, e, hs, hc⟩ := hv
      exact ⟨ad, e, hs, VC.nof (X := X) (Y := (X.frozen H m).nof) (Le.nof_frozen X H m) 0 cs hc⟩
    | view len cs =>
      simp only [frz0, Option.some.injEq] at h
      subst h
      simp only [VR] at hv ⊢
      obtain ⟨a, c, e, hl, hn, hc⟩ := hv
      exact ⟨a, c, e, hl, hn, VC.nof (X := X) (Y := (X.frozen H m).nof) (Le.nof_frozen X H m) 0 cs hc⟩
    | agg cs =>
      simp only [frz0] at h
      split at h
      · rename_i ds hds
        simp only [Option.some.injEq] at h
        subst h
        simp only [VR] at hv ⊢
        obtain ⟨ws, e, hl⟩ := hv
        exact ⟨ws, e, mapO_VL hds (fun a b v => frz0_ok hr m k a b v) hl⟩
      · cases h
    | tup cs =>
      simp only [frz0] at h
      split at h
      · rename_i ds hds
        simp only [Option.some.injEq] at h
        subst h
        simp only [VR] at hv ⊢
        obtain ⟨ws, e, hl⟩ := hv
        exact ⟨ws, e, mapO_VL hds (fun a b v => frz0_ok hr m k a b v) hl⟩
      · cases h
    | slc i off len sz =>
      simp only [frz0] at h
      cases hb : Nat.blt i m with
      | true => simp [hb] at h
      | false =>
        simp only [hb, cond_false] at h
        have hi : m ≤ i := by
          rcases Nat.lt_or_ge i m with h1 | h1
          · have : Nat.blt i m = true := by simpa using h1
            rw [this] at hb
            cases hb
          · exact h1
        split at h
        · rename_i cs hcs
          split at h
          · rename_i ds hds
            simp only [Option.some.injEq] at h
            subst h
            simp only [VR] at hv ⊢
            obtain ⟨ba, o, c, cells, e, hφ, rfl, hlc, ho, hh, hsz⟩ := hv
            obtain ⟨all, hp, hle, _⟩ := rdN_row hcs
            obtain ⟨hlen, hg⟩ := rdN_get hr hφ hcs
            obtain ⟨h1, h2⟩ := mapO_get hds
            refine ⟨_, _, rfl, hlc, .inr ⟨_, rfl, rfl⟩, VC.of_get (ad := ⟨ba.block, o, none⟩) rfl (Or.inr ⟨i, ba, hi, ⟨_, hp, rfl⟩, hφ, rfl⟩) fun j y hy => ?_⟩
            obtain ⟨x, h3, h4⟩ := h2 j y hy
            obtain ⟨u, h5, h6⟩ := hg j x h3
            have hj : j < len * sz := by
              have := (List.getElem?_eq_some_iff.1 h3).1
              omega
            have : 0 < len := Nat.pos_of_ne_zero fun he => by rw [he, Nat.zero_mul] at hj; omega
            have ho' := ho this
            subst ho'
            refine ⟨u, ?_, frz0_ok hr m k x y u h4 h6⟩
            show X.w.cell? _ = some u
            simpa using h5
          · cases h
        · cases h
theorem frz_ok {X : Ctx} {H : Heap} (hr : HR X H) (m : Nat) : ∀ (k : Nat) (a b : AV) (v : Value), frz H m k a = some b → VR X a v → VR (X.frozen H m) b v
  | 0, _, _, _, h, _ => by simp [frz] at h
  | k + 1, a, b, v, h, hv => by
    have hcut : below m a = true → VR (X.frozen H m) a v := fun hb => VR.mono (Le.cut_frozen X H m) _ _ (VR.cut a v hb hv)
    cases a with
    | junk => simp only [frz, Option.some.injEq] at h; subst h; simp [VR]
    | sc s => simp only [frz, Option.some.injEq] at h; subst h; simpa [VR] using hv
    | nan q => simp only [frz, Option.some.injEq] at h; subst h; simpa [VR] using hv
    | vp cs => simp only [frz, Option.some.injEq] at h; subst h; exact hcut rfl
    | view len cs => simp only [frz, Option.some.injEq] at h; subst h; exact hcut rfl
    | ptr i o =>
      simp only [frz] at h
      cases hb : Nat.blt i m with
      | true => simp only [hb, cond_true, Option.some.injEq] at h; subst h; exact hcut hb
      | false => simp [hb] at h
    | mapr i =>
      simp only [frz] at h
      cases hb : Nat.blt i m with
      | true => simp only [hb, cond_true, Option.some.injEq] at h; subst h; exact hcut hb
      | false => simp [hb] at h
    | slc i off len sz =>
      simp only [frz] at h
      cases hb : Nat.blt i m with
      | true => simp only [hb, cond_true, Option.some.injEq] at h; subst h; exact hcut hb
      | false =>
        simp only [hb, cond_false] at h
        exact VR.mono (Le.of_nof _) _ _ (frz0_ok hr m (k + 1) _ _ _ h hv)
    | agg cs =>
      simp only [frz] at h
      split at h
      · rename_i ds hds
        simp only [Option.some.injEq] at h
        subst h
        simp only [VR] at hv ⊢
        obtain ⟨ws, e, hl⟩ := hv
        exact ⟨ws, e, mapO_VL hds (fun a b v => frz_ok hr m k a b v) hl⟩
      · cases h
    | tup cs =>
      simp only [frz] at h
      split at h
      · rename_i ds hds
        simp only [Option.some.injEq] at h
        subst h
        simp only [VR] at hv ⊢
        obtain ⟨ws, e, hl⟩ := hv
        exact ⟨ws, e, mapO_VL hds (fun a b v => frz_ok hr m k a b v) hl⟩
      · cases h
    | fn f cs =>
      simp only [frz] at h
      split at h
      · rename_i ds hds
        simp only [Option.some.injEq] at h
        subst h
        simp only [VR] at hv ⊢
        obtain ⟨ws, e, hl⟩ := hv
        exact ⟨ws, e, mapO_VL hds (fun a b v => frz_ok hr m k a b v) hl⟩
      · cases h
theorem HR.frozen {X : Ctx} {H H' : Heap} (h : HR X H) (hp : PreH H' H) (hb : belowH H'.length H' = true) : HR (X.frozen H H'.length) H' := by
  have h0 := h.cutTo hp hb
  have hle := Le.cut_frozen X H H'.length
  have hlive : ∀ i, live H' i → live H i := fun i hi => live_pre hp hi
  have hφ : ∀ i b, (X.frozen H H'.length).φ i = some b → i < H'.length ∧ X.φ i = some b := fun i b hb => by
    simp only [Ctx.frozen] at hb
    split at hb
    · rename_i hi; exact ⟨hi, hb⟩
    · cases hb
  refine ⟨h0.lt, fun i cs b hi hb' => (h0.row i cs b hi hb').mono hle rfl, fun i es b hi hb' => (h0.mp i es b hi hb').mono hle rfl, h0.sep, fun i b hi hb' hF => ?_, fun b hF => ?_⟩
  · obtain ⟨h1, h2⟩ := hφ i b hb'
    rcases hF with hF | ⟨j, a, h3, h4, h5, h6⟩
    · exact h.fz i b (hlive i hi) h2 hF
    · exact h.sep j i a b (by omega) h4 (hlive i hi) h5 h2 h6
  · rcases hF with hF | ⟨j, a, h3, h4, h5, rfl⟩
    · exact h.fl b hF
    · exact (h.lt j a h5).2.2
theorem Ext.frozen {X0 X : Ctx} {H0 H H' : Heap} (h : Ext X0 H0 X H) (hp : PreH H' H) : Ext X0 H0 (X.frozen H H'.length) H' := by
  refine ⟨h.size, h.keep, h.shape, fun b ⟨i, a, h1, h2, h3⟩ => h.own b ⟨i, a, live_pre hp h1, ?_, h3⟩, fun b hb => .inl (h.F b hb), fun b hb => ?_, h.os, h.tape, h.output⟩
  · simp only [Ctx.frozen] at h2
    split at h2
    · exact h2
    · cases h2
  · rcases hb with hb | ⟨j, a, h3, h4, h5, rfl⟩
    · exact h.Fn b hb
    · exact .inr (h.own _ ⟨j, a, h4, h5, rfl⟩)

/-! ### Results -/
def resV (T : Tab) (s : St) : List ResultVar → Option (List AV)
  | [] => some []
  | .tmp t :: rs => match resV T s rs with
    | some vs => some (s.fr t :: vs)
    | none => none
  | .cell a t :: rs => match T t, s.fr a with
    | some i, .ptr p off => match (bif i.d.agg then (rdN s.H p off i.size).map .agg else rd1 s.H p off), resV T s rs with
      | some v, some vs => some (v :: vs)
      | _, _ => none
    | _, _ => none
def mkR : List AV → AV
  | [v] => v
  | vs => .tup vs
/-- What stands at the end of a function. -/
def EndV (T : Tab) (rs : List ResultVar) (n0 : Nat) (s : St) (H' : Heap) (v : AV) : Prop :=
  (∃ vs, resV T s rs = some vs ∧ frz s.H H'.length 8 (mkR vs) = some v) ∧ PreH H' s.H ∧ n0 ≤ H'.length ∧ belowH H'.length H' = true
def endK (T : Tab) (rs : List ResultVar) (n0 : Nat) (R : AEnd → Heap → Prop) : AX → St → Prop
  | .normal, s => s.ds = [] ∧ ∃ H' v, EndV T rs n0 s H' v ∧ R (.ret v) H'
  | .ret, s => s.ds = [] ∧ ∃ H' v, EndV T rs n0 s H' v ∧ R (.ret v) H'
  | .pan u, s => s.ds = [] ∧ ∃ H', PreH H' s.H ∧ n0 ≤ H'.length ∧ belowH H'.length H' = true ∧ R (.pan u) H'
  | .exit _, _ => False
section
variable {P : Program} {T : Tab} {n : Nat} {X0 : Ctx} {H0 : Heap}
theorem resV_run (hT : TOk P T) {X : Ctx} {s : St} {a : Act} (h : StR n X s a) : ∀ {rs : List ResultVar} {vs : List AV}, resV T s rs = some vs →
    ∃ us : List Value, (rs.mapM (m := Sem) fun r => match r with | .tmp t => pure (a.tmps.getD t undef) | .cell b t => do loadVar t (← asAddr (a.tmps.getD b undef))).run P X.w = .ok us X.w ∧ VL X vs us
  | [], vs, he => by simp [resV] at he; subst he; exact ⟨[], by simp, by simp [VL]⟩
  | .tmp t :: rs, vs, he => by
    simp only [resV] at he
    split at he
    · rename_i ws hw
      simp only [Option.some.injEq] at he
      subst he
      obtain ⟨us, h1, h2⟩ := resV_run hT h hw
      exact ⟨a.tmps.getD t undef :: us, by simp only [List.mapM_cons, Sem.run_bind, Sem.run_pure, Result.andThen_ok, h1], by simp only [VL]; exact ⟨h.fr t, h2⟩⟩
    · cases he
  | .cell b t :: rs, vs, he => by
    simp only [resV] at he
    split at he
    · rename_i i p off hi hb
      split at he
      · rename_i v ws hv hw
        simp only [Option.some.injEq] at he
        subst he
        obtain ⟨us, h1, h2⟩ := resV_run hT h hw
        have hp := h.fr b
        rw [hb] at hp
        have key : ∃ c u, c = v ∧ (Instr.loadAt t (a.tmps.getD b undef)).run P X.w = .ok u X.w ∧ VR X c u := by
          refine load_run hT h.hr hi (a := .ptr p off) (K := fun c => c = v) ?_ hp
          cases hd : i.d.agg with
          | true =>
            simp only [hd, cond_true] at hv
            cases hq : rdN s.H p off i.size with
            | none => rw [hq] at hv; cases hv
            | some cs =>
              rw [hq] at hv
              simp only [Option.map_some, Option.some.injEq] at hv
              exact optK_intro hq hv
          | false =>
            simp only [hd, cond_false] at hv
            exact optK_intro hv rfl
        obtain ⟨c, u, rfl, h3, h4⟩ := key
        simp only [VR] at hp
        obtain ⟨ad, _, hp⟩ := hp
        rw [hp] at h3
        refine ⟨u :: us, ?_, by simp only [VL]; exact ⟨h4, h2⟩⟩
        simp only [Instr.loadAt, Instr.sureAddr, Sem.run_bind, Sem.run_pure, Result.andThen_ok] at h3
        have e1 : Sem.run P (do loadVar t (← asAddr (a.tmps.getD b undef))) X.w = .ok u X.w := by
          rw [hp]
          simp only [Sem.run_bind, asAddr, Sem.run_pure, Result.andThen_ok, h3]
        rw [List.mapM_cons, Sem.run_bind]
        change (Sem.run P (do loadVar t (← asAddr (a.tmps.getD b undef))) X.w).andThen _ = _
        rw [e1, Result.andThen_ok, Sem.run_bind, h1]
        rfl
      · cases he
    · cases he
theorem results_run (hT : TOk P T) {X : Ctx} {s : St} {a : Act} (h : StR n X s a) {fn : Func} {vs : List AV} (he : resV T s fn.results.toList = some vs) : ∃ u, (results fn a.tmps).run P X.w = .ok u X.w ∧ VR X (mkR vs) u := by
  obtain ⟨us, h1, h2⟩ := resV_run hT h he
  have hm : (fn.results.mapM (m := Sem) fun r => match r with | .tmp t => pure (a.tmps.getD t undef) | .cell b t => do loadVar t (← asAddr (a.tmps.getD b undef))).run P X.w = .ok us.toArray X.w := by
    rw [← Array.toArray_toList (xs := fn.results), List.mapM_toArray]
    simp only [Sem.run_map, h1, Result.andThen_ok]
  refine ⟨if h : us.toArray.size = 1 then us.toArray[0] else .tuple us.toArray, ?_, ?_⟩
  · have hres : (results fn a.tmps).run P X.w = ((fn.results.mapM (m := Sem) fun r => match r with | .tmp t => pure (a.tmps.getD t undef) | .cell b t => do loadVar t (← asAddr (a.tmps.getD b undef))).run P X.w).andThen fun vs w => .ok (if h : vs.size = 1 then vs[0] else .tuple vs) w := by
      unfold results
      rw [Sem.run_bind]
      rfl
    rw [hres, hm]
    rfl
  · have hlen := h2.length
    match vs, us, h2, hlen with
    | [], [], h2, _ => simp only [mkR, VR]; exact ⟨#[], by simp, h2⟩
    | [v], [u], h2, _ => simp only [VL, and_true] at h2; simpa [mkR] using h2
    | v :: w :: vs, u :: x :: us, h2, _ =>
      simp only [mkR, VR]
      refine ⟨(u :: x :: us).toArray, ?_, by simpa using h2⟩
      rw [dif_neg (by simp)]
    | [_], [], h2, hl => simp at hl
    | [], _ :: _, h2, hl => simp at hl
    | _ :: _ :: _, [], h2, hl => simp at hl
    | _ :: _ :: _, [_], h2, hl => simp at hl
    | [_], _ :: _ :: _, h2, hl => simp at hl
theorem endV_ok (hT : TOk P T) {X : Ctx} {s : St} {a : Act} (h : At n X0 H0 X s a) {fn : Func} {H' : Heap} {v : AV} (he : EndV T fn.results.toList H0.length s H' v) :
    ∃ Y u, Y.w = X.w ∧ (results fn a.tmps).run P X.w = .ok u X.w ∧ VR Y v u ∧ HR Y H' ∧ Ext X0 H0 Y H' ∧ (∀ i, i < H0.length → Y.φ i = X0.φ i) ∧ H0.length ≤ H'.length := by
  obtain ⟨⟨vs, h1, h2⟩, h3, h4, h5⟩ := he
  obtain ⟨u, h6, h7⟩ := results_run hT h.st h1
  refine ⟨X.frozen s.H H'.length, u, rfl, h6, frz_ok h.st.hr _ _ _ _ _ h2 h7, h.st.hr.frozen h3 h5, h.ext.frozen h3, fun i hi => ?_, h4⟩
  have : i < H'.length := Nat.lt_of_lt_of_le hi h4
  simp only [Ctx.frozen, if_pos this]
  exact h.φ i hi
/-- The frame that a function begins with. -/
def fr0 (args : List AV) : Fr := fun t => match nth args t with
  | some a => a
  | none => undefA
theorem At.enter {X : Ctx} {H : Heap} (hr : HR X H) {args : List AV} {as : Array Value} (hv : VL X args as.toList) (hn : args.length ≤ n) :
    At n X H X ⟨fr0 args, H, []⟩ { tmps := as ++ Array.replicate (n - as.size) undef, defers := [] } := by
  have hl := hv.length
  simp only [Array.length_toList] at hl
  refine ⟨⟨by simp; omega, fun t => ?_, True.intro, hr⟩, Ext.refl X H, fun _ _ => rfl, Nat.le_refl _⟩
  simp only [fr0]
  split
  · rename_i a ha
    rw [nth_eq] at ha
    obtain ⟨v, h1, h2⟩ := hv.get t a ha
    have hlt : t < as.size := by
      have := (List.getElem?_eq_some_iff.1 h1).1
      simpa using this
    rw [Array.getD_eq_getD_getElem?, Array.getElem?_append_left hlt]
    have h3 : as[t]? = some v := by simpa using h1
    rw [h3]
    exact h2
  · rename_i ha
    rw [nth_eq] at ha
    have hge : as.size ≤ t := by
      have := List.getElem?_eq_none_iff.1 ha
      omega
    rw [Array.getD_eq_getD_getElem?, Array.getElem?_append_right hge, Array.getElem?_replicate]
    split <;> exact VR_undef
/-- A function with a body, without deferred calls. -/
theorem acalls_of_awp (hT : TOk P T) (hm : P.follows .mixedOrders = true) {g : FuncId} {fn : Func} {c : Code} (hf : P.funcs[g]? = some fn) (hb : fn.body = some c) (hnm : (fn.name == "runtime.NumGoroutine") = false) (hok : okCode fn.ntmps c = true)
    {args : List AV} {H : Heap} {R : AEnd → Heap → Prop} (hn : args.length ≤ fn.ntmps) (h : awp P T H.length c (endK T fn.results.toList H.length R) ⟨fr0 args, H, []⟩) : ACalls P g args H R := by
  intro X as hr hv
  left
  refine ⟨?_, ?_⟩
  · simp only [callFunc, Sem.run_bind, run_program, Result.andThen_ok, hf, hnm, Bool.false_eq_true, if_false]
    simp [hb]
  · refine calls_of_wp hf hb ?_
    refine wp_mono (awp_sound (n := fn.ntmps) hT hm c hok _ X _ _ (At.enter hr hv hn) h) ?_
    rintro e a w ⟨E, s, Y, hk, he, rfl, hat⟩
    have hds : s.ds = [] → a.defers = [] := fun hz => by
      have := hat.st.ds
      rw [hz] at this
      cases hq : a.defers with
      | nil => rfl
      | cons d ds => rw [hq] at this; exact this.elim
    cases E with
    | normal =>
      cases e <;> first | exact he.elim | skip
      obtain ⟨hd, H', v, h1, h2⟩ := hk
      obtain ⟨Z, u, h3, h4, h5, h6, h7, h8, h9⟩ := endV_ok hT hat h1
      exact ⟨hds hd, u, h4, .ret v, H', Z, h2, h3, h5, h6, h7, h8, h9⟩
    | ret =>
      cases e <;> first | exact he.elim | skip
      obtain ⟨hd, H', v, h1, h2⟩ := hk
      obtain ⟨Z, u, h3, h4, h5, h6, h7, h8, h9⟩ := endV_ok hT hat h1
      exact ⟨hds hd, u, h4, .ret v, H', Z, h2, h3, h5, h6, h7, h8, h9⟩
    | pan u =>
      cases e <;> first | exact he.elim | skip
      obtain ⟨hd, H', h1, h2, h3, h4⟩ := hk
      refine ⟨hds hd, .pan u, H', Y.cut H'.length, h4, rfl, he, hat.st.hr.cutTo h1 h3, ?_, fun i hi => ?_, h2⟩
      · refine ⟨hat.ext.size, hat.ext.keep, hat.ext.shape, fun b ⟨i, ad, hi, ha, hx⟩ => hat.ext.own b ⟨i, ad, live_pre h1 hi, ?_, hx⟩, hat.ext.F, hat.ext.Fn, hat.ext.os, hat.ext.tape, hat.ext.output⟩
        simp only [Ctx.cut] at ha
        split at ha
        · exact ha
        · cases ha
      · have : i < H'.length := Nat.lt_of_lt_of_le hi h2
        simp only [Ctx.cut, if_pos this]
        exact hat.φ i hi
    | exit i => exact hk.elim
/-- A type's row, out of closed facts. -/
theorem TOkAt.mk' {t : TypeId} {i : TI} (h1 : (P.info? t).map (fun ti => (ti.size, ti.bytes, ti.zero)) = some (i.size, i.bytes, some i.zero)) (h2 : (P.underlying t).map dOf = some i.d)
    (h3 : i.eqOk = true → P.stoodInHeld t = false ∧ P.eqGuardType P.depth t = false) : TOkAt P t i := by
  obtain ⟨ti, h4, h5⟩ := Option.map_eq_some_iff.1 h1
  obtain ⟨d, h6, h7⟩ := Option.map_eq_some_iff.1 h2
  simp only [Prod.mk.injEq] at h5
  exact ⟨⟨ti, h4, h5.1, h5.2.1, h5.2.2⟩, ⟨d, h6, h7⟩, h3⟩
end
end Go.Proofs.Ytpjjfcgmckpboaa.A
