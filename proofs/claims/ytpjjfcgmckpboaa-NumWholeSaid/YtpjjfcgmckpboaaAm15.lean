/- Statements, loops and whole functions over abstract states. No condition. -/
import Derived.Test.YtpjjfcgmckpboaaAm14
namespace Go.Proofs.Ytpjjfcgmckpboaa.A
open Go
set_option linter.unusedVariables false
set_option linter.unusedSimpArgs false

/-! ### Forgetting -/
/-- A frame of which only some places are known. -/
def frL : List (Nat × AV) → Fr
  | [], _ => .junk
  | (t, a) :: L, i => bif Nat.beq i t then a else frL L i
def AllEq (f : Fr) : List (Nat × AV) → Prop
  | [] => True
  | (t, a) :: L => f t = a ∧ AllEq f L
/-- H' is a beginning of H, some objects forgotten. -/
def PreH : Heap → Heap → Prop
  | [], _ => True
  | o' :: H', o :: H => (o' = o ∨ o' = .dead) ∧ PreH H' H
  | _ :: _, [] => False
mutual
/-- Only objects below m are named. -/
def below (m : Nat) : AV → Bool
  | .ptr i _ => Nat.blt i m
  | .slc i _ _ _ => Nat.blt i m
  | .mapr i => Nat.blt i m
  | .fn _ caps => belowL m caps
  | .agg cells => belowL m cells
  | .tup vs => belowL m vs
  | _ => true
def belowL (m : Nat) : List AV → Bool
  | [] => true
  | a :: as => below m a && belowL m as
end
def belowO (m : Nat) : AObj → Bool
  | .row cs => belowL m cs
  | .mp es => belowL m (es.map (·.2))
  | .dead => true
def belowH (m : Nat) : Heap → Bool
  | [] => true
  | o :: H => belowO m o && belowH m H
def belowF (m : Nat) : List (Nat × AV) → Bool
  | [] => true
  | (_, a) :: L => below m a && belowF m L
def Ctx.cut (X : Ctx) (m : Nat) : Ctx := ⟨fun i => if i < m then X.φ i else none, X.F, X.w⟩
section
variable {X : Ctx} {m : Nat}
theorem VC.cut (ad : Option Addr) (k : Nat) (cs : List AV) (h : VC X ad k cs) : VC (X.cut m) ad k cs := VC.same (X := X) (Y := X.cut m) rfl rfl k cs h
mutual
theorem VR.cut : ∀ (a : AV) (v : Value), below m a = true → VR X a v → VR (X.cut m) a v
  | .junk, _, _, _ => by simp [VR]
  | .sc s, v, _, hv => by simpa [VR] using hv
  | .nan k, v, _, hv => by simpa [VR] using hv
  | .ptr i off, v, hb, hv => by
    simp only [VR] at hv ⊢
    have : i < m := by simpa [below] using hb
    simpa [Ctx.cut, this] using hv
  | .slc i off len sz, v, hb, hv => by
    simp only [VR] at hv ⊢
    have : i < m := by simpa [below] using hb
    simpa [Ctx.cut, this] using hv
  | .mapr i, v, hb, hv => by
    simp only [VR] at hv ⊢
    have : i < m := by simpa [below] using hb
    simpa [Ctx.cut, this] using hv
  | .vp cells, v, hb, hv => by
    simp only [VR] at hv ⊢
    obtain ⟨ad, e, hs, hc⟩ := hv
    exact ⟨ad, e, hs, VC.cut _ 0 cells hc⟩
  | .view len cells, v, hb, hv => by
    simp only [VR] at hv ⊢
    obtain ⟨a, c, e, hl, hn, hc⟩ := hv
    exact ⟨a, c, e, hl, hn, VC.cut a 0 cells hc⟩
  | .fn f caps, v, hb, hv => by
    simp only [VR] at hv ⊢
    obtain ⟨c, e, hl⟩ := hv
    exact ⟨c, e, VL.cut caps _ (by simpa [below] using hb) hl⟩
  | .agg cells, v, hb, hv => by
    simp only [VR] at hv ⊢
    obtain ⟨c, e, hl⟩ := hv
    exact ⟨c, e, VL.cut cells _ (by simpa [below] using hb) hl⟩
  | .tup vs, v, hb, hv => by
    simp only [VR] at hv ⊢
    obtain ⟨c, e, hl⟩ := hv
    exact ⟨c, e, VL.cut vs _ (by simpa [below] using hb) hl⟩
theorem VL.cut : ∀ (as : List AV) (vs : List Value), belowL m as = true → VL X as vs → VL (X.cut m) as vs
  | [], [], _, _ => by simp [VL]
  | [], _ :: _, _, hv => by simp [VL] at hv
  | _ :: _, [], _, hv => by simp [VL] at hv
  | a :: as, v :: vs, hb, hv => by
    simp only [VL] at hv ⊢
    simp only [belowL, Bool.and_eq_true] at hb
    exact ⟨VR.cut a v hb.1 hv.1, VL.cut as vs hb.2 hv.2⟩
end
end
theorem PreH.get : ∀ {H' H : Heap}, PreH H' H → ∀ (i : Nat) (o : AObj), H'[i]? = some o → H[i]? = some o ∨ (o = .dead ∧ i < H.length)
  | [], _, _, i, o, h => by simp at h
  | _ :: _, [], h, _, _, _ => h.elim
  | o' :: H', o :: H, h, 0, x, hx => by
    simp at hx
    subst hx
    rcases h.1 with h1 | h1
    · left; simp [h1]
    · right; exact ⟨h1, by simp⟩
  | o' :: H', o :: H, h, i + 1, x, hx => by
    simp at hx
    rcases h.2.get i x hx with h1 | ⟨h1, h2⟩
    · left; simpa using h1
    · right; exact ⟨h1, by simpa using h2⟩
theorem PreH.length : ∀ {H' H : Heap}, PreH H' H → H'.length ≤ H.length
  | [], _, _ => Nat.zero_le _
  | _ :: _, [], h => h.elim
  | _ :: _, _ :: _, h => by simpa using h.2.length
theorem belowH_get : ∀ {m : Nat} {H : Heap}, belowH m H = true → ∀ (i : Nat) (o : AObj), H[i]? = some o → belowO m o = true
  | _, [], _, i, o, h => by simp at h
  | m, x :: H, hb, 0, o, h => by
    simp at h
    subst h
    simp only [belowH, Bool.and_eq_true] at hb
    exact hb.1
  | m, x :: H, hb, i + 1, o, h => by
    simp at h
    simp only [belowH, Bool.and_eq_true] at hb
    exact belowH_get hb.2 i o h
theorem belowL_get : ∀ {m : Nat} {cs : List AV}, belowL m cs = true → ∀ (i : Nat) (c : AV), cs[i]? = some c → below m c = true
  | _, [], _, i, o, h => by simp at h
  | m, x :: H, hb, 0, o, h => by
    simp at h
    subst h
    simp only [belowL, Bool.and_eq_true] at hb
    exact hb.1
  | m, x :: H, hb, i + 1, o, h => by
    simp at h
    simp only [belowL, Bool.and_eq_true] at hb
    exact belowL_get hb.2 i o h
theorem EntR.cut {X : Ctx} {m : Nat} : ∀ {es : List (Value × AV)} {fs : List MapEntry}, belowL m (es.map (·.2)) = true → EntR X es fs → EntR (X.cut m) es fs
  | [], [], _, _ => by simp [EntR]
  | [], _ :: _, _, hv => by simp [EntR] at hv
  | _ :: _, [], _, hv => by simp [EntR] at hv
  | (k, v) :: es, e :: fs, hb, hv => by
    simp only [EntR] at hv ⊢
    simp only [List.map_cons, belowL, Bool.and_eq_true] at hb
    exact ⟨hv.1, hv.2.1, VR.cut _ _ hb.1 hv.2.2.1, EntR.cut hb.2 hv.2.2.2⟩
/-- Objects from m on are dropped. -/
theorem HR.cutTo {X : Ctx} {H H' : Heap} (h : HR X H) (hp : PreH H' H) (hb : belowH H'.length H' = true) : HR (X.cut H'.length) H' := by
  have hφ : ∀ i b, (X.cut H'.length).φ i = some b → i < H'.length ∧ X.φ i = some b := fun i b hb => by
    simp only [Ctx.cut] at hb
    split at hb
    · rename_i hi; exact ⟨hi, hb⟩
    · cases hb
  have hlive : ∀ i, live H' i → live H i := fun i ⟨o, h1, h2⟩ => by
    rcases hp.get i o h1 with h3 | ⟨rfl, _⟩
    · exact ⟨o, h3, h2⟩
    · cases h2
  refine ⟨fun i b hb => ?_, fun i cs b hi hb' => ?_, fun i es b hi hb' => ?_, fun i j bi bj hne hi hj hbi hbj => ?_, fun i b hi hb' => ?_, h.fl⟩
  · obtain ⟨h1, h2⟩ := hφ i b hb
    exact ⟨h1, (h.lt i b h2).2⟩
  · obtain ⟨h1, h2⟩ := hφ i b hb'
    rcases hp.get i _ hi with h3 | ⟨h3, _⟩
    · obtain ⟨cells, e, h4, h5⟩ := h.row i cs b h3 h2
      have hbo := belowH_get hb i _ hi
      refine ⟨cells, e, h4, fun k c hc => ?_⟩
      obtain ⟨v', h6, h7⟩ := h5 k c hc
      exact ⟨v', h6, VR.cut _ _ (belowL_get hbo k c hc) h7⟩
    · cases h3
  · obtain ⟨h1, h2⟩ := hφ i b hb'
    rcases hp.get i _ hi with h3 | ⟨h3, _⟩
    · obtain ⟨es', c, h4, h5⟩ := h.mp i es b h3 h2
      exact ⟨es', c, h4, EntR.cut (belowH_get hb i _ hi) h5⟩
    · cases h3
  · exact h.sep i j bi bj hne (hlive i hi) (hlive j hj) (hφ i bi hbi).2 (hφ j bj hbj).2
  · exact h.fz i b (hlive i hi) (hφ i b hb').2
theorem HR.pre {X : Ctx} {H H' : Heap} (h : HR X H) (hp : PreH H' H) (hl : H'.length = H.length) : HR X H' := by
  have hlive : ∀ i, live H' i → live H i := fun i ⟨o, h1, h2⟩ => by
    rcases hp.get i o h1 with h3 | ⟨rfl, _⟩
    · exact ⟨o, h3, h2⟩
    · cases h2
  refine ⟨fun i b hb => ?_, fun i cs b hi hb' => ?_, fun i es b hi hb' => ?_, fun i j bi bj hne hi hj hbi hbj => ?_, fun i b hi hb' => ?_, h.fl⟩
  · rw [hl]; exact h.lt i b hb
  · rcases hp.get i _ hi with h3 | ⟨h3, _⟩
    · exact h.row i cs b h3 hb'
    · cases h3
  · rcases hp.get i _ hi with h3 | ⟨h3, _⟩
    · exact h.mp i es b h3 hb'
    · cases h3
  · exact h.sep i j bi bj hne (hlive i hi) (hlive j hj) hbi hbj
  · exact h.fz i b (hlive i hi) hb'
theorem live_pre {H H' : Heap} (hp : PreH H' H) {i : Nat} (h : live H' i) : live H i := by
  obtain ⟨o, h1, h2⟩ := h
  rcases hp.get i o h1 with h3 | ⟨rfl, _⟩
  · exact ⟨o, h3, h2⟩
  · cases h2
/-- The places L, under the names of before. -/
def AllRen (r : Nat → Nat) (f : Fr) : List (Nat × AV) → Prop
  | [] => True
  | (t, a) :: L => f t = ren r a ∧ AllRen r f L
/-- The first n names stay. -/
def idPre : Nat → Nat → List Nat → Bool
  | 0, _, _ => true
  | _ + 1, _, [] => false
  | n + 1, k, j :: js => bif Nat.beq j k then idPre n (k + 1) js else false
theorem idPre_get : ∀ {n k : Nat} {is : List Nat}, idPre n k is = true → ∀ i, i < n → is[i]? = some (k + i)
  | 0, _, _, _, i, h => by omega
  | n + 1, k, [], h, _, _ => by simp [idPre] at h
  | n + 1, k, j :: js, h, i, hi => by
    cases hq : Nat.beq j k with
    | false => simp [idPre, hq] at h
    | true =>
      simp only [idPre, hq, cond_true] at h
      have := Nat.eq_of_beq_eq_true hq
      subst this
      cases i with
      | zero => simp
      | succ i =>
        have := idPre_get h i (by omega)
        simp only [List.getElem?_cons_succ, this]
        congr 1
        omega
theorem idPre_len : ∀ {n k : Nat} {is : List Nat}, idPre n k is = true → n ≤ is.length
  | 0, _, _, _ => Nat.zero_le _
  | n + 1, k, [], h => by simp [idPre] at h
  | n + 1, k, j :: js, h => by
    cases hq : Nat.beq j k with
    | false => simp [idPre, hq] at h
    | true =>
      simp only [idPre, hq, cond_true] at h
      have := idPre_len h
      simp
      omega
/-- From a state to one of which less is known: the places L, the objects is, told as H'. -/
structure Weak (n0 : Nat) (s : St) (is : List Nat) (L : List (Nat × AV)) (H' : Heap) : Prop where
  fr : AllRen (rn is s.H.length) s.fr L
  sel : Sel s.H (rn is s.H.length) is H'
  dup : noDup is = true
  pre : idPre n0 0 is = true
  ds : s.ds = []
theorem AllRen.frL {X Y : Ctx} {r : Nat → Nat} {f : Fr} (g : Nat → Value) (hf : ∀ t, VR X (f t) (g t)) (hφ : ∀ i b, X.φ (r i) = some b → Y.φ i = some b) (hF : Y.F = X.F) (hw : Y.w = X.w) : ∀ {L : List (Nat × AV)}, AllRen r f L → ∀ t, VR Y (frL L t) (g t)
  | [], _, t => by simp [A.frL, VR]
  | (u, a) :: L, h, t => by
    simp only [A.frL]
    cases hb : Nat.beq t u with
    | true =>
      have := Nat.eq_of_beq_eq_true hb
      subst this
      simp only [cond_true]
      have := hf t
      rw [h.1] at this
      exact VR.ren hφ hF hw a _ this
    | false => simp only [cond_false]; exact AllRen.frL g hf hφ hF hw h.2 t
theorem Weak.at_ {n n0 : Nat} {X0 : Ctx} {H0 : Heap} {X : Ctx} {s : St} {a : Act} (h : At n X0 H0 X s a) {is : List Nat} {L : List (Nat × AV)} {H' : Heap} (hw : Weak H0.length s is L H') :
    ∃ Y, Y.w = X.w ∧ At n X0 H0 Y ⟨frL L, H', []⟩ a := by
  have hds := h.st.ds
  rw [hw.ds] at hds
  refine ⟨X.sel is, rfl, ⟨⟨h.st.size, AllRen.frL _ h.st.fr (fun i b hb => sel_φ' h.st.hr hb) rfl rfl hw.fr, ?_, h.st.hr.sel hw.sel hw.dup⟩, ?_, fun i hi => ?_, ?_⟩⟩
  · cases hq : a.defers with
    | nil => exact True.intro
    | cons d ds => rw [hq] at hds; exact hds.elim
  · exact ⟨h.ext.size, h.ext.keep, h.ext.shape, fun b hb => by
      obtain ⟨j, bj, _, h1, h2, h3⟩ := hb.sel hw.sel
      exact h.ext.own b ⟨j, bj, h1, h2, h3⟩, h.ext.F, h.ext.Fn, h.ext.os, h.ext.tape, h.ext.output⟩
  · have := idPre_get hw.pre i hi
    show is[i]?.bind X.φ = X0.φ i
    rw [this, ← h.φ i hi]
    simp
  · have := idPre_len hw.pre
    rw [← hw.sel.length]
    exact this

/-! ### Code -/
def nextX (K : St → Prop) (Q : AX → St → Prop) : AX → St → Prop
  | .normal, s => K s
  | e, s => Q e s
def blockX (id : Nat) (Q : AX → St → Prop) : AX → St → Prop
  | .exit id', s => bif Nat.beq id' id then Q .normal s else Q (.exit id') s
  | e, s => Q e s
/-- So many rounds at most; each round begins with places and objects named. -/
def roundsA (F : (AX → St → Prop) → St → Prop) (n0 : Nat) (Q : AX → St → Prop) : Nat → St → Prop
  | 0, _ => False
  | n + 1, s => ∃ is L H', Weak n0 s is L H' ∧ F (nextX (roundsA F n0 Q n) Q) ⟨frL L, H', []⟩
def awp (P : Program) (T : Tab) (n0 : Nat) : Code → (AX → St → Prop) → St → Prop
  | .skip, Q, s => Q .normal s
  | .label _, Q, s => Q .normal s
  | .region _ ops draw, Q, s =>
    match draw with
    | false => awpOps P T ops.toList (Q .normal) (fun u s' => Q (.pan u) s') ops.toList s
    | true => awpDraw P T ops (Q .normal) (fun u s' => Q (.pan u) s') s
  | .seq a b, Q, s => awp P T n0 a (nextX (awp P T n0 b Q) Q) s
  | .cond c x y, Q, s =>
    match ev s.fr c with
    | .sc (.bool b) => If b (awp P T n0 x Q s) (awp P T n0 y Q s)
    | _ => False
  | .block id c, Q, s => awp P T n0 c (blockX id Q) s
  | .loop c, Q, s => ∃ n, roundsA (awp P T n0 c) n0 Q n s
  | .exit id, Q, s => Q (.exit id) s
  | .ret, Q, s => Q .ret s
  | _, _, _ => False

def okCode (n : Nat) : Code → Bool
  | .region _ ops _ => okOps n ops.toList
  | .seq a b => okCode n a && okCode n b
  | .cond _ x y => okCode n x && okCode n y
  | .block _ c => okCode n c
  | .loop c => okCode n c
  | _ => true
def ExR : AX → Exit → Prop
  | .normal, .normal => True
  | .exit i, .exit j => i = j
  | .ret, .ret => True
  | .pan u, .panic ch => ch = [entry u] ∧ plain u = true
  | _, _ => False
section
variable {P : Program} {T : Tab} {n : Nat} {X0 : Ctx} {H0 : Heap}
/-- What our post says of the model's exits. -/
def PostR (n : Nat) (X0 : Ctx) (H0 : Heap) (Q : AX → St → Prop) : Exit → Act → World → Prop := fun e a w =>
  ∃ E s Y, Q E s ∧ ExR E e ∧ Y.w = w ∧ At n X0 H0 Y s a
theorem awp_sound (hT : TOk P T) (hm : P.follows .mixedOrders = true) : ∀ (c : Code), okCode n c = true → ∀ (Q : AX → St → Prop) (X : Ctx) (s : St) (a : Act), At n X0 H0 X s a → awp P T H0.length c Q s → c.wp P (PostR n X0 H0 Q) a X.w
  | .skip, _, Q, X, s, a, h, hq => wp_skip ⟨.normal, s, X, hq, True.intro, rfl, h⟩
  | .label _, _, Q, X, s, a, h, hq => wp_label ⟨.normal, s, X, hq, True.intro, rfl, h⟩
  | .exit id, _, Q, X, s, a, h, hq => wp_exit ⟨.exit id, s, X, hq, rfl, rfl, h⟩
  | .ret, _, Q, X, s, a, h, hq => wp_ret ⟨.ret, s, X, hq, True.intro, rfl, h⟩
  | .region id ops draw, hok, Q, X, s, a, h, hq => by
    cases draw with
    | false =>
      refine wp_region ?_
      rw [List.range_eq_range']
      have := ops_wp (Q := PostR n X0 H0 Q) hT (all := ops) hok (K := Q .normal) (Kp := fun u s' => Q (.pan u) s') (fun Y s' a' hk hat => ⟨.normal, s', Y, hk, True.intro, rfl, hat⟩)
        (fun Y u s' a' hk hat hp => ⟨.pan u, s', Y, hk, ⟨rfl, hp⟩, rfl, hat⟩) ops.toList 0 (fun j => by simp) (by simp) X s a h hq
      simpa using this
    | true => exact draw_sound hT hm hok h hq (fun Y s' a' hk hat => ⟨.normal, s', Y, hk, True.intro, rfl, hat⟩) (fun Y u s' a' hk hat hp => ⟨.pan u, s', Y, hk, ⟨rfl, hp⟩, rfl, hat⟩)
  | .seq x y, hok, Q, X, s, a, h, hq => by
    simp only [okCode, Bool.and_eq_true] at hok
    refine wp_seq (wp_mono (awp_sound hT hm x hok.1 _ X s a h hq) ?_)
    rintro e a' w' ⟨E, s', Y, hk, he, rfl, hat⟩
    cases E <;> cases e <;> first
      | exact he.elim
      | exact awp_sound hT hm y hok.2 Q Y s' a' hat hk
      | exact ⟨_, s', Y, hk, he, rfl, hat⟩
  | .cond c x y, hok, Q, X, s, a, h, hq => by
    simp only [okCode, Bool.and_eq_true] at hok
    simp only [awp] at hq
    split at hq
    · rename_i b hb
      have hv := h.st.ev c
      rw [hb, VR_bool] at hv
      cases b with
      | true => exact wp_cond_true hv (awp_sound hT hm x hok.1 Q X s a h hq)
      | false => exact wp_cond_false hv (awp_sound hT hm y hok.2 Q X s a h hq)
    · exact hq.elim
  | .block id c, hok, Q, X, s, a, h, hq => by
    refine wp_block (wp_mono (awp_sound hT hm c hok _ X s a h hq) ?_)
    rintro e a' w' ⟨E, s', Y, hk, he, rfl, hat⟩
    cases E with
    | exit i =>
      cases e with
      | exit j =>
        have : i = j := he
        subst this
        simp only [blockX] at hk
        cases hb : Nat.beq i id with
        | true =>
          simp only [hb, cond_true] at hk
          simp only [Exit.inBlock, if_pos (Nat.eq_of_beq_eq_true hb)]
          exact ⟨.normal, s', Y, hk, True.intro, rfl, hat⟩
        | false =>
          simp only [hb, cond_false] at hk
          have : i ≠ id := fun h => by subst h; simp at hb
          simp only [Exit.inBlock, if_neg this]
          exact ⟨.exit i, s', Y, hk, rfl, rfl, hat⟩
      | _ => exact he.elim
    | _ => cases e <;> first
      | exact he.elim
      | exact ⟨_, s', Y, hk, he, rfl, hat⟩
  | .loop c, hok, Q, X, s, a, h, hq => by
    obtain ⟨k, hk⟩ := hq
    refine wp_loop_rounds k ?_
    have key : ∀ (k : Nat) (X : Ctx) (s : St) (a : Act), At n X0 H0 X s a → roundsA (awp P T H0.length c) H0.length Q k s → Code.rounds P c (PostR n X0 H0 Q) k a X.w := by
      intro k
      induction k with
      | zero => intro X s a _ h; exact h.elim
      | succ k ih =>
        intro X s a h hr
        obtain ⟨is, L, H', hw, hf⟩ := hr
        obtain ⟨Y, hY, hat⟩ := Weak.at_ (n0 := H0.length) h hw
        rw [← hY, rounds_succ]
        refine wp_mono (awp_sound hT hm c hok _ Y _ a hat hf) ?_
        rintro e a' w' ⟨E, s', Z, hk', he, rfl, hat'⟩
        cases E <;> cases e <;> first
          | exact he.elim
          | exact ih Z s' a' hat' hk'
          | exact ⟨_, s', Z, hk', he, rfl, hat'⟩
    exact key k X s a h hk
  | .rangeFunc .., _, _, _, _, _, _, hq => hq.elim
  | .scope .., _, _, _, _, _, _, hq => hq.elim
  | .goto .., _, _, _, _, _, _, hq => hq.elim
  | .refuse .., _, _, _, _, _, _, hq => hq.elim
end
end Go.Proofs.Ytpjjfcgmckpboaa.A
