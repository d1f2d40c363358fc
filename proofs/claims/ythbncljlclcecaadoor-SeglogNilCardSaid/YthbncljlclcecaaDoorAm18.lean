/- A call is told at the objects that it needs alone; what else there is stays as it is. No condition. -/
import Derived.Test.YthbncljlclcecaaDoorAm16
import Derived.Laws.Externs
namespace Go.Proofs.YthbncljlclcecaaDoor.A
open Go
set_option linter.unusedVariables false
set_option linter.unusedSimpArgs false

/-- A call, told at the objects is alone. -/
theorem callS {P : Program} {g : FuncId} {as : List AV} {Hs : Heap} {R : AEnd → Heap → Prop} (hs : ACalls P g as Hs R) (is : List Nat) {H : Heap} (hsel : Sel H (rn is H.length) is Hs) (hn : noDup is = true)
    {K : AEnd → Heap → Prop} (hK : ∀ E Hs', R E Hs' → is.length ≤ Hs'.length → ∃ E' H', renE (rn is H.length) E = E' ∧ merge H is (renH (rn is H.length) Hs') = H' ∧ K E' H') : ACalls P g (renL (rn is H.length) as) H K := by
  intro X vs hr hv
  have hlen := hsel.length
  have hrin : ∀ k j, is[k]? = some j → rn is H.length k = j := fun k j hk => by simp only [rn, nth_eq, hk]
  have hrout : ∀ k, is.length ≤ k → rn is H.length k = H.length + (k - is.length) := fun k hk => by simp only [rn, nth_eq, List.getElem?_eq_none hk]
  let Xs : Ctx := X.sel is
  have hφ1 : ∀ i b, X.φ (rn is H.length i) = some b → Xs.φ i = some b := fun i b hb => sel_φ' hr hb
  have hrs : HR Xs Hs := hr.sel hsel hn
  have hown : ∀ b, Owned Xs Hs b → ∃ j bj, j ∈ is ∧ live H j ∧ X.φ j = some bj ∧ bj.block = b := fun b hb => hb.sel hsel
  have hownX : ∀ b, Owned Xs Hs b → Owned X H b := fun b hb => by
    obtain ⟨j, bj, _, h1, h2, h3⟩ := hown b hb
    exact ⟨j, bj, h1, h2, h3⟩
  refine (hs Xs vs hrs (VL.ren hφ1 rfl rfl as _ hv)).mono ?_
  rintro e w' ⟨E, Hs', Ys, hR, rfl, hE, hrY, hext, hφa, hle⟩
  let Y : Ctx := ⟨fun j => if j < H.length then X.φ j else Ys.φ (is.length + (j - H.length)), Ys.F, Ys.w⟩
  have hφ2 : ∀ i b, Ys.φ i = some b → Y.φ (rn is H.length i) = some b := fun i b hb => by
    cases hq : is[i]? with
    | none =>
      have h1 : is.length ≤ i := List.getElem?_eq_none_iff.1 hq
      rw [hrout i h1]
      show (if _ then _ else _) = _
      rw [if_neg (by omega), show is.length + (H.length + (i - is.length) - H.length) = i by omega]
      exact hb
    | some j =>
      rw [hrin i j hq]
      have h1 := hsel.lt hq
      show (if _ then _ else _) = _
      rw [if_pos h1.1]
      rw [hφa i h1.2] at hb
      have : is[i]?.bind X.φ = some b := hb
      rw [hq] at this
      exact this
  have hφX : ∀ i b, X.φ i = some b → Y.φ i = some b := fun i b hb => by
    show (if _ then _ else _) = _
    rw [if_pos (hr.lt i b hb).1]
    exact hb
  have hleX : Le X Y := ⟨hφX, hext.F, fun b hb => hext.keep b (hr.fl b hb) (fun ho => by
      obtain ⟨j, bj, _, h1, h2, rfl⟩ := hown b ho
      exact hr.fz j bj h1 h2 hb), hext.shape⟩
  have hml : (merge H is (renH (rn is H.length) Hs')).length = H.length + (Hs'.length - is.length) := by
    simp [merge, setMany_length, renH_length]
  have horig : ∀ j o, (merge H is (renH (rn is H.length) Hs'))[j]? = some o →
      (∃ q os, Hs'[q]? = some os ∧ o = renO (rn is H.length) os ∧ Y.φ j = Ys.φ q ∧ rn is H.length q = j) ∨ (j < H.length ∧ j ∉ is ∧ H[j]? = some o ∧ Y.φ j = X.φ j) := by
    intro j o ho
    unfold merge at ho
    by_cases hj : j < H.length
    · have hYj : Y.φ j = X.φ j := if_pos hj
      rw [List.getElem?_append_left (by rw [setMany_length]; exact hj)] at ho
      by_cases hm : j ∈ is
      · left
        obtain ⟨k, hk⟩ := List.getElem?_of_mem hm
        rw [setMany_in H is _ hn (by rw [renH_length, hlen]; exact hle) k j hk hj, renH_get] at ho
        cases hq : Hs'[k]? with
        | none => rw [hq] at ho; cases ho
        | some os =>
          rw [hq] at ho
          simp only [Option.map_some, Option.some.injEq] at ho
          refine ⟨k, os, hq, ho.symm, ?_, hrin k j hk⟩
          rw [hYj, hφa k (hsel.lt hk).2]
          show X.φ j = is[k]?.bind X.φ
          rw [hk]
          rfl
      · right
        rw [setMany_out _ _ _ _ hm] at ho
        exact ⟨hj, hm, ho, hYj⟩
    · left
      rw [List.getElem?_append_right (by rw [setMany_length]; omega), setMany_length, List.getElem?_drop, renH_get] at ho
      cases hq : Hs'[is.length + (j - H.length)]? with
      | none => rw [hq] at ho; cases ho
      | some os =>
        rw [hq] at ho
        simp only [Option.map_some, Option.some.injEq] at ho
        refine ⟨_, os, hq, ho.symm, if_neg hj, ?_⟩
        rw [hrout _ (by omega)]
        omega
  have hcross : ∀ q b j b', live Hs' q → Ys.φ q = some b → j ∉ is → live H j → X.φ j = some b' → b.block ≠ b'.block := by
    intro q b j b' h1 h2 h3 h4 h5 he
    rcases hext.own b.block ⟨q, b, h1, h2, rfl⟩ with h6 | h6
    · obtain ⟨j1, bj, h7, h8, h9, h10⟩ := hown _ h6
      exact hr.sep j1 j bj b' (fun h => h3 (h ▸ h7)) h8 h4 h9 h5 (h10.trans he)
    · have := (hr.lt j b' h5).2.2
      have h6' : X.w.heap.size ≤ b.block := h6
      omega
  have hliveM : ∀ j, live (merge H is (renH (rn is H.length) Hs')) j → (∃ q, live Hs' q ∧ Y.φ j = Ys.φ q ∧ rn is H.length q = j) ∨ (j ∉ is ∧ live H j ∧ Y.φ j = X.φ j) := by
    rintro j ⟨o, h1, h2⟩
    rcases horig j o h1 with ⟨q, os, h3, rfl, h4, h5⟩ | ⟨_, h3, h4, h5⟩
    · exact .inl ⟨q, ⟨os, h3, by rw [renO_live] at h2; exact h2⟩, h4, h5⟩
    · exact .inr ⟨h3, ⟨o, h4, h2⟩, h5⟩
  have hkeep : ∀ j b, j ∉ is → live H j → X.φ j = some b → Ys.w.heap[b.block]? = X.w.heap[b.block]? := fun j b h1 h2 h3 =>
    hext.keep b.block (hr.lt j b h3).2.2 fun ho => by
      obtain ⟨j1, bj, h4, h5, h6, h7⟩ := hown _ ho
      exact hr.sep j1 j bj b (fun h => h1 (h ▸ h4)) h5 h2 h6 h3 h7
  obtain ⟨E', H', rfl, rfl, hKK⟩ := hK E Hs' hR (by omega)
  refine ⟨_, _, Y, hKK, rfl, ?_, ?_, ?_, fun i hi => if_pos hi, by rw [hml]; omega⟩
  · cases E with
    | ret v =>
      cases e with
      | returned u => exact VR.name hφ2 rfl rfl v u hE
      | panicked _ => exact hE
      | outgrown => exact hE
    | pan u => cases e <;> exact hE
  · refine ⟨fun j b hb => ?_, fun j cs b hj hb => ?_, fun j es b hj hb => ?_, fun i j bi bj hne hi hj hbi hbj => ?_, fun j b hj hb => ?_, hrY.fl⟩
    · rw [hml]
      have hb' : (if j < H.length then X.φ j else Ys.φ (is.length + (j - H.length))) = some b := hb
      split at hb'
      · have := hr.lt j b hb'
        exact ⟨by omega, this.2.1, Nat.lt_of_lt_of_le this.2.2 hext.size⟩
      · have := hrY.lt _ b hb'
        exact ⟨by omega, this.2⟩
    · rcases horig j _ hj with ⟨q, os, h3, h4, h5, h6⟩ | ⟨_, h3, h4, h5⟩
      · cases os with
        | row cs' =>
          simp only [renO, AObj.row.injEq] at h4
          subst h4
          exact RowR.name hφ2 rfl rfl (hrY.row q cs' b h3 (h5 ▸ hb))
        | _ => cases h4
      · rw [h5] at hb
        exact RowR.mono hleX (hkeep j b h3 ⟨_, h4, rfl⟩ hb) (hr.row j cs b h4 hb)
    · rcases horig j _ hj with ⟨q, os, h3, h4, h5, h6⟩ | ⟨_, h3, h4, h5⟩
      · cases os with
        | mp es' =>
          simp only [renO, AObj.mp.injEq] at h4
          subst h4
          exact MapR.name hφ2 rfl rfl (hrY.mp q es' b h3 (h5 ▸ hb))
        | _ => cases h4
      · rw [h5] at hb
        exact MapR.mono hleX (hkeep j b h3 ⟨_, h4, rfl⟩ hb) (hr.mp j es b h4 hb)
    · rcases hliveM i hi with ⟨q, h1, h2, h3⟩ | ⟨h1, h2, h3⟩
      · rcases hliveM j hj with ⟨q', h4, h5, h6⟩ | ⟨h4, h5, h6⟩
        · exact hrY.sep q q' bi bj (fun he => hne (by rw [← h3, ← h6, he])) h1 h4 (h2 ▸ hbi) (h5 ▸ hbj)
        · exact hcross q bi j bj h1 (h2 ▸ hbi) h4 h5 (h6 ▸ hbj)
      · rcases hliveM j hj with ⟨q', h4, h5, h6⟩ | ⟨h4, h5, h6⟩
        · exact Ne.symm (hcross q' bj i bi h4 (h5 ▸ hbj) h1 h2 (h3 ▸ hbi))
        · exact hr.sep i j bi bj hne h2 h5 (h3 ▸ hbi) (h6 ▸ hbj)
    · rcases hliveM j hj with ⟨q, h1, h2, h3⟩ | ⟨h1, h2, h3⟩
      · exact hrY.fz q b h1 (h2 ▸ hb)
      · rw [h3] at hb
        intro hF
        rcases hext.Fn b.block hF with h4 | h4 | h4
        · exact hr.fz j b h2 hb h4
        · obtain ⟨j1, bj, h5, h6, h7, h8⟩ := hown _ h4
          exact hr.sep j1 j bj b (fun h => h1 (h ▸ h5)) h6 h2 h7 hb h8
        · have := (hr.lt j b hb).2.2
          have h4' : X.w.heap.size ≤ b.block := h4
          omega
  · refine ⟨hext.size, fun b hb hno => hext.keep b hb fun ho => hno (hownX b ho), hext.shape, fun b ⟨j, bj, h1, h2, h3⟩ => ?_, hext.F, fun b hF => ?_, hext.os, hext.tape, hext.output⟩
    · rcases hliveM j h1 with ⟨q, h4, h5, h6⟩ | ⟨h4, h5, h6⟩
      · rcases hext.own b ⟨q, bj, h4, h5 ▸ h2, h3⟩ with h7 | h7
        · exact .inl (hownX b h7)
        · exact .inr h7
      · exact .inl ⟨j, bj, h5, h6 ▸ h2, h3⟩
    · rcases hext.Fn b hF with h4 | h4 | h4
      · exact .inl h4
      · exact .inr (.inl (hownX b h4))
      · exact .inr (.inr h4)
end Go.Proofs.YthbncljlclcecaaDoor.A

namespace Go.Proofs.YthbncljlclcecaaDoor.A
open Go
set_option linter.unusedVariables false
set_option linter.unusedSimpArgs false

/-- It returns v, and leaves nothing. -/
def Ret (v : AV) : AEnd → Heap → Prop := fun E H => E = .ret v ∧ H = []
/-- The end of a function that is told by values alone. -/
theorem end0 {T : Tab} {rs : List ResultVar} {u : AV} {s : St} {vs : List AV} {v : AV} (hd : s.ds = []) (hv : resV T s rs = some vs) (hf : frz s.H 0 8 (mkR vs) = some v) (hR : v = u) : endK T rs 0 (Ret u) .ret s :=
  ⟨hd, [], v, ⟨⟨vs, hv, hf⟩, True.intro, Nat.zero_le _, rfl⟩, by rw [hR], rfl⟩
theorem callP {P : Program} {g : FuncId} {as args : List AV} {v : AV} {H : Heap} {K : AV → Heap → Prop} {Kp : Value → Heap → Prop} (h : ACalls P g as [] (Ret v)) (ha : args = renL (rn [] H.length) as) (hv : ren (rn [] H.length) v = v) (k : K v H) :
    ACalls P g args H (panK K Kp) := by
  subst ha
  refine callS h [] True.intro rfl ?_
  rintro E Hs' ⟨rfl, rfl⟩ _
  refine ⟨_, _, rfl, rfl, ?_⟩
  simp only [renE, hv, renH, merge, setMany, List.drop_nil, List.append_nil]
  exact k
/-- A call of a function that is told by values, of whose outcome only R is known. -/
theorem callE {P : Program} {g : FuncId} {as args : List AV} {R : AV → Prop} {H : Heap} {K : AV → Heap → Prop} {Kp : Value → Heap → Prop} (h : ACalls P g as [] (fun E G => ∃ v, R v ∧ E = .ret v ∧ G = [])) (ha : args = renL (rn [] H.length) as)
    (hv : ∀ v, R v → ren (rn [] H.length) v = v) (k : ∀ v, R v → K v H) : ACalls P g args H (panK K Kp) := by
  subst ha
  refine callS h [] True.intro rfl ?_
  rintro E Hs' ⟨v, hr, rfl, rfl⟩ _
  refine ⟨_, _, rfl, rfl, ?_⟩
  simp only [renE, hv v hr, renH, merge, setMany, List.drop_nil, List.append_nil]
  exact k v hr
/-- A call that is told at the objects is alone, and has one outcome. -/
theorem callH {P : Program} {g : FuncId} {as args : List AV} {v v' : AV} {Hs Hs' H H' : Heap} {K : AV → Heap → Prop} {Kp : Value → Heap → Prop} (h : ACalls P g as Hs (fun E G => E = .ret v ∧ G = Hs')) (is : List Nat) (ha : args = renL (rn is H.length) as)
    (hsel : Sel H (rn is H.length) is Hs) (hn : noDup is = true) (hv : ren (rn is H.length) v = v') (hm : merge H is (renH (rn is H.length) Hs') = H') (k : K v' H') : ACalls P g args H (panK K Kp) := by
  subst ha
  refine callS h is hsel hn ?_
  rintro E G ⟨rfl, rfl⟩ _
  refine ⟨_, _, rfl, hm, ?_⟩
  simp only [renE, hv]
  exact k
theorem rdN_all {H : Heap} {p n : Nat} {cs : List AV} (h : nth H p = some (.row cs)) (hl : n = cs.length) : rdN H p 0 n = some cs := by
  unfold rdN
  rw [h]
  have : Nat.ble (0 + n) cs.length = true := by rw [Nat.ble_eq]; omega
  simp only [this, cond_true, List.drop_zero]
  rw [List.take_of_length_le (by omega)]
/-- A loop whose rounds are told by x; m x rounds are left, and the last look. -/
theorem loopI {α : Type} {P : Program} {T : Tab} {n0 : Nat} {cuts : List Nat} {c : Code} {Q : AX → St → Prop} {s : St} (L : α → List (Nat × AV)) (Hh : α → Heap) (m : α → Nat) (x0 : α) (is : List Nat) (hw : Weak n0 s is (L x0) (Hh x0))
    (step : ∀ (x : α) (K : St → Prop), (∀ (y : α) (is' : List Nat) (s' : St), m x = m y + 1 → Weak n0 s' is' (L y) (Hh y) → K s') → awp P T n0 cuts c (nextX K Q) ⟨frL (L x), Hh x, []⟩) : awp P T n0 cuts (.loop c) Q s := by
  refine ⟨m x0 + 1, ?_⟩
  have key : ∀ (k : Nat) (x : α) (s : St) (is : List Nat), m x = k → Weak n0 s is (L x) (Hh x) → roundsA (awp P T n0 cuts c) n0 Q (k + 1) s := by
    intro k
    induction k with
    | zero =>
      intro x s is hm hw
      exact ⟨[], is, L x, Hh x, [], .inl hw, step x _ fun y is' s' he _ => by omega⟩
    | succ k ih =>
      intro x s is hm hw
      exact ⟨[], is, L x, Hh x, [], .inl hw, step x _ fun y is' s' he hw' => ih y s' is' (by omega) hw'⟩
  exact key _ x0 s is rfl hw
/-- The same; nil slices are told as rows of nothing, and something may be deferred. -/
theorem loopG {α : Type} {P : Program} {T : Tab} {n0 : Nat} {cuts : List Nat} {c : Code} {Q : AX → St → Prop} {s : St} (L : α → List (Nat × AV)) (Hh : α → Heap) (D : List AD) (m : α → Nat) (x0 : α) (gs : List Gh) (is : List Nat) (hw : Weak n0 (ghosts s gs) is (L x0) (Hh x0) D)
    (step : ∀ (x : α) (K : St → Prop), (∀ (y : α) (gs' : List Gh) (is' : List Nat) (s' : St), m x = m y + 1 → Weak n0 (ghosts s' gs') is' (L y) (Hh y) D → K s') → awp P T n0 cuts c (nextX K Q) ⟨frL (L x), Hh x, D⟩) : awp P T n0 cuts (.loop c) Q s := by
  refine ⟨m x0 + 1, ?_⟩
  have key : ∀ (k : Nat) (x : α) (s : St) (gs : List Gh) (is : List Nat), m x = k → Weak n0 (ghosts s gs) is (L x) (Hh x) D → roundsA (awp P T n0 cuts c) n0 Q (k + 1) s := by
    intro k
    induction k with
    | zero =>
      intro x s gs is hm hw
      exact ⟨gs, is, L x, Hh x, D, .inl hw, step x _ fun y gs' is' s' he _ => by omega⟩
    | succ k ih =>
      intro x s gs is hm hw
      exact ⟨gs, is, L x, Hh x, D, .inl hw, step x _ fun y gs' is' s' he hw' => ih y s' gs' is' (by omega) hw'⟩
  exact key _ x0 s gs is rfl hw
/-- A place between two parts of the code, where all is told by x. -/
theorem cutI {α : Type} {P : Program} {T : Tab} {n0 : Nat} {cuts : List Nat} {c d : Code} {Q : AX → St → Prop} {s : St} (L : α → List (Nat × AV)) (Hh : α → Heap) (D : List AD)
    (h1 : ∀ K : St → Prop, (∀ (x : α) (gs : List Gh) (is : List Nat) (s' : St), Weak n0 (ghosts s' gs) is (L x) (Hh x) D → K s') → awp P T n0 cuts c (nextX K Q) s)
    (h2 : ∀ x : α, awp P T n0 cuts d Q ⟨frL (L x), Hh x, D⟩) : CutP (awp P T n0 cuts c) (awp P T n0 cuts d) n0 Q s :=
  ⟨fun L' H' D' => ∃ x, L' = L x ∧ H' = Hh x ∧ D' = D, h1 _ fun x gs is s' hw => ⟨gs, is, L x, Hh x, D, hw, x, rfl, rfl, rfl⟩, fun L' H' D' ⟨x, h3, h4, h5⟩ => by subst h3 h4 h5; exact h2 x⟩
theorem wr_eq {H : Heap} {p off : Nat} {l cs : List AV} (h : nth H p = some (.row cs)) (hl : off + l.length ≤ cs.length) : wr H p off l = some (H.set p (.row (setAll cs off l))) := by
  unfold wr
  rw [h]
  have : Nat.ble (off + l.length) cs.length = true := (by rw [Nat.ble_eq]; exact hl)
  simp only [this, cond_true, setB_eq]
theorem wrpE (k : IntKind) (n : Int) : wrp k n = k.wrap n := by rw [wrp_eq]
theorem wi64 (n : Int) : IntKind.i64.wrap n = (n + 9223372036854775808) % 18446744073709551616 - 9223372036854775808 := by
  unfold IntKind.wrap
  simp [IntKind.signed, IntKind.bits]
  omega
theorem wu8 (n : Int) : IntKind.u8.wrap n = n % 256 := by simp [IntKind.wrap, IntKind.bits, IntKind.signed]
theorem strEq_eq (x y : ByteArray) : strEq x y = (x.data.toList == y.data.toList) := by rw [strEq, ByteArray.toList_eq, ByteArray.toList_eq]
end Go.Proofs.YthbncljlclcecaaDoor.A
