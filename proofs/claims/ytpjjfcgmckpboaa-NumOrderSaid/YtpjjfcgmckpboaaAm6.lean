/- One operation's abstract step is the model's step: memory, slices, and the rest of what calls nothing. No condition. -/
import Derived.Test.YtpjjfcgmckpboaaAm5
import Derived.Laws.Cells
import Derived.Laws.CopyRow
import Derived.Laws.Slices
import Derived.Laws.Strings
namespace Go.Proofs.Ytpjjfcgmckpboaa.A
open Go
set_option linter.unusedVariables false
set_option linter.unusedSimpArgs false

theorem exists_list {Q : Nat → Value → Prop} : ∀ n : Nat, (∀ j, j < n → ∃ v, Q j v) → ∃ vs : List Value, vs.length = n ∧ ∀ (j : Nat) (v : Value), vs[j]? = some v → Q j v
  | 0, _ => ⟨[], rfl, fun j v h => by simp at h⟩
  | n + 1, h => by
    obtain ⟨vs, h1, h2⟩ := exists_list n fun j hj => h j (by omega)
    obtain ⟨v, hv⟩ := h n (by omega)
    refine ⟨vs ++ [v], by simp [h1], fun j u hu => ?_⟩
    rcases Nat.lt_or_ge j n with hj | hj
    · rw [List.getElem?_append_left (by omega)] at hu
      exact h2 j u hu
    · rw [List.getElem?_append_right (by omega)] at hu
      have hj' : j = n := by
        have := (List.getElem?_eq_some_iff.1 hu).1
        simp at this
        omega
      subst hj'
      simp [h1] at hu
      exact hu ▸ hv
theorem add_spot (a : Addr) (j : Nat) (h : a.spot = none) : a.add j = ⟨a.block, a.off + j, none⟩ := by
  obtain ⟨b, o, s⟩ := a
  simp at h
  subst h
  unfold Addr.add
  split <;> simp_all

section
variable {P : Program} {T : Tab} {X : Ctx} {H : Heap}

def Done (P : Program) (X : Ctx) (H : Heap) (n : Nat) (o : Oper) (ρ : Operand → Value) (K : AV → Heap → Prop) : Prop :=
  ∃ a H1 Y v nx, K a H1 ∧ (execOp ρ o).run P X.w = .ok nx Y.w ∧ (nx = .value v ∨ (nx = .skip ∧ v = undef)) ∧ VR Y a v ∧ Step X H Y H1 ∧ ∀ i, i ≠ n → Y.φ i = X.φ i
theorem Done.same {n : Nat} {o : Oper} {ρ : Operand → Value} {K : AV → Heap → Prop} {a : AV} {v : Value} (hr : HR X H) (hk : K a H) (hrun : (execOp ρ o).run P X.w = .ok (.value v) X.w) (hv : VR X a v) : Done P X H n o ρ K :=
  ⟨a, H, X, v, _, hk, hrun, .inl rfl, hv, Step.refl hr, fun _ _ => rfl⟩
def Ctx.at (X : Ctx) (w : World) : Ctx := ⟨X.φ, X.F, w⟩
theorem Done.of_bin {n : Nat} {o : Oper} {ρ : Operand → Value} {K : AV → Heap → Prop} {s : Sem Value} (hr : HR X H) (ho : execOp ρ o = (do pure (.value (← s)))) (h : BinDone P X.w s fun a => K a H) : Done P X H n o ρ K := by
  obtain ⟨c, v, w1, hk, hrun, hw, hv⟩ := h
  refine ⟨c, H, X.at w1, v, .value v, hk, ?_, .inl rfl, hv _, ?_, fun _ _ => rfl⟩
  · rw [ho]
    simp [hrun, Ctx.at]
  · rcases hw with rfl | rfl
    · exact Step.refl hr
    · exact Step.same hr rfl rfl rfl rfl rfl rfl
/-- A new object's place among the numbers. -/
structure NewAt (X : Ctx) (H : Heap) (n : Nat) (N : AObj → Heap) : Prop where
  φ : X.φ n = none
  len : ∀ o, H.length ≤ (N o).length
  at_ : ∀ o, (N o)[n]? = some o
  old : ∀ o j, j ≠ n → (N o)[j]? = H[j]?
theorem NewAt.push (h : HR X H) : NewAt X H H.length fun o => H ++ [o] :=
  ⟨φ_out h (Nat.le_refl _), fun o => by simp, fun o => by simp, fun o j hj => by
    rcases Nat.lt_or_ge j H.length with h1 | h1
    · rw [List.getElem?_append_left h1]
    · rw [List.getElem?_append_right h1, List.getElem?_eq_none (by simp; omega), List.getElem?_eq_none h1]⟩
theorem Done.new {n : Nat} {N : AObj → Heap} {o : Oper} {ρ : Operand → Value} {K : AV → Heap → Prop} {a : AV} {v : Value} (hr : HR X H) (hn : NewAt X H n N) (go : Go.Obj) (ob : AObj) (hk : K a (N ob))
    (hrun : (execOp ρ o).run P X.w = .ok (.value v) (X.w.alloc go)) (hv : VR (X.new n go) a v)
    (hrow : ∀ cs, ob = .row cs → RowR (X.new n go) ⟨X.w.heap.size, 0, none⟩ cs) (hmp : ∀ es, ob = .mp es → MapR (X.new n go) ⟨X.w.heap.size, 0, none⟩ es) : Done P X H n o ρ K :=
  ⟨a, N ob, X.new n go, v, _, hk, hrun, .inl rfl, hv, Step.new hr n go ob hn.φ (hn.len _) (hn.at_ _) (hn.old _) hrow hmp, fun i hi => by simp [Ctx.new, hi]⟩
/-- A new row of cells. -/
theorem Done.newRow {n : Nat} {N : AObj → Heap} {o : Oper} {ρ : Operand → Value} {K : AV → Heap → Prop} {a : AV} {v : Value} (hr : HR X H) (hn : NewAt X H n N) (cs : List AV) (cells : Array Value) (e : TypeId)
    (hk : K a (N (.row cs))) (hrun : (execOp ρ o).run P X.w = .ok (.value v) (X.w.alloc (Go.Obj.cells cells e)))
    (hc : ∀ (k : Nat) (c : AV), cs[k]? = some c → ∃ u, cells[k]? = some u ∧ VR X c u)
    (hv : Le X (X.new n (Go.Obj.cells cells e)) → (X.new n (Go.Obj.cells cells e)).φ n = some ⟨X.w.heap.size, 0, none⟩ → (X.new n (Go.Obj.cells cells e)).w.heap[X.w.heap.size]? = some (Go.Obj.cells cells e (0, 0)) → VR (X.new n (Go.Obj.cells cells e)) a v) : Done P X H n o ρ K := by
  have hle := Le.new hr n (Go.Obj.cells cells e) hn.φ
  refine Done.new hr hn _ _ hk hrun (hv hle (by simp [Ctx.new]) (heap_alloc_at _ _)) (fun cs' h => ?_) (fun es h => by cases h)
  cases h
  exact ⟨cells, e, heap_alloc_at _ _, fun k c hkc => by
    obtain ⟨u, h1, h2⟩ := hc k c hkc
    exact ⟨u, by simpa using h1, VR.mono hle _ _ h2⟩⟩

theorem row_get (hr : HR X H) {p : Nat} {b : Addr} {cs : List AV} (hp : H[p]? = some (.row cs)) (hb : X.φ p = some b) {k : Nat} {c : AV} (hc : cs[k]? = some c) :
    ∃ v, X.w.cell? ⟨b.block, b.off + k, none⟩ = some v ∧ VR X c v := by
  obtain ⟨cells, e, h1, h2⟩ := hr.row p cs b hp hb
  obtain ⟨v, h3, h4⟩ := h2 k c hc
  exact ⟨v, by simp [World.cell?, h1, h3], h4⟩
theorem rd1_get (hr : HR X H) {p off : Nat} {b : Addr} {c : AV} (hb : X.φ p = some b) (h : rd1 H p off = some c) :
    ∃ v, X.w.cell? ⟨b.block, b.off + off, none⟩ = some v ∧ VR X c v := by
  unfold rd1 at h
  split at h
  · rename_i cs hp
    rw [nth_eq] at hp h
    exact row_get hr hp hb h
  · cases h
theorem list_of_gets {cs : List AV} {a : Addr} (hs : a.spot = none) (hg : ∀ (j : Nat) (c : AV), cs[j]? = some c → ∃ v, X.w.cell? ⟨a.block, a.off + j, none⟩ = some v ∧ VR X c v) :
    ∃ vs : List Value, vs.length = cs.length ∧ VL X cs vs ∧ ∀ (j : Nat) (v : Value), vs[j]? = some v → X.w.cell? (a.add j) = some v := by
  obtain ⟨vs, h1, h2⟩ := exists_list (Q := fun j v => X.w.cell? (a.add j) = some v ∧ ∀ c, cs[j]? = some c → VR X c v) cs.length fun j hj => by
    obtain ⟨v, h3, h4⟩ := hg j cs[j] (List.getElem?_eq_getElem hj)
    refine ⟨v, by rw [add_spot a j hs]; exact h3, fun c hc => ?_⟩
    rw [List.getElem?_eq_getElem hj] at hc
    exact Option.some.inj hc ▸ h4
  exact ⟨vs, h1, VL.of_get h1.symm fun i c v hc hv => (h2 i v hv).2 c hc, fun j v hv => (h2 j v hv).1⟩
theorem rdN_row {p off n : Nat} {cs : List AV} (h : rdN H p off n = some cs) : ∃ all : List AV, H[p]? = some (AObj.row all) ∧ off + n ≤ all.length ∧ cs = (all.drop off).take n := by
  unfold rdN at h
  split at h
  · rename_i all hp
    rw [nth_eq] at hp
    cases hb : Nat.ble (off + n) all.length with
    | false => simp [hb] at h
    | true =>
      simp only [hb, cond_true, Option.some.injEq] at h
      exact ⟨all, hp, Nat.le_of_ble_eq_true hb, h.symm⟩
  · cases h
theorem rdN_get (hr : HR X H) {p off n : Nat} {b : Addr} {cs : List AV} (hb : X.φ p = some b) (h : rdN H p off n = some cs) :
    cs.length = n ∧ ∀ (j : Nat) (c : AV), cs[j]? = some c → ∃ v, X.w.cell? ⟨b.block, b.off + off + j, none⟩ = some v ∧ VR X c v := by
  obtain ⟨all, hp, hle, rfl⟩ := rdN_row h
  refine ⟨by simp; omega, fun j c hc => ?_⟩
  rw [List.getElem?_take] at hc
  split at hc
  · rw [List.getElem?_drop] at hc
    obtain ⟨v, h1, h2⟩ := row_get hr hp hb hc
    exact ⟨v, by rw [Nat.add_assoc]; exact h1, h2⟩
  · cases hc
theorem loadCells_run {cs : List AV} {a : Addr} (hs : a.spot = none) (hg : ∀ (j : Nat) (c : AV), cs[j]? = some c → ∃ v, X.w.cell? ⟨a.block, a.off + j, none⟩ = some v ∧ VR X c v) (n : Nat) (hn : cs.length = n) :
    ∃ vs : List Value, (loadCells a n).run P X.w = .ok vs.toArray X.w ∧ VL X cs vs := by
  obtain ⟨vs, h1, h2, h3⟩ := list_of_gets hs hg
  subst hn
  rw [← h1]
  exact ⟨vs, run_loadCells_list X.w a vs h3, h2⟩
theorem loadVar_agg {t : TypeId} {i : TI} (hi : TOkAt P t i) (hd : i.d.agg = true) {cs : List AV} {a : Addr} (hs : a.spot = none)
    (hg : ∀ (j : Nat) (c : AV), cs[j]? = some c → ∃ v, X.w.cell? ⟨a.block, a.off + j, none⟩ = some v ∧ VR X c v) (hn : cs.length = i.size) : ∃ v, (Instr.loadAt t (.pointer (some a))).run P X.w = .ok v X.w ∧ VR X (.agg cs) v := by
  obtain ⟨vs, h1, h2⟩ := loadCells_run (P := P) hs hg i.size hn
  refine ⟨.agg vs.toArray, ?_, by simp only [VR]; exact ⟨_, rfl, h2⟩⟩
  simp [Instr.loadAt, Instr.sureAddr, loadVar, isAgg_run hi, hd, sizeOf_run hi, h1]
theorem loadVar_one {t : TypeId} {i : TI} (hi : TOkAt P t i) (hd : i.d.agg = false) {a : Addr} {v : Value} (hg : X.w.cell? a = some v) : (Instr.loadAt t (.pointer (some a))).run P X.w = .ok v X.w := by
  simp [Instr.loadAt, Instr.sureAddr, loadVar, isAgg_run hi, hd, hg]

theorem setAll_length : ∀ (l cs : List AV) (off : Nat), (setAll cs off l).length = cs.length
  | [], _, _ => rfl
  | a :: l, cs, off => by simp [setAll, setAll_length l]
theorem setAll_get : ∀ (l cs : List AV) (off k : Nat), off + l.length ≤ cs.length → (setAll cs off l)[k]? = if off ≤ k ∧ k < off + l.length then l[k - off]? else cs[k]?
  | [], cs, off, k, _ => by simp [setAll]; omega
  | a :: l, cs, off, k, h => by
    simp only [List.length_cons] at h
    rw [setAll, setAll_get l _ _ k (by simp; omega)]
    by_cases h1 : k = off
    · subst h1
      rw [if_neg (by omega), if_pos (by simp), List.getElem?_set_self (by omega)]
      simp
    · by_cases h2 : off + 1 ≤ k ∧ k < off + 1 + l.length
      · rw [if_pos h2, if_pos (by simp; omega)]
        rw [show k - off = (k - (off + 1)) + 1 by omega]
        simp
      · rw [if_neg h2, List.getElem?_set_ne (by omega), if_neg (by simp; omega)]
theorem foldl_set_length (vs : List Value) : ∀ (cs : Array Value) (off k : Nat), ((vs.zipIdx k).foldl (fun (cs : Array Value) (x : Value × Nat) => cs.setIfInBounds (off + x.2) x.1) cs).size = cs.size := by
  induction vs with
  | nil => intro cs off k; rfl
  | cons v vs ih => intro cs off k; simp only [List.zipIdx_cons, List.foldl_cons]; rw [ih]; simp
theorem foldl_set_get (vs : List Value) : ∀ (cs : Array Value) (off k j : Nat), off + k + vs.length ≤ cs.size →
    ((vs.zipIdx k).foldl (fun (cs : Array Value) (x : Value × Nat) => cs.setIfInBounds (off + x.2) x.1) cs)[j]? = if off + k ≤ j ∧ j < off + k + vs.length then vs[j - (off + k)]? else cs[j]? := by
  induction vs with
  | nil => intro cs off k j h; simp; omega
  | cons v vs ih =>
    intro cs off k j h
    simp only [List.length_cons] at h
    simp only [List.zipIdx_cons, List.foldl_cons]
    rw [ih _ _ _ _ (by simp; omega)]
    by_cases h1 : j = off + k
    · subst h1
      rw [if_neg (by omega), if_pos (by simp), Array.getElem?_setIfInBounds_self_of_lt (by omega)]
      simp
    · by_cases h2 : off + (k + 1) ≤ j ∧ j < off + (k + 1) + vs.length
      · rw [if_pos h2, if_pos (by simp; omega)]
        rw [show j - (off + k) = (j - (off + (k + 1))) + 1 by omega]
        simp
      · rw [if_neg h2, Array.getElem?_setIfInBounds_ne (by omega), if_neg (by simp; omega)]
theorem fillA_length {place : Nat → Option (Nat × Nat)} : ∀ {parts : List (Nat × AV)} {cs r : List AV}, fillA place cs parts = some r → r.length = cs.length
  | [], cs, r, h => by simp [fillA] at h; rw [h]
  | (i, a) :: parts, cs, r, h => by
    simp only [fillA] at h
    split at h
    · rename_i off size l hp hc
      cases hb1 : Nat.beq l.length size with
      | false => simp [hb1] at h
      | true =>
        cases hb2 : Nat.ble (off + size) cs.length with
        | false => simp [hb1, hb2] at h
        | true =>
          cases hb3 : allC l with
          | false => simp [hb1, hb2, hb3] at h
          | true =>
            simp only [hb1, hb2, hb3, cond_true] at h
            rw [fillA_length h, setAll_length]
    · cases h
/-- The model's filling follows ours. -/
theorem fill_run {place : Nat → Option (Nat × Nat)} : ∀ (parts : List (Nat × AV)) (vals : List (Nat × Value)) (cs : List AV) (cells : Array Value) (r : List AV), fillA place cs parts = some r →
    parts.length = vals.length → (∀ (j : Nat) (p : Nat × AV) (q : Nat × Value), parts[j]? = some p → vals[j]? = some q → p.1 = q.1 ∧ VR X p.2 q.2) → VL X cs cells.toList →
    ∃ rs, Instr.fill place cells vals = some rs ∧ VL X r rs.toList
  | [], [], cs, cells, r, h, _, _, hl => by
    simp only [fillA, Option.some.injEq] at h
    subst h
    exact ⟨cells, rfl, hl⟩
  | [], _ :: _, _, _, _, _, h, _, _ => by simp at h
  | _ :: _, [], _, _, _, _, h, _, _ => by simp at h
  | (i, a) :: parts, (j, v) :: vals, cs, cells, r, h, hlen, hg, hl => by
    obtain ⟨h1, h2⟩ := hg 0 (i, a) (j, v) rfl rfl
    simp only at h1 h2
    subst h1
    simp only [fillA] at h
    split at h
    · rename_i off size l hp hc
      cases hb1 : Nat.beq l.length size with
      | false => simp [hb1] at h
      | true =>
        cases hb2 : Nat.ble (off + size) cs.length with
        | false => simp [hb1, hb2] at h
        | true =>
          cases hb3 : allC l with
          | false => simp [hb1, hb2, hb3] at h
          | true =>
            simp only [hb1, hb2, hb3, cond_true] at h
            have hs : l.length = size := Nat.eq_of_beq_eq_true hb1
            have hle : off + size ≤ cs.length := Nat.le_of_ble_eq_true hb2
            have hv := cellsOf_rel hc h2 hb3
            have hvl : v.cells.size = size := by
              have := hv.length
              simp at this
              omega
            have hcl : cells.size = cs.length := by
              have := hl.length
              simp at this
              omega
            have hset : VL X (setAll cs off l) ((v.cells.zipIdx).foldl (fun (cs : Array Value) (x : Value × Nat) => cs.setIfInBounds (off + x.2) x.1) cells).toList := by
              rw [← Array.foldl_toList, Array.toList_zipIdx]
              refine VL.of_get ?_ fun k c u hc' hu => ?_
              · rw [setAll_length]
                exact hcl.symm.trans ((foldl_set_length v.cells.toList cells off 0).symm.trans Array.length_toList.symm)
              · rw [setAll_get _ _ _ _ (by omega)] at hc'
                rw [Array.getElem?_toList, foldl_set_get _ _ _ _ _ (by simp; omega)] at hu
                simp only [Nat.add_zero, Array.length_toList] at hu
                by_cases hk : off ≤ k ∧ k < off + l.length
                · rw [if_pos hk] at hc'
                  rw [if_pos (by omega)] at hu
                  obtain ⟨u', h3, h4⟩ := hv.get _ _ hc'
                  rw [h3] at hu
                  exact Option.some.inj hu ▸ h4
                · rw [if_neg hk] at hc'
                  rw [if_neg (by omega)] at hu
                  obtain ⟨u', h3, h4⟩ := hl.get _ _ hc'
                  rw [Array.getElem?_toList] at h3
                  rw [h3] at hu
                  exact Option.some.inj hu ▸ h4
            obtain ⟨rs, h5, h6⟩ := fill_run parts vals _ _ r h (by simpa using hlen) (fun j' p q hp' hq' => hg (j' + 1) p q (by simpa using hp') (by simpa using hq')) hset
            refine ⟨rs, ?_, h6⟩
            unfold Instr.fill
            simp only [hp]
            rw [if_neg (by simp [hvl]; omega)]
            exact h5
    · cases h
end
end Go.Proofs.Ytpjjfcgmckpboaa.A
