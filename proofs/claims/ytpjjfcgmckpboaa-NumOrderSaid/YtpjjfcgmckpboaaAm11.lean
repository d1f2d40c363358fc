/- Stores, appends, copies: the abstract step is the model's step. No condition. -/
import Derived.Test.YtpjjfcgmckpboaaAm10
import Derived.Laws.Tables
namespace Go.Proofs.Ytpjjfcgmckpboaa.A
open Go
set_option linter.unusedVariables false
set_option linter.unusedSimpArgs false

/-- How many elements a source has. -/
def srcN : AV → Nat
  | .sc (.string s) => s.size
  | .view len _ => len
  | .slc _ _ len _ => len
  | _ => 0
def isNil : AV → Bool
  | .sc (.slice none 0 0) => true
  | _ => false
/-- So many elements, of the cells cs, are added to a slice. -/
def appTo (H : Heap) (j : TI) (a : AV) (m : Nat) (cs : List AV) (K : AV → Heap → Prop) : Prop :=
  match a with
  | .sc (.slice none 0 0) => If (Nat.beq m 0) (K (.sc (.slice none 0 0)) H) (Ob (m * j.bytes ≤ 140737488355328 ∧ m ≤ 9223372036854775807) (K (.slc H.length 0 m j.size) (H ++ [.row cs])))
  | .slc p off len sz => bif Nat.beq j.size sz then optK (rdN H p off (len * sz)) fun old =>
      Ob ((len + m) * j.bytes ≤ 140737488355328 ∧ len + m ≤ 9223372036854775807) (K (.slc H.length 0 (len + m) sz) (H.set p .dead ++ [.row (old ++ cs)])) else False
  | _ => False
def appA (T : Tab) (H : Heap) (st xt : TypeId) (a b : AV) (K : AV → Heap → Prop) : Prop :=
  match T st, T xt with
  | some { d := .slice e, .. }, some xi =>
    match T e with
    | some j =>
      bif Nat.beq j.zero.cells.size j.size then
        match xi.d with
        | .int _ =>
          match b with
          | .sc (.int _ n) => bif zeroOk j.zero then Ob (0 ≤ n ∧ n ≤ 140737488355328 ∧ n * j.bytes ≤ 140737488355328) (appTo H j a n.toNat (zerosA j.zero n.toNat) K) else False
          | _ => False
        | _ => optK (srcA H j.size b) fun cs => Ob (allC cs = true) (appTo H j a (srcN b) cs K)
      else False
    | none => False
  | _, _ => False
def storeA (T : Tab) (H : Heap) (t : TypeId) (a x : AV) (K : AV → Heap → Prop) : Prop :=
  match T t, a, cellsOf x with
  | some i, .ptr p off, some l => bif Nat.beq l.length i.size && allC l then optK (wr H p off l) fun H' => K undefA H' else False
  | _, _, _ => False

section
variable {P : Program} {T : Tab} {X : Ctx} {H : Heap}

theorem set_same {α : Type} {l : List α} {p : Nat} {x : α} (h : l[p]? = some x) : l.set p x = l := by
  apply List.ext_getElem?
  intro k
  rw [List.getElem?_set]
  split
  · rename_i hk
    subst hk
    rw [h]
    split
    · rfl
    · rename_i hn
      exact absurd (List.getElem?_eq_some_iff.1 h).1 hn
  · rfl
theorem splice_get (cur : List Value) (vs : List Value) (o k : Nat) (h : o + vs.length ≤ cur.length) :
    (cur.take o ++ vs ++ cur.drop (o + vs.length))[k]? = if o ≤ k ∧ k < o + vs.length then vs[k - o]? else cur[k]? := by
  have ht : (cur.take o).length = o := by simp; omega
  by_cases h1 : k < o
  · rw [if_neg (by omega), List.append_assoc, List.getElem?_append_left (by omega), List.getElem?_take_of_lt h1]
  · by_cases h2 : k < o + vs.length
    · rw [if_pos (by omega), List.append_assoc, List.getElem?_append_right (by omega), ht, List.getElem?_append_left (by omega)]
    · rw [if_neg (by omega), List.getElem?_append_right (by simp; omega), List.getElem?_drop]
      congr 1
      simp
      omega
theorem wr_row {p off : Nat} {l : List AV} {H' : Heap} (h : wr H p off l = some H') : ∃ cs, H[p]? = some (AObj.row cs) ∧ off + l.length ≤ cs.length ∧ H' = H.set p (.row (setAll cs off l)) := by
  unfold wr at h
  split at h
  · rename_i cs hp
    rw [nth_eq] at hp
    cases hb : Nat.ble (off + l.length) cs.length with
    | false => simp [hb] at h
    | true =>
      simp only [hb, cond_true, Option.some.injEq] at h
      exact ⟨cs, hp, Nat.le_of_ble_eq_true hb, h.symm⟩
  · cases h
/-- Cells of an object are written. -/
theorem wr_step (hr : HR X H) {p off : Nat} {l : List AV} {H' : Heap} (h : wr H p off l = some H') {b : Addr} (hb : X.φ p = some b) {vs : List Value} (hl : VL X l vs) (h1 : ∀ v ∈ vs, v.oneCell' = true) :
    ∃ w', (storeCells ⟨b.block, b.off + off, none⟩ vs).run P X.w = .ok () w' ∧ Step X H ⟨X.φ, X.F, w'⟩ H' := by
  obtain ⟨cs, hp, hle, rfl⟩ := wr_row h
  obtain ⟨cells, e, hh, hg⟩ := hr.row p cs b hp hb
  have hlv := hl.length
  have hend : l.length = 0 ∨ b.off + off + l.length ≤ cells.size := by
    rcases Nat.eq_zero_or_pos l.length with h0 | h0
    · exact .inl h0
    · right
      obtain ⟨v, hv, _⟩ := hg (off + l.length - 1) _ (List.getElem?_eq_getElem (by omega))
      have := (Array.getElem?_eq_some_iff.1 hv).1
      omega
  rcases hend with h0 | hend
  · have hv0 : vs = [] := List.eq_nil_of_length_eq_zero (by omega)
    have hl0 : l = [] := List.eq_nil_of_length_eq_zero h0
    subst hv0 hl0
    have : H.set p (.row (setAll cs off [])) = H := by
      rw [setAll]
      exact set_same hp
    rw [this]
    exact ⟨X.w, rfl, Step.refl hr⟩
  · have hrun := run_storeCells_at (P := P) b.block (b.off + off) e vs 0 cells X.w hh (by omega) h1
    refine ⟨_, hrun, ?_⟩
    have hφ : (fun j => if j = p then some b else X.φ j) = X.φ := by
      funext j
      split
      · rename_i hj
        rw [hj, hb]
      · rfl
    have hst := Step.write (w' := X.w.setRow b.block (cells.toList.take (b.off + off + 0) ++ vs ++ cells.toList.drop (b.off + off + 0 + vs.length)).toArray) hr p b ⟨_, hp, rfl⟩ hb p b (.row (setAll cs off l)) rfl (hr.lt p b hb).2.1 (H' := H.set p (.row (setAll cs off l))) (.inl ⟨rfl, rfl⟩) (by rw [List.length_set]; exact Nat.le_refl _)
      (by rw [List.getElem?_set_self (by exact (List.getElem?_eq_some_iff.1 hp).1)]) (fun j hj _ => by rw [List.getElem?_set_ne (Ne.symm hj)])
      (fun k hk => setRow_other X.w b.block k _ hk) (setRow_size X.w b.block _)
      (fun cells' e' fr hc => by
        rw [hh] at hc
        cases hc
        refine ⟨_, setRow_heap X.w b.block cells _ e (0, 0) hh, ?_⟩
        simp
        omega)
      rfl rfl rfl (fun Y hle' hY cs' he => by
        cases he
        refine ⟨_, e, by rw [hY]; exact setRow_heap X.w b.block cells _ e (0, 0) hh, fun k c hc => ?_⟩
        rw [setAll_get _ _ _ _ hle] at hc
        rw [List.getElem?_toArray, Nat.add_zero, splice_get _ _ _ _ (by simp; omega)]
        by_cases hk : off ≤ k ∧ k < off + l.length
        · rw [if_pos hk] at hc
          rw [if_pos (by omega)]
          obtain ⟨v, h3, h4⟩ := hl.get _ _ hc
          exact ⟨v, by rw [show b.off + k - (b.off + off) = k - off by omega]; exact h3, VR.mono hle' _ _ h4⟩
        · rw [if_neg hk] at hc
          rw [if_neg (by omega)]
          obtain ⟨v, h3, h4⟩ := hg k c hc
          exact ⟨v, by simpa using h3, VR.mono hle' _ _ h4⟩)
      (fun Y _ _ es he => by cases he)
    rw [hφ] at hst
    exact hst
theorem store_run (hT : TOk P T) (hr : HR X H) {t : TypeId} {a x : AV} {v u : Value} {K : AV → Heap → Prop} (h : storeA T H t a x K) (ha : VR X a v) (hx : VR X x u) :
    ∃ H' w', K undefA H' ∧ (Instr.storeAt t v u).run P X.w = .ok () w' ∧ Step X H ⟨X.φ, X.F, w'⟩ H' := by
  unfold storeA at h
  split at h
  · rename_i i p off l hi hl
    cases hq : (Nat.beq l.length i.size && allC l) with
    | false => simp [hq] at h
    | true =>
      simp only [hq, cond_true] at h
      rw [Bool.and_eq_true] at hq
      have hq1 := Nat.eq_of_beq_eq_true hq.1
      obtain ⟨H', hw, hk⟩ := optK_elim h
      simp only [VR] at ha
      obtain ⟨b, hb, rfl⟩ := ha
      have hvl := cellsOf_rel hl hx hq.2
      obtain ⟨w', h3, h4⟩ := wr_step (P := P) hr hw hb hvl (allC_oneCells hq.2 hvl)
      refine ⟨H', w', hk, ?_, h4⟩
      have hsz : u.cells.size = i.size := by
        have := hvl.length
        simp at this
        omega
      simp only [Instr.storeAt, Instr.sureAddr, Sem.run_bind, Sem.run_pure, Result.andThen_ok, storeVar, sizeOf_run (hT t i hi)]
      rw [if_neg (by simp [hsz])]
      exact h3
  · exact h.elim

/-- The model's run of an append that fits. -/
theorem append_fits {st xt ty e : TypeId} {j : TI} (hj : TOkAt P e j) (hs : P.underlying st = some (.slice e)) {dx : TypeDesc} (hx : P.underlying xt = some dx) (hdx : ∀ k, dx ≠ .int k)
    {base : Option Addr} {len c m : Nat} {x : Value} {new : List Value} (w : World) (hm : (Builtin.lenOf x).run P w = .ok m w) (hn : (Builtin.firstCells j.size m x).run P w = .ok new.toArray w) (hfit : len + m ≤ c) :
    (Builtin.append_ #[st, xt] ty #[.slice base len c, x]).run P w =
      (match base with | some a => ((storeCells (a.add (len * j.size)) new).run P w) | none => .ok () w).andThen fun _ w' => .ok (.slice base (len + m) c) w' := by
  have hz : (dx matches .int _) = false := by cases dx <;> first | rfl | exact absurd rfl (hdx _)
  cases base with
  | none => simp [Builtin.append_, run_underlying hs, run_underlying hx, sizeOf_run hj, hz, hm, hn, hfit]
  | some a => simp [Builtin.append_, run_underlying hs, run_underlying hx, sizeOf_run hj, hz, hm, hn, hfit]
theorem append_grows {st xt ty e : TypeId} {j : TI} (hj : TOkAt P e j) (hs : P.underlying st = some (.slice e)) {dx : TypeDesc} (hx : P.underlying xt = some dx) (hdx : ∀ k, dx ≠ .int k)
    {base : Option Addr} {len c m : Nat} {x : Value} {old new : List Value} (w : World) (hm : (Builtin.lenOf x).run P w = .ok m w) (hn : ∀ w', w'.heap = w.heap → (Builtin.firstCells j.size m x).run P w' = .ok new.toArray w')
    (ho : ∀ w', w'.heap = w.heap → (Builtin.firstCells j.size len (.slice base len c)).run P w' = .ok old.toArray w') (hfit : ¬ len + m ≤ c) (hb : (len + m) * j.bytes ≤ 140737488355328) (hl : len + m ≤ 9223372036854775807) :
    (Builtin.append_ #[st, xt] ty #[.slice base len c, x]).run P w =
      .ok (.slice (some ⟨w.heap.size, 0, none⟩) (len + m) (grownCap w (len + m) c e)) (w.drew.alloc (Go.Obj.cells (old.toArray ++ new.toArray ++ Builtin.zeroCells j.zero.cells (grownCap w (len + m) c e - (len + m))) e)) := by
  have hz : (dx matches .int _) = false := by cases dx <;> first | rfl | exact absurd rfl (hdx _)
  obtain ⟨ti, h1, h2, h3, h4⟩ := hj.info
  have hti : ∀ w', (typeInfo e).run P w' = .ok ti w' := fun w' => by simp [typeInfo, h1]
  have hlt : c < len + m := by omega
  have hcap : ¬ Builtin.nextslicecap (len + m) c * ti.bytes > 2 ^ 48 := by
    rw [h3]
    have := growslice_fits hlt hb
    omega
  have hmax : ¬ (((len + m : Nat) : Int) > IntKind.i64.max ∧ (False ∨ ti.bytes = 0)) := by
    rw [IntKind.max_i64]
    omega
  have hn' := hn w.drew rfl
  have ho' := ho w.drew rfl
  simp only [Builtin.append_, List.getElem?_toArray, List.getElem?_cons_zero, List.getElem?_cons_succ, Sem.run_bind, run_underlying hs, run_underlying hx, sizeOf_run hj, hz, Result.andThen_ok, Sem.run_pure, hm, if_neg hfit, hti, if_neg hmax, if_neg hcap, Bool.false_eq_true, if_false, run_choose, Question.forced, run_askRoom, Bool.not_false, if_true]
  simp only [World.drew_eq, ho', hn', Result.andThen_ok, zero_run hj, newRow, Sem.run_bind, run_newObj, Sem.run_pure, World.alloc_eq]
  rfl
theorem loadCells_heap {a : Addr} {vs : List Value} {w w' : World} (hh : w'.heap = w.heap) (h : ∀ (j : Nat) (v : Value), vs[j]? = some v → w.cell? (a.add j) = some v) : (loadCells a vs.length).run P w' = .ok vs.toArray w' :=
  run_loadCells_list w' a vs fun j v hj => by
    have := h j v hj
    simpa only [World.cell?, hh] using this
theorem src_run (hr : HR X H) {sz : Nat} {b : AV} {x : Value} {cs : List AV} (h : srcA H sz b = some cs) (hb : VR X b x) :
    ∃ new : List Value, (∀ w', (Builtin.lenOf x).run P w' = .ok (srcN b) w') ∧ (∀ w', w'.heap = X.w.heap → (Builtin.firstCells sz (srcN b) x).run P w' = .ok new.toArray w') ∧ VL X cs new ∧ new.length = srcN b * sz := by
  rcases srcA_cells hr h hb with ⟨s, rfl, rfl, rfl, rfl⟩ | ⟨bl, o, len, c, rfl, hlc, hl, hg⟩ | ⟨a', c, rfl, rfl⟩
  · refine ⟨s.data.toList.map fun q => .int .u8 q.toNat, fun w' => by simp [Builtin.lenOf, srcN], fun w' _ => ?_, ?_, ?_⟩
    · have he : s.extract 0 s.size = s := by simp
      simp [Builtin.firstCells, srcN, he]
      apply Array.ext'
      simp
    · unfold bytesA
      induction s.data.toList with
      | nil => simp [VL]
      | cons q l ih => simp only [List.map_cons, VL]; exact ⟨VR_int.2 rfl, ih⟩
    · rw [List.length_map, Array.length_toList]
      simp [srcN]
  · obtain ⟨vs, h1, h2, h3⟩ := list_of_gets (X := X) (a := ⟨bl, o, none⟩) rfl hg
    have hn : srcN b = len := by
      unfold srcA at h
      split at h
      · simp [VR, ScR] at hb
      · simp [VR, ScR] at hb
        exact hb.2.1.symm
      · simp only [VR] at hb
        obtain ⟨_, _, e, _⟩ := hb
        cases e
        rfl
      · simp only [VR] at hb
        obtain ⟨_, _, _, _, _, _, e, _⟩ := hb
        cases e
        rfl
      · cases h
    refine ⟨vs, fun w' => by simp [Builtin.lenOf, hn], fun w' hw => ?_, h2, by rw [hn]; omega⟩
    have := loadCells_heap (P := P) hw h3
    rw [h1, hl] at this
    simp [Builtin.firstCells, hn, this]
  · have hn : srcN b = 0 := by
      unfold srcA at h
      split at h
      · simp [VR, ScR] at hb
      · rfl
      · simp only [VR] at hb
        obtain ⟨_, _, e, _⟩ := hb
        cases e
        rfl
      · simp only [VR] at hb
        obtain ⟨_, _, _, _, _, _, e, _⟩ := hb
        cases e
        rfl
      · cases h
    refine ⟨[], fun w' => by simp [Builtin.lenOf, hn], fun w' _ => ?_, by simp [VL], by simp [hn]⟩
    cases a' with
    | none => simp [Builtin.firstCells]
    | some ad => simp [Builtin.firstCells, hn, loadCells, loadCellsFrom]
theorem grown_ge (w : World) (n c : Nat) (e : TypeId) : n ≤ grownCap w n c e := by
  unfold grownCap
  simp [Question.cut]
/-- A row that was grown into a new block. -/
theorem grown_step (hr : HR X H) {old new : List Value} {ocs cs : List AV} (ho : VL X ocs old) (hn : VL X cs new) {len m sz : Nat} (hlo : old.length = len * sz) (hln : new.length = m * sz) (z : Array Value) (hz : z.size = sz) (c : Nat) (e : TypeId) :
    ∃ Y, Y.w = X.w.drew.alloc (Go.Obj.cells (old.toArray ++ new.toArray ++ Builtin.zeroCells z (grownCap X.w (len + m) c e - (len + m))) e) ∧
      VR Y (.slc H.length 0 (len + m) sz) (.slice (some ⟨X.w.heap.size, 0, none⟩) (len + m) (grownCap X.w (len + m) c e)) ∧ Step X H Y (H ++ [.row (ocs ++ cs)]) ∧ ∀ i, i < H.length → Y.φ i = X.φ i := by
  have hs1 : Step X H (X.at X.w.drew) H := Step.same hr rfl rfl rfl rfl rfl rfl
  have hn1 := NewAt.push hs1.hr
  have hle := Le.new hs1.hr H.length (Go.Obj.cells (old.toArray ++ new.toArray ++ Builtin.zeroCells z (grownCap X.w (len + m) c e - (len + m))) e) hn1.φ
  have hvl : VL X (ocs ++ cs) (old ++ new) := ho.append hn
  have hs2 := Step.new hs1.hr H.length (Go.Obj.cells (old.toArray ++ new.toArray ++ Builtin.zeroCells z (grownCap X.w (len + m) c e - (len + m))) e) (.row (ocs ++ cs)) hn1.φ (hn1.len _) (hn1.at_ _) (hn1.old _)
    (fun cs' he => by
      cases he
      refine ⟨_, e, heap_alloc_at _ _, fun k x hx => ?_⟩
      obtain ⟨v, h1, h2⟩ := hvl.get k x hx
      refine ⟨v, ?_, VR.mono (hs1.le.trans hle) _ _ h2⟩
      have hk : k < (old ++ new).length := (List.getElem?_eq_some_iff.1 h1).1
      rw [Nat.zero_add, Array.getElem?_append_left (by simpa using hk)]
      simpa using h1)
    (fun es he => by cases he)
  refine ⟨_, rfl, ?_, hs1.trans hs2, fun i hi => by simp [Ctx.new, Ctx.at, Nat.ne_of_lt hi]⟩
  simp only [VR]
  refine ⟨⟨X.w.heap.size, 0, none⟩, 0, _, _, e, by simp [Ctx.new, Ctx.at], rfl, grown_ge _ _ _ _, fun _ => rfl, heap_alloc_at _ _, ?_⟩
  have hge := grown_ge X.w (len + m) c e
  simp only [Array.size_append, List.size_toArray, hlo, hln, Builtin.zeroCells, Array.size_map, Array.size_range, hz, ← Nat.add_mul]
  rw [Nat.add_sub_cancel' hge, Nat.zero_add]
  exact Nat.le_refl _
/-- How the model appends what x stands for: new, m elements. -/
structure SrcOk (P : Program) (X : Ctx) (e : TypeId) (j : TI) (xt : TypeId) (x : Value) (m : Nat) (new : List Value) : Prop where
  fits : ∀ {st ty : TypeId} {base : Option Addr} {len c : Nat}, P.underlying st = some (.slice e) → len + m ≤ c →
    (Builtin.append_ #[st, xt] ty #[.slice base len c, x]).run P X.w = (match base with | some a => ((storeCells (a.add (len * j.size)) new).run P X.w) | none => .ok () X.w).andThen fun _ w' => .ok (.slice base (len + m) c) w'
  grows : ∀ {st ty : TypeId} {base : Option Addr} {len c : Nat} {old : List Value}, P.underlying st = some (.slice e) →
    (∀ w' : World, w'.heap = X.w.heap → (Builtin.firstCells j.size len (.slice base len c)).run P w' = .ok old.toArray w') → ¬ len + m ≤ c → (len + m) * j.bytes ≤ 140737488355328 → len + m ≤ 9223372036854775807 →
    (Builtin.append_ #[st, xt] ty #[.slice base len c, x]).run P X.w =
      .ok (.slice (some ⟨X.w.heap.size, 0, none⟩) (len + m) (grownCap X.w (len + m) c e)) (X.w.drew.alloc (Go.Obj.cells (old.toArray ++ new.toArray ++ Builtin.zeroCells j.zero.cells (grownCap X.w (len + m) c e - (len + m))) e))
theorem srcOk_of {xt e : TypeId} {j : TI} (hj : TOkAt P e j) {dx : TypeDesc} (hx : P.underlying xt = some dx) (hdx : ∀ k, dx ≠ .int k) {m : Nat} {x : Value} {new : List Value}
    (hm : ∀ w', (Builtin.lenOf x).run P w' = .ok m w') (hn : ∀ w', w'.heap = X.w.heap → (Builtin.firstCells j.size m x).run P w' = .ok new.toArray w') : SrcOk P X e j xt x m new :=
  ⟨fun hs hf => append_fits hj hs hx hdx X.w (hm _) (hn _ rfl) hf, fun hs ho hf hb hl => append_grows hj hs hx hdx X.w (hm _) hn ho hf hb hl⟩
theorem srcOk_zeros {xt e : TypeId} {j : TI} (hj : TOkAt P e j) {k : IntKind} (hx : P.underlying xt = some (.int k)) (hz : j.zero.cells.size = j.size) {k' : IntKind} {n : Int} (h0 : 0 ≤ n) (h1 : n ≤ 140737488355328) (h2 : n * j.bytes ≤ 140737488355328) :
    SrcOk P X e j xt (.int k' n) n.toNat (Builtin.zeroCells j.zero.cells n.toNat).toList := by
  obtain ⟨ti, hi1, hi2, hi3, hi4⟩ := hj.info
  have hti : ∀ w', (typeInfo e).run P w' = .ok ti w' := fun w' => by simp [typeInfo, hi1]
  have hw : IntKind.i64.wrap n = n := wrap64_small (by omega) (by omega)
  have happ : ∀ w', (if n.toNat * j.size = 0 then (pure #[] : Sem (Array Value)) else do pure (Builtin.zeroCells (← zeroValue e).cells n.toNat)).run P w' = .ok (Builtin.zeroCells j.zero.cells n.toNat).toList.toArray w' := fun w' => by
    split
    · rename_i h
      rw [← hz] at h
      simp [Builtin.zeroCells, h]
    · simp [zero_run hj]
  have hb1 : ¬ (n * (ti.bytes : Int) > 2 ^ 48) := by rw [hi3]; omega
  refine ⟨fun {st ty base len c} hs hf => ?_, fun {st ty base len c old} hs ho hf hb hl => ?_⟩
  · have ha := happ X.w
    cases base with
    | none =>
      simp only [Builtin.append_, List.getElem?_toArray, List.getElem?_cons_zero, List.getElem?_cons_succ, Sem.run_bind, run_underlying hs, run_underlying hx, sizeOf_run hj, Result.andThen_ok, Sem.run_pure, asInt, asIntOf, hw, if_neg (show ¬ n < 0 by omega), hti, if_neg hb1, if_pos hf, if_true, Bool.not_true, Bool.false_eq_true, if_false, ha]
      try rfl
    | some a =>
      simp only [Builtin.append_, List.getElem?_toArray, List.getElem?_cons_zero, List.getElem?_cons_succ, Sem.run_bind, run_underlying hs, run_underlying hx, sizeOf_run hj, Result.andThen_ok, Sem.run_pure, asInt, asIntOf, hw, if_neg (show ¬ n < 0 by omega), hti, if_neg hb1, if_pos hf, if_true, Bool.not_true, Bool.false_eq_true, if_false, ha]
      try rfl
  · have hlt : c < len + n.toNat := by omega
    have hcap : ¬ Builtin.nextslicecap (len + n.toNat) c * ti.bytes > 2 ^ 48 := by
      rw [hi3]
      have := growslice_fits hlt hb
      omega
    have hmax : ¬ (((len + n.toNat : Nat) : Int) > IntKind.i64.max ∧ (True ∨ ti.bytes = 0)) := by
      rw [IntKind.max_i64]
      omega
    have ho' := ho X.w.drew rfl
    have ha := happ X.w.drew
    simp only [Builtin.append_, List.getElem?_toArray, List.getElem?_cons_zero, List.getElem?_cons_succ, Sem.run_bind, run_underlying hs, run_underlying hx, sizeOf_run hj, Result.andThen_ok, Sem.run_pure, asInt, asIntOf, hw, if_neg (show ¬ n < 0 by omega), hti, if_neg hb1, if_neg hf, if_true, if_neg hmax, if_neg hcap, Bool.not_true, Bool.false_eq_true, if_false, run_choose, Question.forced, run_askRoom]
    simp only [World.drew_eq, ho', ha, Result.andThen_ok, zero_run hj, newRow, Sem.run_bind, run_newObj, Sem.run_pure, World.alloc_eq]
    rfl
theorem allC_append : ∀ {x y : List AV}, allC x = true → allC y = true → allC (x ++ y) = true
  | [], y, _, h => h
  | a :: x, y, h, k => by
    simp only [allC, List.cons_append] at h ⊢
    cases hc : isC a with
    | false => simp [hc] at h
    | true => simp only [hc, cond_true] at h ⊢; exact allC_append h k
theorem zeros_allC {z : Value} (h : zeroOk z = true) : ∀ n, allC (zerosA z n) = true
  | 0 => by simp [zerosA, allC]
  | n + 1 => by
    have e : zerosA z (n + 1) = z.cells.toList.map ofC ++ zerosA z n := by simp [zerosA, List.replicate_succ]
    rw [e]
    exact allC_append h (zeros_allC h n)
theorem appTo_run (hr : HR X H) {st xt ty e : TypeId} (hs : P.underlying st = some (.slice e)) {j : TI} (hje : TOkAt P e j) (hz : j.zero.cells.size = j.size) {a : AV} {s x : Value} {m : Nat} {cs : List AV} {new : List Value} (hsrc : SrcOk P X e j xt x m new) (hvl : VL X cs new) (hnl : new.length = m * j.size) (hac : allC cs = true)
    {K : AV → Heap → Prop} (h : appTo H j a m cs K) (ha : VR X a s) :
    ∃ c H1 Y u, K c H1 ∧ (Builtin.append_ #[st, xt] ty #[s, x]).run P X.w = .ok u Y.w ∧ VR Y c u ∧ Step X H Y H1 ∧ ∀ i, i < H.length → Y.φ i = X.φ i := by
  have h1c := allC_oneCells hac hvl
  unfold appTo at h
  split at h
  · -- onto nothing
    obtain ⟨a', rfl⟩ : ∃ a', s = .slice a' 0 0 := by
      simp only [VR, ScR] at ha
      rcases ha with ⟨_, rfl | ⟨_, a', rfl⟩⟩
      · exact ⟨_, rfl⟩
      · exact ⟨_, rfl⟩
    cases hz0 : Nat.beq (m) 0 with
    | true =>
      simp only [hz0, If] at h
      have h0 := Nat.eq_of_beq_eq_true hz0
      subst h0
      have hnew : new = [] := List.eq_nil_of_length_eq_zero (by omega)
      subst hnew
      have := hsrc.fits (ty := ty) hs (base := a') (len := 0) (c := 0) (by omega)
      refine ⟨_, H, X, .slice a' 0 0, h, ?_, by simp [VR, ScR, plain, plainS], Step.refl hr, fun _ _ => rfl⟩
      rw [this]
      cases a' <;> simp [storeCells]
    | false =>
      simp only [hz0, If] at h
      obtain ⟨⟨hbd, hmax⟩, hk⟩ := h
      have hne : m ≠ 0 := fun he => by rw [he] at hz0; cases hz0
      have hold : ∀ w' : World, w'.heap = X.w.heap → (Builtin.firstCells j.size 0 (.slice a' 0 0)).run P w' = .ok ([] : List Value).toArray w' := fun w' _ => by
        cases a' with
        | none => simp [Builtin.firstCells]
        | some ad => simp [Builtin.firstCells, loadCells, loadCellsFrom]
      have := hsrc.grows (ty := ty) hs (base := a') (len := 0) (c := 0) (old := []) hold (by omega) (by simpa using hbd) (by omega)
      obtain ⟨Y, hYw, hv, hst, hφ⟩ := grown_step (X := X) hr (ocs := []) (old := []) (by simp [VL]) hvl (len := 0) (by simp) hnl j.zero.cells hz 0 e
      rw [← hYw] at this
      simp only [Nat.zero_add, List.nil_append] at hv hst this
      exact ⟨_, _, Y, _, hk, this, hv, hst, hφ⟩
  · rename_i p off len sz
    cases hqz : Nat.beq j.size sz with
    | false => simp [hqz] at h
    | true =>
      simp only [hqz, cond_true] at h
      have hjs := Nat.eq_of_beq_eq_true hqz
      subst hjs
      obtain ⟨old, hold, ⟨⟨hbd, hmx⟩, hk⟩⟩ := optK_elim h
      simp only [VR] at ha
      obtain ⟨bb, o, c, cells, e', hφ, rfl, hlc, ho, hh, hsz⟩ := ha
      obtain ⟨all, hp, hle, hall⟩ := rdN_row hold
      have hol : old.length = len * j.size := by rw [hall]; simp; omega
      have hg := (rdN_get hr hφ hold).2
      have hoff : ∀ (q : Nat) (y : AV), old[q]? = some y → ∃ v, X.w.cell? ⟨bb.block, o + q, none⟩ = some v ∧ VR X y v := fun q y hy => by
        have hlt : q < len * j.size := by
          have := (List.getElem?_eq_some_iff.1 hy).1
          omega
        have : 0 < len := Nat.pos_of_ne_zero fun he => by rw [he, Nat.zero_mul] at hlt; omega
        rw [ho this]
        exact hg q y hy
      obtain ⟨ovs, ho1, ho2, ho3⟩ := list_of_gets (X := X) (a := ⟨bb.block, o, none⟩) rfl hoff
      by_cases hfit : len + m ≤ c
      · -- in place
        have hrun := hsrc.fits (ty := ty) hs (base := some ⟨bb.block, o, none⟩) (len := len) (c := c) hfit
        have hend : o + len * j.size + new.length ≤ cells.size := by
          have : (len + m) * j.size ≤ c * j.size := Nat.mul_le_mul_right _ hfit
          rw [Nat.add_mul] at this
          omega
        have hstore := run_storeCells_at (P := P) bb.block (o + len * j.size) e' new 0 cells X.w hh (by omega) h1c
        simp only [add_spot (⟨bb.block, o, none⟩ : Addr) (len * j.size) rfl] at hrun
        simp only [hstore, Result.andThen_ok] at hrun
        have hlp : live H p := ⟨_, hp, rfl⟩
        have hplt : p < H.length := live_lt hlp
        have hst := Step.write (w' := X.w.setRow bb.block (cells.toList.take (o + len * j.size + 0) ++ new ++ cells.toList.drop (o + len * j.size + 0 + new.length)).toArray) hr p bb hlp hφ H.length ⟨bb.block, o, none⟩ (.row (old ++ cs)) rfl rfl
          (H' := H.set p .dead ++ [.row (old ++ cs)]) (.inr ⟨by omega, φ_out hr (Nat.le_refl _), not_live_dead (by rw [List.getElem?_append_left (by simpa using hplt), List.getElem?_set_self hplt])⟩) (by simp) (by simp)
          (fun q hq1 hq2 => by
            rcases Nat.lt_or_ge q H.length with hq | hq
            · rw [List.getElem?_append_left (by simpa using hq), List.getElem?_set_ne (Ne.symm hq2)]
            · rw [List.getElem?_append_right (by simpa using hq), List.getElem?_eq_none (by simp; omega), List.getElem?_eq_none hq])
          (fun k hk' => setRow_other X.w bb.block k _ hk') (setRow_size X.w bb.block _)
          (fun cells' e'' fr hc => by
            rw [hh] at hc
            cases hc
            refine ⟨_, setRow_heap X.w bb.block cells _ e' (0, 0) hh, ?_⟩
            simp
            omega)
          rfl rfl rfl
          (fun Y hle' hY cs' he => by
            cases he
            refine ⟨_, e', by rw [hY]; exact setRow_heap X.w bb.block cells _ e' (0, 0) hh, fun k y hy => ?_⟩
            rw [List.getElem?_toArray, Nat.add_zero, splice_get _ _ _ _ (by simp; omega)]
            rcases Nat.lt_or_ge k old.length with hk' | hk'
            · rw [List.getElem?_append_left hk'] at hy
              simp only
              rw [if_neg (by omega)]
              obtain ⟨v, h3, h4⟩ := hoff k y hy
              refine ⟨v, ?_, VR.mono hle' _ _ h4⟩
              simp only [World.cell?, hh] at h3
              simpa using h3
            · rw [List.getElem?_append_right hk'] at hy
              obtain ⟨v, h3, h4⟩ := hvl.get _ _ hy
              have hlt := (List.getElem?_eq_some_iff.1 h3).1
              simp only
              rw [if_pos (by omega)]
              exact ⟨v, by rw [show o + k - (o + len * j.size) = k - old.length by omega]; exact h3, VR.mono hle' _ _ h4⟩)
          (fun Y _ _ es he => by cases he)
        refine ⟨_, _, _, _, hk, hrun, ?_, hst, fun i hi => by simp [Nat.ne_of_lt hi]⟩
        simp only [VR]
        refine ⟨⟨bb.block, o, none⟩, o, c, _, e', by simp, rfl, hfit, fun _ => rfl, setRow_heap X.w bb.block cells _ e' (0, 0) hh, ?_⟩
        simp
        omega
      · -- into a new block
        have holdr : ∀ w' : World, w'.heap = X.w.heap → (Builtin.firstCells j.size len (.slice (some ⟨bb.block, o, none⟩) len c)).run P w' = .ok ovs.toArray w' := fun w' hw => by
          have := loadCells_heap (P := P) hw ho3
          rw [ho1, hol] at this
          simp [Builtin.firstCells, this]
        have hrun := hsrc.grows (ty := ty) hs (base := some ⟨bb.block, o, none⟩) (len := len) (c := c) holdr hfit hbd hmx
        have hkill := Step.kill hr p
        obtain ⟨Y, hYw, hv, hst, hφ'⟩ := grown_step (X := X) (H := H.set p .dead) hkill.hr ho2 hvl (len := len) (by omega) hnl j.zero.cells hz c e
        rw [← hYw] at hrun
        simp only [List.length_set] at hv hφ'
        exact ⟨_, _, Y, _, hk, hrun, hv, hkill.trans hst, hφ'⟩
  · exact h.elim
theorem app_run (hT : TOk P T) (hr : HR X H) {st xt ty : TypeId} {a b : AV} {s x : Value} {K : AV → Heap → Prop} (h : appA T H st xt a b K) (ha : VR X a s) (hb : VR X b x) :
    ∃ c H1 Y u, K c H1 ∧ (Builtin.append_ #[st, xt] ty #[s, x]).run P X.w = .ok u Y.w ∧ VR Y c u ∧ Step X H Y H1 ∧ ∀ i, i < H.length → Y.φ i = X.φ i := by
  unfold appA at h
  split at h
  · rename_i e eqk xi ht hxt
    have hs : P.underlying st = some (.slice e) := und_slice (hT st _ ht) rfl
    split at h
    · rename_i j hj
      have hje := hT e j hj
      cases hq : Nat.beq j.zero.cells.size j.size with
      | false => simp [hq] at h
      | true =>
        simp only [hq, cond_true] at h
        have hz := Nat.eq_of_beq_eq_true hq
        split at h
        · rename_i k hk
          split at h
          · rename_i k' n
            cases hzo : zeroOk j.zero with
            | false => simp [hzo] at h
            | true =>
              simp only [hzo, cond_true] at h
              obtain ⟨⟨h0, h1, h2⟩, h⟩ := h
              rw [VR_int] at hb
              subst hb
              refine appTo_run hr hs hje hz (srcOk_zeros hje (und_int (hT xt xi hxt) hk) hz h0 h1 h2) ?_ ?_ ?_ h ha
              · refine VL.of_get (by rw [zeros_length]; simp [Builtin.zeroCells]) fun q c u hc hu' => ?_
                obtain ⟨u', h3, h4⟩ := zeros_made (X := X) hc (Nat.le_refl _)
                rw [Array.getElem?_toList] at hu'
                have : (madeCells j.zero.cells (n.toNat * j.zero.cells.size)) = Builtin.zeroCells j.zero.cells n.toNat := rfl
                rw [← this, h3] at hu'
                exact Option.some.inj hu' ▸ h4
              · simp [Builtin.zeroCells, hz]
              · exact zeros_allC hzo _
          · exact h.elim
        · rename_i hxd
          obtain ⟨dx, hdx, hdx2⟩ := (hT xt xi hxt).und
          have hni : ∀ k, dx ≠ .int k := fun k he => hxd k (by rw [← hdx2, he]; rfl)
          obtain ⟨cs, hcs, hac, h⟩ := optK_elim h
          obtain ⟨new, hlen, hfirst, hvl, hnl⟩ := src_run (P := P) hr hcs hb
          exact appTo_run hr hs hje hz (srcOk_of hje hdx hni hlen hfirst) hvl hnl hac h ha
    · exact h.elim
  · exact h.elim
end
end Go.Proofs.Ytpjjfcgmckpboaa.A
