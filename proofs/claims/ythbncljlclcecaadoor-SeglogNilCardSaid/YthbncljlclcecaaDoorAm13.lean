/- Whatever calls nothing: the abstract step is the model's step. No condition. -/
import Derived.Test.YthbncljlclcecaaDoorAm9
import Derived.Laws.Tables
namespace Go.Proofs.YthbncljlclcecaaDoor.A
open Go
set_option linter.unusedVariables false
set_option linter.unusedSimpArgs false

section
variable {P : Program} {T : Tab} {X : Ctx} {H : Heap}

theorem Done.of {n : Nat} {o : Oper} {ρ : Operand → Value} {K : AV → Heap → Prop} {s : Sem Value} (hr : HR X H) (ho : execOp ρ o = (do pure (.value (← s))))
    (h : ∃ c u, K c H ∧ s.run P X.w = .ok u X.w ∧ VR X c u) : Done P X H n o ρ K := by
  obtain ⟨c, u, hk, hs, hv⟩ := h
  exact Done.same hr hk (by rw [ho]; simp [hs]) hv
theorem OR_map {f : Fr} {ρ : Operand → Value} (hf : FrR X f ρ) : ∀ o : Option Operand, OR X (o.map (ev f)) (o.map ρ)
  | none => trivial
  | some x => hf x
theorem parts_map {f : Fr} {ρ : Operand → Value} (hf : FrR X f ρ) (parts : Array (Nat × Operand)) :
    (parts.toList.map fun p => (p.1, ev f p.2)).length = ((parts.map fun (i, x) => (i, ρ x)).toList).length ∧
    ∀ (j : Nat) (p : Nat × AV) (q : Nat × Value), (parts.toList.map fun p => (p.1, ev f p.2))[j]? = some p → ((parts.map fun (i, x) => (i, ρ x)).toList)[j]? = some q → p.1 = q.1 ∧ VR X p.2 q.2 := by
  refine ⟨by simp, fun j p q hp hq => ?_⟩
  rw [List.getElem?_map] at hp
  simp only [Array.toList_map] at hq
  rw [List.getElem?_map] at hq
  cases hx : parts.toList[j]? with
  | none => rw [hx] at hp; cases hp
  | some x =>
    rw [hx] at hp hq
    simp only [Option.map_some, Option.some.injEq] at hp hq
    subst hp hq
    exact ⟨rfl, hf x.2⟩
theorem VL_map {f : Fr} {ρ : Operand → Value} (hf : FrR X f ρ) : ∀ xs : List Operand, VL X (xs.map (ev f)) (xs.map ρ)
  | [] => by simp [VL]
  | x :: xs => by simp only [List.map_cons, VL]; exact ⟨hf x, VL_map hf xs⟩
theorem not_iface {t : TypeId} {i : TI} (h : TOkAt P t i) (hd : i.d ≠ .iface) : ∃ d, P.underlying t = some d ∧ ∀ ms, d ≠ .interface ms := by
  obtain ⟨d, h1, h2⟩ := h.und
  exact ⟨d, h1, fun ms he => hd (by rw [← h2, he]; rfl)⟩

theorem wrap64_small {n : Int} (h0 : -9223372036854775808 ≤ n) (h1 : n ≤ 9223372036854775807) : IntKind.i64.wrap n = n := by
  unfold IntKind.wrap
  simp [IntKind.signed, IntKind.bits]
  omega
theorem alloc_done {n : Nat} {N : AObj → Heap} (hr : HR X H) (hn : NewAt X H n N) {o : Oper} {ρ : Operand → Value} {K : AV → Heap → Prop} {cs : List AV} {v : Value} (e : TypeId) (hk : K (.ptr n 0) (N (.row cs))) (hv : VL X cs v.cells.toList)
    (ho : (execOp ρ o).run P X.w = .ok (.value (.pointer (some ⟨X.w.heap.size, 0, none⟩))) (X.w.alloc (Go.Obj.cells v.cells e))) : Done P X H n o ρ K := by
  refine Done.newRow hr hn cs v.cells e hk ho (fun k c hc => ?_) fun _ hφ _ => ?_
  · obtain ⟨u, h1, h2⟩ := hv.get k c hc
    exact ⟨u, by simpa using h1, h2⟩
  · simp only [VR]
    exact ⟨_, hφ, by simp⟩
theorem rows_done {n : Nat} {N : AObj → Heap} (hr : HR X H) (hn : NewAt X H n N) {o : Oper} {ρ : Operand → Value} {K : AV → Heap → Prop} {cs : List AV} {cells : Array Value} (e : TypeId) {len cap sz : Nat} (hk : K (.slc n 0 len sz) (N (.row cs)))
    (hc : ∀ (k : Nat) (c : AV), cs[k]? = some c → ∃ u, cells[k]? = some u ∧ VR X c u) (hlen : len ≤ cap) (hsz : cap * sz ≤ cells.size)
    (ho : (execOp ρ o).run P X.w = .ok (.value (.slice (some ⟨X.w.heap.size, 0, none⟩) len cap)) (X.w.alloc (Go.Obj.cells cells e))) : Done P X H n o ρ K := by
  refine Done.newRow hr hn cs cells e hk ho hc fun _ hφ hh => ?_
  simp only [VR]
  exact .inr ⟨_, 0, cap, cells, e, hφ, rfl, hlen, fun _ => rfl, hh, by omega⟩

def tupE (e : MapEntry) : MapEntry := ⟨e.key, .tuple #[.int .i64 e.born, e.val], 0⟩
theorem MapR.inv {X : Ctx} {b : Addr} {c : AV} {es : List (Value × AV)} (h : MapR X b ((.bool false, c) :: es)) :
    ∃ es' clock, X.w.heap[b.block]? = some (Go.Obj.map es' clock) ∧ VR X c (.int .i64 (clock : Nat)) ∧ EntR X es (es'.toList.map tupE) := by
  obtain ⟨_, ob, fs, h1, h2, h3⟩ := h
  unfold obE at h2
  split at h2
  · rename_i es' cl
    cases h2
    simp only [EntR] at h3
    exact ⟨es', cl, h1, h3.2.2.1, h3.2.2.2⟩
  · cases h2
    simp only [EntR] at h3
    exact absurd h3.1 (by simp)
  · split at h2
    · cases h2
      simp only [EntR] at h3
      exact absurd h3.1 (by simp)
    · cases h2
  · cases h2
theorem look_run {X : Ctx} {kk k : IntKind} {n : Int} : ∀ (es : List (Value × AV)) (fs : List MapEntry) (r : Option (Nat × AV)) (i0 : Nat), EntR X es (fs.map tupE) → lookM k n es = some r →
    (match r with
     | some (i, v) => ∃ u, Instr.findNow (.int kk) (.int k n) fs i0 = some (some (i0 + i, u)) ∧ VR X v u ∧ (fs[i]?).map (·.val) = some u ∧ (fs[i]?).map (·.key) = some (.int k n)
     | none => Instr.findNow (.int kk) (.int k n) fs i0 = some none)
  | [], [], r, i0, he, hl => by
    cases hl
    rfl
  | [], f :: fs, r, i0, he, hl => by simp [EntR] at he
  | _ :: _, [], r, i0, he, hl => by simp [EntR] at he
  | (key, a) :: es, f :: fs, r, i0, he, hl => by
    simp only [List.map_cons, EntR] at he
    obtain ⟨h1, h2, h3, h4⟩ := he
    unfold lookM at hl
    split at hl
    · rename_i x1 hx; cases hx
    · rename_i k' m st v es1 hx
      simp only [List.cons.injEq, Prod.mk.injEq] at hx
      obtain ⟨⟨rfl, rfl⟩, rfl⟩ := hx
      by_cases hk : k = k'
      · subst hk
        rw [decide_eq_true rfl, cond_true] at hl
        simp only [tupE, VR] at h1 h3
        obtain ⟨ws, h5, h6⟩ := h3
        cases h5
        simp only [VL, and_true] at h6
        by_cases hn : n = m
        · subst hn
          rw [decide_eq_true rfl, cond_true] at hl
          cases hl
          exact ⟨f.val, by simp [Instr.findNow, Instr.sameNow, h1], h6.2, rfl, by simp [h1]⟩
        · rw [decide_eq_false hn, cond_false] at hl
          have hb : (n == m) = false := beq_eq_false_iff_ne.2 hn
          have hs : ∀ i, Instr.findNow (.int kk) (.int k n) (f :: fs) i = Instr.findNow (.int kk) (.int k n) fs (i + 1) := fun i => by
            rw [Instr.findNow, h1]
            simp only [Instr.sameNow, if_true, hb]
          cases hlk : lookM k n es with
          | none => rw [hlk] at hl; cases hl
          | some r1 =>
            rw [hlk] at hl
            have := look_run (kk := kk) es fs r1 (i0 + 1) h4 hlk
            cases r1 with
            | none =>
              cases hl
              exact (hs i0).trans this
            | some q =>
              cases hl
              obtain ⟨w, h7, h8, h9, h10⟩ := this
              exact ⟨w, by rw [hs, h7]; congr 3; omega, h8, by simpa using h9, by simpa using h10⟩
      · rw [decide_eq_false hk, cond_false] at hl
        cases hl
    · cases hl
theorem ck_run {t : TypeId} {kk k : IntKind} {n : Int} (hu : P.underlying t = some (.int kk)) (e : Bool) (d : Nat) (w : World) : (Instr.checkKey e (d + 1) t (.int k n)).run P w = .ok () w := by
  simp [Instr.checkKey, run_underlying hu]
theorem lookup_run (hT : TOk P T) (hr : HR X H) {t : TypeId} {a ix : AV} {ok : Bool} {x i : Value} {K : AV → Prop} (h : lookupA T H t a ix ok K) (ha : VR X a x) (hi : VR X ix i) :
    ∃ c u, K c ∧ (Instr.lookup t x i ok).run P X.w = .ok u X.w ∧ VR X c u := by
  unfold lookupA at h
  split at h
  · rename_i _ _ _ kt vt _ p k n ht
    have hu : P.underlying t = some (.map kt vt) := und_map (hT t _ ht) rfl
    split at h
    · rename_i j clk es hk hj hp
      obtain ⟨kk, hku⟩ : ∃ kk, P.underlying kt = some (.int kk) := ⟨_, und_int (hT kt _ hk) rfl⟩
      rw [nth_eq] at hp
      simp only [VR] at ha
      obtain ⟨b, hb, rfl⟩ := ha
      rw [VR_int] at hi
      subst hi
      obtain ⟨es', clock, h4, _, h5⟩ := (hr.mp p _ b hp hb).inv
      obtain ⟨c, hc, hkc⟩ := optK_elim h
      unfold lookR at hc
      cases hl : lookM k n es with
      | none => rw [hl] at hc; cases hc
      | some r =>
        have hf := look_run (kk := kk) es es'.toList r 0 h5 hl
        rw [hl] at hc
        have hg : (getObj b.block).run P X.w = .ok (Go.Obj.map es' clock) X.w := by simp [getObj, Sem.run, h4]
        have hck : (Instr.checkKey es'.isEmpty 10000 kt (.int k n)).run P X.w = .ok () X.w := ck_run hku _ 9999 X.w
        cases r with
        | some q =>
          obtain ⟨q1, q2⟩ := q
          obtain ⟨u, h6, h7, _⟩ := hf
          simp only [Option.some.injEq] at hc
          subst hc
          refine ⟨_, if ok then .tuple #[u, .bool true] else u, hkc, ?_, ?_⟩
          · simp [Instr.lookup, run_underlying hu, hg, hck, Instr.findKey, run_underlying hku, h6]
          · cases ok
            · exact h7
            · simp only [cond_true, if_true, VR]
              exact ⟨_, rfl, h7, VR_bool.2 rfl, True.intro⟩
        | none =>
          simp only [Option.some.injEq] at hc
          subst hc
          refine ⟨_, if ok then .tuple #[j.zero, .bool false] else j.zero, hkc, ?_, ?_⟩
          · simp [Instr.lookup, run_underlying hu, hg, hck, Instr.findKey, run_underlying hku, hf, zero_run (hT vt j hj)]
          · cases ok
            · exact VR_ofV
            · simp only [cond_true, if_true, VR]
              exact ⟨_, rfl, VR_ofV, VR_bool.2 rfl, True.intro⟩
    · exact h.elim
  · exact h.elim

set_option maxHeartbeats 2000000 in
theorem aopQ_run (hT : TOk P T) {o : Oper} {f : Fr} {ρ : Operand → Value} {n : Nat} {N : AObj → Heap} {K : AV → Heap → Prop} (hr : HR X H) (hf : FrR X f ρ) (hn : NewAt X H n N) (h : aopQ T o f H n N K) : Done P X H n o ρ K := by
  obtain ⟨dst, op, type, pos, after, guard⟩ := o
  cases op <;> simp only [aopQ] at h
  case move x => exact Done.same hr h rfl (hf x)
  case assign x => exact Done.same hr h rfl (hf x)
  case pick c a b =>
    split at h
    · rename_i t ht
      have hc := hf c
      rw [ht, VR_bool] at hc
      cases t
      · exact Done.same (v := ρ b) hr h (by simp [execOp, hc, asBool]) (hf b)
      · exact Done.same (v := ρ a) hr h (by simp [execOp, hc, asBool]) (hf a)
    · exact h.elim
  case alloc t =>
    split at h
    · rename_i i hi
      cases hz : zeroOk i.zero with
      | false => simp [hz] at h
      | true =>
        simp only [hz, cond_true] at h
        exact alloc_done hr hn t h VL_ofC (by simp [execOp, Instr.alloc, zero_run (hT t i hi), newVar, newRow])
    · exact h.elim
  case box t x =>
    split at h
    · rename_i cs hcs
      cases hz : allC cs with
      | false => simp [hz] at h
      | true =>
        simp only [hz, cond_true] at h
        exact alloc_done (v := ρ x) hr hn t h (cellsOf_rel hcs (hf x) hz) (by simp [execOp, Instr.box, newVar, newRow])
    · exact h.elim
  case build t parts =>
    split at h
    · rename_i i hi
      obtain ⟨hp1, hp2⟩ := parts_map hf parts
      split at h
      · rename_i fs hd
        obtain ⟨gs, hu, hg⟩ := und_strct (hT t i hi) hd
        split at h
        · rename_i pl hpl
          obtain ⟨cs, hcs, hk⟩ := optK_elim h
          obtain ⟨rs, h1, h2⟩ := fill_run _ _ _ i.zero.cells cs hcs hp1 hp2 VL_ofC
          rw [← hg] at hpl
          have hpr := places_run hT hpl X.w
          refine Done.same (v := .agg rs) hr hk ?_ (by simp only [VR]; exact ⟨_, rfl, h2⟩)
          simp only [execOp, Instr.build, Sem.run_bind, zero_run (hT t i hi), Result.andThen_ok, run_underlying hu]
          rw [← Array.toArray_toList (xs := gs), List.mapM_toArray]
          simp only [Sem.run_map, hpr, Result.andThen_ok]
          have hfn : (fun (x : Nat) => (pl.toArray)[x]?) = nth pl := by
            funext x
            rw [nth_eq]
            simp
          rw [hfn, h1]
          simp
        · exact h.elim
      · rename_i m e hd
        have hu := und_arr (hT t i hi) hd
        split at h
        · rename_i j hj
          obtain ⟨cs, hcs, hk⟩ := optK_elim h
          obtain ⟨rs, h1, h2⟩ := fill_run _ _ _ i.zero.cells cs hcs hp1 hp2 VL_ofC
          refine Done.same (v := .agg rs) hr hk ?_ (by simp only [VR]; exact ⟨_, rfl, h2⟩)
          simp only [execOp, Instr.build, Sem.run_bind, zero_run (hT t i hi), Result.andThen_ok, run_underlying hu, sizeOf_run (hT e j hj)]
          rw [h1]
          simp
        · exact h.elim
      · exact h.elim
    · exact h.elim
  case buildSlice t len parts =>
    split at h
    · rename_i e eqk ht
      have hu : P.underlying t = some (.slice e) := und_slice (hT t _ ht) rfl
      split at h
      · rename_i j hj
        cases hq : (Nat.ble (len * j.size) 16777216 && Nat.beq j.zero.cells.size j.size) with
        | false => simp [hq] at h
        | true =>
          simp only [hq, cond_true] at h
          rw [Bool.and_eq_true] at hq
          have hq1 := Nat.le_of_ble_eq_true hq.1
          have hq2 := Nat.eq_of_beq_eq_true hq.2
          obtain ⟨cs, hcs, hk⟩ := optK_elim h
          cases hz : allC cs with
          | false => simp [hz] at hk
          | true =>
            simp only [hz, cond_true] at hk
            obtain ⟨hp1, hp2⟩ := parts_map hf parts
            have hzl : VL X (zerosA j.zero len) (madeCells j.zero.cells (len * j.size)).toList := by
              refine VL.of_get (by rw [zeros_length, Array.length_toList, size_madeCells, hq2]) fun k c u hc hu' => ?_
              obtain ⟨u', h1, h2⟩ := zeros_made (X := X) hc (Nat.le_of_eq (by rw [hq2]))
              rw [Array.getElem?_toList, h1] at hu'
              exact Option.some.inj hu' ▸ h2
            obtain ⟨rs, h1, h2⟩ := fill_run _ _ _ _ cs hcs hp1 hp2 hzl
            have hlen := fillA_length hcs
            refine rows_done (cells := rs) (cap := len) hr hn e hk (fun k c hc => ?_) (Nat.le_refl _) ?_ ?_
            · obtain ⟨u, h3, h4⟩ := h2.get k c hc
              exact ⟨u, by simpa using h3, h4⟩
            · have := h2.length
              rw [hlen, zeros_length, hq2, Array.length_toList] at this
              omega
            · simp only [execOp, Instr.buildSlice, Sem.run_bind, run_underlying hu, Result.andThen_ok, sizeOf_run (hT e j hj)]
              rw [if_neg (by omega)]
              simp only [Sem.run_bind, Sem.run_pure, Result.andThen_ok]
              have hmade : (madeCells j.zero.cells (len * j.size)) = (Array.range (len * j.size)).map fun x => (j.zero.cells)[x % j.zero.cells.size]! := rfl
              by_cases h0 : len * j.size = 0
              · rw [if_pos h0]
                rw [hmade] at h1
                simp only [h0, Sem.run_pure, Result.andThen_ok] at h1 ⊢
                have e0 : Array.range 0 = #[] := rfl
                simp only [e0, Array.map_empty] at h1 ⊢
                rw [h1]
                simp [newRow]
              · rw [if_neg h0]
                simp only [Sem.run_bind, zero_run (hT e j hj), Result.andThen_ok, Sem.run_pure]
                rw [← hmade, h1]
                simp [newRow]
      · exact h.elim
    · exact h.elim
  case load t a =>
    split at h
    · rename_i i hi
      refine Done.of hr rfl ?_
      refine load_run hT hr hi (K := fun c => K c H) (a := ev f a) ?_ (hf a)
      exact h
    · exact h.elim
  case nilCheck x =>
    have hx := hf x
    split at h
    · rename_i p off he
      rw [he] at hx
      have hx' := hx
      simp only [VR] at hx
      obtain ⟨b, hb, hv⟩ := hx
      exact Done.same (v := ρ x) hr h (by simp [execOp, hv]) hx'
    · rename_i cells he
      rw [he] at hx
      have hx' := hx
      simp only [VR] at hx
      obtain ⟨ad, hv, _⟩ := hx
      exact Done.same (v := ρ x) hr h (by simp [execOp, hv]) hx'
    · rename_i g caps he
      rw [he] at hx
      have hx' := hx
      simp only [VR] at hx
      obtain ⟨c, hv, _⟩ := hx
      exact Done.same (v := ρ x) hr h (by simp [execOp, hv]) hx'
    · exact h.elim
  case binOp op t x y ty => exact Done.of_bin hr rfl (binA_run hT X.w h (hf x) (hf y))
  case unOp op t x => exact Done.of_bin hr rfl (unA_run X.w h (hf x))
  case convert src dst x =>
    split at h
    · rename_i e eq1 _ _ _ eq2 hs hd
      split at h
      · rename_i he
        cases hq : isStr (ev f x) with
        | true => simp [hq] at h
        | false =>
          simp only [hq, cond_false] at h
          obtain ⟨cs, h1, h⟩ := optK_elim h
          obtain ⟨l, h2, hk⟩ := optK_elim h
          have hus : P.underlying src = some (.slice e) := und_slice (hT src _ hs) rfl
          refine Done.same (v := .string ⟨l.toArray⟩) hr hk ?_ (VR_string.2 rfl)
          have := str_run hT hr hus (und_int (hT e _ he) rfl) (und_str (hT dst _ hd) rfl) h1 h2 (hf x) (not_str h1 hq (hf x))
          simp [execOp, this]
      · exact h.elim
    · rename_i i0 _ _ _ e eqk s hs hd hx
      split at h
      · rename_i he
        obtain ⟨du, hsu, _⟩ := (hT src i0 hs).und
        have hv := hf x
        rw [hx, VR_string] at hv
        exact bytes_run_view hr hsu (und_slice (hT dst _ hd) rfl : P.underlying dst = some (.slice e)) (und_int (hT e _ he) rfl) s h (by simp [execOp, hv])
      · exact h.elim
    · exact Done.of_bin hr rfl (convA_run hT X.w h (hf x))
  case makeInterface t x =>
    split at h
    · exact h.elim
    · rename_i i hne hi
      obtain ⟨v, hv, hk⟩ := optK_elim h
      obtain ⟨d, hu, hni⟩ := not_iface (hT t i hi) (fun he => hne i.size i.bytes i.zero i.eqOk (by cases i; simp at he; subst he; rfl))
      obtain ⟨h1, h2⟩ := plainOf_run (t := t) hv (hf x)
      refine Done.same (v := .iface t v) hr hk ?_ (by simp [VR, ScR, h2])
      cases d <;> first
        | exact absurd rfl (hni _)
        | simp [execOp, Instr.makeInterface, run_underlying hu, h1]
    · exact h.elim
  case makeFunc fn first captured =>
    split at h
    · rename_i hq
      have h0 : first = #[] := by simpa using hq
      subst h0
      refine Done.same (v := .func fn #[] (captured.map ρ)) hr h (by simp [execOp, Instr.makeFunc]) ?_
      simp only [VR]
      exact ⟨_, rfl, by simpa using VL_map hf captured.toList⟩
    · exact h.elim
  case makeMap t r =>
    split at h
    · refine Done.new (v := .map (some X.w.heap.size)) hr hn (Go.Obj.map #[] 0) (.mp [(.bool false, .sc (.int .i64 0))]) h (by simp [execOp, Instr.makeMap]) ?_ (fun cs he => by cases he) (fun es he => ?_)
      · simp only [VR]
        exact ⟨⟨X.w.heap.size, 0, none⟩, by simp [Ctx.new], rfl⟩
      · cases he
        exact ⟨rfl, _, _, heap_alloc_at _ _, rfl, rfl, rfl, VR_int.2 rfl, True.intro⟩
    · exact h.elim
  case makeSlice t l c =>
    split at h
    · rename_i e eqk ht
      have hu : P.underlying t = some (.slice e) := und_slice (hT t _ ht) rfl
      split at h
      · rename_i j lv mv hj hl hm
        cases hq : (Nat.beq j.zero.cells.size j.size && zeroOk j.zero) with
        | false => simp [hq] at h
        | true =>
          simp only [hq, cond_true] at h
          rw [Bool.and_eq_true] at hq
          have hq1 := Nat.eq_of_beq_eq_true hq.1
          obtain ⟨⟨h0, h1, h2, h3⟩, hk⟩ := h
          obtain ⟨k1, hl'⟩ := intOf_VR hl (hf l)
          obtain ⟨k2, hm'⟩ := intOf_VR hm (hf c)
          obtain ⟨ti, hb1, hb2, hb3⟩ := bytes_run (hT e j hj) X.w
          have hwl : IntKind.i64.wrap lv = lv := wrap64_small (by omega) (by omega)
          have hwm : IntKind.i64.wrap mv = mv := wrap64_small (by omega) (by omega)
          refine rows_done (cells := madeCells j.zero.cells (mv.toNat * j.size)) (cap := mv.toNat) hr hn e hk (fun k c hc => ?_) (by omega) (by rw [size_madeCells]; exact Nat.le_refl _) ?_
          · exact zeros_made hc (Nat.mul_le_mul (by omega) (Nat.le_of_eq hq1))
          · have hmade : (madeCells j.zero.cells (mv.toNat * j.size)) = (Array.range (mv.toNat * j.size)).map fun x => (j.zero.cells)[x % j.zero.cells.size]! := rfl
            have ht1 : ¬ ((mv < 0 || decide ((ti.bytes : Int) * mv > 2 ^ 48)) || decide (lv < 0) || decide (lv > mv)) = true := by
              rw [hb2]
              simp only [Bool.or_eq_true, decide_eq_true_eq, not_or]
              omega
            simp only [execOp, Instr.makeSlice, Sem.run_bind, run_underlying hu, Result.andThen_ok, hl', hm', asInt, asIntOf, Sem.run_pure, hb1, hwl, hwm]
            rw [if_neg ht1]
            simp only [Sem.run_bind, run_askRoom, Result.andThen_ok, sizeOf_run (hT e j hj)]
            by_cases h4 : mv.toNat * j.size = 0
            · rw [if_pos h4]
              have e0 : Array.range 0 = #[] := rfl
              simp only [Sem.run_pure, Result.andThen_ok, Sem.run_bind, newRow, run_newObj, h4, madeCells, e0, Array.map_empty]
              rfl
            · rw [if_neg h4]
              simp only [Sem.run_bind, zero_run (hT e j hj), Sem.run_pure, Result.andThen_ok, newRow, run_newObj, ← hmade]
              rfl
      · exact h.elim
    · exact h.elim
  case slice t x lo hi mx =>
    exact Done.of hr rfl (slice_run hT hr h (hf x) (OR_map hf lo) (OR_map hf hi) (OR_map hf mx))
  case fieldAddr s x m =>
    split at h
    · rename_i fs eqk hs
      split at h
      · rename_i off t bl hm
        split at h
        · rename_i i hi
          cases hz : Nat.beq i.size 0 with
          | true => simp [hz] at h
          | false =>
            simp only [hz, cond_false] at h
            have hx := hf x
            split at h
            · rename_i p o he
              rw [he] at hx
              simp only [VR] at hx
              obtain ⟨b, hb, hv⟩ := hx
              have := fieldAt_run (P := P) hT hs rfl hm hi hz ⟨b.block, b.off + o, none⟩ X.w
              refine Done.same (v := .pointer (some ⟨b.block, b.off + (o + off), none⟩)) hr h ?_ (by simp only [VR]; exact ⟨b, hb, rfl⟩)
              simp [execOp, hv, this, add_spot, Nat.add_assoc]
            · rename_i cells he
              rw [he] at hx
              simp only [VR] at hx
              obtain ⟨ad, hv, hs', hc⟩ := hx
              have := fieldAt_run (P := P) hT hs rfl hm hi hz ad X.w
              refine Done.same (v := .pointer (some (ad.add off))) hr h (by simp [execOp, hv, this]) ?_
              simp only [VR]
              exact ⟨_, rfl, by rw [add_spot _ _ hs'], by simpa using (VC.drop off hc).shift hs'⟩
            · exact h.elim
        · exact h.elim
      · exact h.elim
    · exact h.elim
  case field s x m =>
    split at h
    · rename_i fs eqk hs
      split at h
      · rename_i off t bl cs hm hx
        split at h
        · rename_i i hi
          have hv := hf x
          rw [hx] at hv
          exact Done.of hr rfl (field_run hT hs rfl hm hi (K := fun c => K c H) hv h)
        · exact h.elim
      · exact h.elim
    · exact h.elim
  case indexAddr t x ix => exact Done.of hr rfl (indexAddr_run hT h (hf x) (hf ix))
  case index t x ix =>
    split at h
    · rename_i ti i ht hi
      obtain ⟨k, hix⟩ := intOf_VR hi (hf ix)
      split at h
      · rename_i s hd hx
        have hv := hf x
        rw [hx, VR_string] at hv
        obtain ⟨⟨h0, h1⟩, hk⟩ := h
        have hu := und_str (hT t ti ht) hd
        have hlen : s.data.toList.length = s.size := by rw [Array.length_toList]; rfl
        have hlt : i.toNat < s.size := by omega
        refine Done.same hr hk (v := .int .u8 ((s.data.toList.getD i.toNat 0).toNat : Nat)) ?_ (VR_int.2 rfl)
        have hb : s[i.toNat]? = some (s.data.toList.getD i.toNat 0) := by
          rw [List.getD_eq_getElem?_getD, List.getElem?_eq_getElem (show i.toNat < s.data.toList.length by omega)]
          rw [getElem?_pos s i.toNat hlt]
          rfl
        simp only [execOp, Instr.index, hix, hv, asIntOf, Sem.run_bind, Sem.run_pure, Result.andThen_ok, run_underlying hu, if_pos h0, hb]
      · rename_i m e cs hd hx
        have hv := hf x
        rw [hx] at hv
        have hv' := hv
        simp only [VR] at hv
        obtain ⟨ds, hds, hl⟩ := hv
        have hu := und_arr (hT t ti ht) hd
        split at h
        · rename_i j hj
          obtain ⟨⟨h0, h1⟩, hk⟩ := h
          have key : ∃ a, K a H ∧ (bif j.d.agg then some (AV.agg ((cs.drop (i.toNat * j.size)).take j.size)) else nth cs (i.toNat * j.size)) = some a := by
            cases hd' : j.d.agg with
            | true => simp only [hd', If] at hk; exact ⟨_, hk, rfl⟩
            | false =>
              simp only [hd', If] at hk
              obtain ⟨c, hc, hk⟩ := optK_elim hk
              exact ⟨c, hk, hc⟩
          obtain ⟨a, hk, ha⟩ := key
          obtain ⟨u, h4, h5⟩ := part_run (hT e j hj) hl (i.toNat * j.size) ha X.w
          refine Done.same (v := u) hr hk ?_ h5
          simp only [execOp, Instr.index, hix, hds, asIntOf, Sem.run_bind, Sem.run_pure, Result.andThen_ok, run_underlying hu]
          rw [if_pos (show 0 ≤ i ∧ i < (m : Int) from ⟨h0, h1⟩)]
          simp [sizeOf_run (hT e j hj), h4]
        · exact h.elim
      · exact h.elim
    · exact h.elim
  case typeAssert x xt t ok =>
    split at h
    · exact h.elim
    · rename_i i hne hi
      obtain ⟨d, hu, hni⟩ := not_iface (hT t i hi) (fun he => hne i.size i.bytes i.zero i.eqOk (by cases i; simp at he; subst he; rfl))
      have hz := zero_run (hT t i hi) X.w
      have hx := hf x
      split at h
      · rename_i u v he
        rw [he] at hx
        obtain ⟨hv, _⟩ := VR_iface hx
        cases hq : Nat.beq u t with
        | true =>
          simp only [hq, cond_true] at h
          have := Nat.eq_of_beq_eq_true hq
          subst this
          cases ok with
          | true =>
            refine Done.same (v := .tuple #[v, .bool true]) hr h ?_ (by simp only [cond_true, VR]; exact ⟨_, rfl, by simp only [VL]; exact ⟨VR_ofV, VR_bool.2 rfl, trivial⟩⟩)
            cases d <;> first
              | exact absurd rfl (hni _)
              | simp [execOp, Instr.typeAssert, run_underlying hu, hv]
          | false =>
            refine Done.same (v := v) hr h ?_ VR_ofV
            cases d <;> first
              | exact absurd rfl (hni _)
              | simp [execOp, Instr.typeAssert, run_underlying hu, hv]
        | false =>
          simp only [hq, cond_false] at h
          have hne' : u ≠ t := fun he' => by subst he'; simp at hq
          cases ok with
          | true =>
            simp only [cond_true] at h
            refine Done.same (v := .tuple #[i.zero, .bool false]) hr h ?_ (by simp only [VR]; exact ⟨_, rfl, by simp only [VL]; exact ⟨VR_ofV, VR_bool.2 rfl, trivial⟩⟩)
            cases d <;> first
              | exact absurd rfl (hni _)
              | simp [execOp, Instr.typeAssert, run_underlying hu, hv, hne', hz]
          | false => exact h.elim
      · rename_i he
        rw [he, VR_nilIface] at hx
        cases ok with
        | true =>
          simp only [cond_true] at h
          refine Done.same (v := .tuple #[i.zero, .bool false]) hr h ?_ (by simp only [VR]; exact ⟨_, rfl, by simp only [VL]; exact ⟨VR_ofV, VR_bool.2 rfl, trivial⟩⟩)
          cases d <;> first
            | exact absurd rfl (hni _)
            | simp [execOp, Instr.typeAssert, run_underlying hu, hx, hz]
        | false => exact h.elim
      · exact h.elim
    · exact h.elim
  case extract t m =>
    split at h
    · rename_i vs he
      have hx := hf t
      rw [he] at hx
      simp only [VR] at hx
      obtain ⟨ws, hw, hl⟩ := hx
      obtain ⟨a, ha, hk⟩ := optK_elim h
      rw [nth_eq] at ha
      obtain ⟨u, h1, h2⟩ := hl.get m a ha
      have h3 : ws[m]? = some u := by simpa using h1
      exact Done.same (v := u) hr hk (by simp [execOp, Instr.extract, hw, h3]) h2
    · exact h.elim
  case call c =>
    obtain ⟨callee, args, argTypes⟩ := c
    unfold lenA at h
    split at h
    · rename_i hc
      simp only at hc
      subst hc
      split at h
      · rename_i t x h1 h2
        have e1 : argTypes = #[t] := by simpa using congrArg List.toArray h1
        have e2 : args = #[x] := by simpa using congrArg List.toArray h2
        subst e1 e2
        unfold lenOf at h
        split at h
        · rename_i i hi
          have key : ∀ (m : Nat), (Builtin.len_ #[t] type #[ρ x]).run P X.w = .ok (goInt m) X.w → K (.sc (.int .i64 m)) H → Done P X H n { dst := dst, op := Op.call { callee := .builtin .len, args := #[x], argTypes := #[t] }, type := type, pos := pos, after := after, guard := guard } ρ K := fun m hm hk =>
            Done.same (v := goInt m) hr hk (by simp [execOp, resolve, invoke, builtin, hm]) (VR_int.2 rfl)
          have hx := hf x
          split at h
          · rename_i s hd he
            rw [he, VR_string] at hx
            exact key _ (by simp [Builtin.len_, run_underlying (und_str (hT t i hi) hd), hx]) h
          · rename_i e hd he
            rw [he] at hx
            simp only [VR, ScR] at hx
            have hu := und_slice (hT t i hi) hd
            rcases hx with ⟨_, h3 | ⟨_, a', h3⟩⟩
            · exact key 0 (by simp [Builtin.len_, run_underlying hu, h3]) h
            · exact key 0 (by simp [Builtin.len_, run_underlying hu, h3]) h
          · rename_i e len cells hd he
            rw [he] at hx
            simp only [VR] at hx
            obtain ⟨a', c, h3, _⟩ := hx
            exact key len (by simp [Builtin.len_, run_underlying (und_slice (hT t i hi) hd), h3]) h
          · rename_i e p off len sz hd he
            rw [he] at hx
            simp only [VR] at hx
            have h3 : ∃ a c, ρ x = Value.slice a len c := by
              rcases hx with ⟨hl0, a, h3⟩ | ⟨b, o, c, cells, e', _, h3, _⟩
              · exact ⟨a, 0, by rw [h3, hl0]⟩
              · exact ⟨_, _, h3⟩
            obtain ⟨a, c, h3⟩ := h3
            exact key len (by simp [Builtin.len_, run_underlying (und_slice (hT t i hi) hd), h3]) h
          · rename_i k e p hd he
            rw [he] at hx
            simp only [VR] at hx
            obtain ⟨b, hb, h3⟩ := hx
            split at h
            · rename_i es hp
              rw [nth_eq] at hp
              obtain ⟨es', clock, h4, _, h5⟩ := (hr.mp p _ b hp hb).inv
              have hlen : es.length = es'.size := by
                have := EntR.length h5
                rw [List.length_map] at this
                exact this
              exact key es.length (by simp [Builtin.len_, run_underlying (und_map (hT t i hi) hd), h3, getObj, Sem.run, h4, hlen]) h
            · exact h.elim
          · exact h.elim
        · exact h.elim
      · exact h.elim
    · rename_i hc
      simp only at hc
      subst hc
      unfold most at h
      split at h
      · rename_i x y h1
        have e1 : args = #[x, y] := by simpa using congrArg List.toArray h1
        subst e1
        split at h
        · rename_i k a k' b hx hy
          have ex := hf x
          have ey := hf y
          rw [hx, VR_int] at ex
          rw [hy, VR_int] at ey
          exact Done.same (v := .int k (if b > a then b else a)) hr h (by simp [execOp, resolve, invoke, builtin, Builtin.max_, Builtin.max2, ex, ey]) (VR_int.2 rfl)
        · exact h.elim
      · exact h.elim
    · rename_i hc
      simp only at hc
      subst hc
      unfold most at h
      split at h
      · rename_i x y h1
        have e1 : args = #[x, y] := by simpa using congrArg List.toArray h1
        subst e1
        split at h
        · rename_i k a k' b hx hy
          have ex := hf x
          have ey := hf y
          rw [hx, VR_int] at ex
          rw [hy, VR_int] at ey
          exact Done.same (v := .int k (if b < a then b else a)) hr h (by simp [execOp, resolve, invoke, builtin, Builtin.min_, Builtin.min2, ex, ey]) (VR_int.2 rfl)
        · exact h.elim
      · exact h.elim
    · exact h.elim
  case lookup t x ix ok =>
    obtain ⟨c, u, hk, hs, hv⟩ := lookup_run hT hr h (hf x) (hf ix)
    exact Done.same (v := u) hr hk (by simp [execOp, hs]) hv
  all_goals exact h.elim
end
end Go.Proofs.YthbncljlclcecaaDoor.A

namespace Go.Proofs.YthbncljlclcecaaDoor.A
open Go
set_option linter.unusedVariables false
set_option linter.unusedSimpArgs false

/-- How many elements a source has. -/
def srcN : AV → Nat
  | .sc (.string s) => s.size
  | .view len _ => len
  | .slc _ _ len _ => len
  | _ => 0
/-- So many elements, of the cells cs, are added to a slice. -/
def appTo (H : Heap) (j : TI) (a : AV) (m : Nat) (cs : List AV) (K : AV → Heap → Prop) : Prop :=
  match a with
  | .sc (.slice none 0 0) => If (Nat.beq m 0) (K (.sc (.slice none 0 0)) H) (Ob (m * j.bytes ≤ 140737488355328 ∧ m ≤ 9223372036854775807) (K (.slc H.length 0 m j.size) (H ++ [.row cs])))
  | .slc p off len sz => bif Nat.beq j.size sz then optK (rdN H p off (len * sz)) fun old =>
      Ob ((len + m) * j.bytes ≤ 140737488355328 ∧ len + m ≤ 9223372036854775807) (K (.slc H.length 0 (len + m) sz) (H.set p .dead ++ [.row (old ++ cs)])) else False
  | _ => False
def appA (T : Tab) (H : Heap) (st xt : TypeId) (a b : AV) (K : AV → Heap → Prop) : Prop :=
  match T st, T xt with
  | some { d := .slice e, .. }, some xi =>
    match T e with
    | some j =>
      bif Nat.beq j.zero.cells.size j.size then
        match xi.d with
        | .int _ =>
          match b with
          | .sc (.int _ n) => bif zeroOk j.zero then Ob (0 ≤ n ∧ n ≤ 140737488355328 ∧ n * j.bytes ≤ 140737488355328) (appTo H j a n.toNat (zerosA j.zero n.toNat) K) else False
          | _ => False
        | _ => optK (srcA H j.size b) fun cs => Ob (allC cs = true) (appTo H j a (srcN b) cs K)
      else False
    | none => False
  | _, _ => False
def storeA (T : Tab) (H : Heap) (t : TypeId) (a x : AV) (K : AV → Heap → Prop) : Prop :=
  match T t, a, cellsOf x with
  | some i, .ptr p off, some l => bif Nat.beq l.length i.size && allC l then optK (wr H p off l) fun H' => K undefA H' else False
  | _, _, _ => False

section
variable {P : Program} {T : Tab} {X : Ctx} {H : Heap}

theorem set_same {α : Type} {l : List α} {p : Nat} {x : α} (h : l[p]? = some x) : l.set p x = l := by
  apply List.ext_getElem?
  intro k
  rw [List.getElem?_set]
  split
  · rename_i hk
    subst hk
    rw [h]
    split
    · rfl
    · rename_i hn
      exact absurd (List.getElem?_eq_some_iff.1 h).1 hn
  · rfl
theorem splice_get (cur : List Value) (vs : List Value) (o k : Nat) (h : o + vs.length ≤ cur.length) :
    (cur.take o ++ vs ++ cur.drop (o + vs.length))[k]? = if o ≤ k ∧ k < o + vs.length then vs[k - o]? else cur[k]? := by
  have ht : (cur.take o).length = o := by simp; omega
  by_cases h1 : k < o
  · rw [if_neg (by omega), List.append_assoc, List.getElem?_append_left (by omega), List.getElem?_take_of_lt h1]
  · by_cases h2 : k < o + vs.length
    · rw [if_pos (by omega), List.append_assoc, List.getElem?_append_right (by omega), ht, List.getElem?_append_left (by omega)]
    · rw [if_neg (by omega), List.getElem?_append_right (by simp; omega), List.getElem?_drop]
      congr 1
      simp
      omega
theorem wr_row {p off : Nat} {l : List AV} {H' : Heap} (h : wr H p off l = some H') : ∃ cs, H[p]? = some (AObj.row cs) ∧ off + l.length ≤ cs.length ∧ H' = H.set p (.row (setAll cs off l)) := by
  unfold wr at h
  split at h
  · rename_i cs hp
    rw [nth_eq] at hp
    cases hb : Nat.ble (off + l.length) cs.length with
    | false => simp [hb] at h
    | true =>
      simp only [hb, cond_true, setB_eq, Option.some.injEq] at h
      exact ⟨cs, hp, Nat.le_of_ble_eq_true hb, h.symm⟩
  · cases h
/-- Cells of an object are written. -/
theorem wr_step (hr : HR X H) {p off : Nat} {l : List AV} {H' : Heap} (h : wr H p off l = some H') {b : Addr} (hb : X.φ p = some b) {vs : List Value} (hl : VL X l vs) (h1 : ∀ v ∈ vs, v.oneCell' = true) :
    ∃ w', (storeCells ⟨b.block, b.off + off, none⟩ vs).run P X.w = .ok () w' ∧ Step X H ⟨X.φ, X.F, w'⟩ H' := by
  obtain ⟨cs, hp, hle, rfl⟩ := wr_row h
  obtain ⟨cells, e, hh, hg⟩ := hr.row p cs b hp hb
  have hlv := hl.length
  have hend : l.length = 0 ∨ b.off + off + l.length ≤ cells.size := by
    rcases Nat.eq_zero_or_pos l.length with h0 | h0
    · exact .inl h0
    · right
      obtain ⟨v, hv, _⟩ := hg (off + l.length - 1) _ (List.getElem?_eq_getElem (by omega))
      have := (Array.getElem?_eq_some_iff.1 hv).1
      omega
  rcases hend with h0 | hend
  · have hv0 : vs = [] := List.eq_nil_of_length_eq_zero (by omega)
    have hl0 : l = [] := List.eq_nil_of_length_eq_zero h0
    subst hv0 hl0
    have : H.set p (.row (setAll cs off [])) = H := by
      rw [setAll]
      exact set_same hp
    rw [this]
    exact ⟨X.w, rfl, Step.refl hr⟩
  · have hrun := run_storeCells_at (P := P) b.block (b.off + off) e vs 0 cells X.w hh (by omega) h1
    refine ⟨_, hrun, ?_⟩
    have hφ : (fun j => if j = p then some b else X.φ j) = X.φ := by
      funext j
      split
      · rename_i hj
        rw [hj, hb]
      · rfl
    have hst := Step.write (w' := X.w.setRow b.block (cells.toList.take (b.off + off + 0) ++ vs ++ cells.toList.drop (b.off + off + 0 + vs.length)).toArray) hr p b ⟨_, hp, rfl⟩ hb p b (.row (setAll cs off l)) rfl (hr.lt p b hb).2.1 (H' := H.set p (.row (setAll cs off l))) (.inl ⟨rfl, rfl⟩) (by rw [List.length_set]; exact Nat.le_refl _)
      (by rw [List.getElem?_set_self (by exact (List.getElem?_eq_some_iff.1 hp).1)]) (fun j hj _ => by rw [List.getElem?_set_ne (Ne.symm hj)])
      (fun k hk => setRow_other X.w b.block k _ hk) (setRow_size X.w b.block _)
      (fun cells' e' fr hc => by
        rw [hh] at hc
        cases hc
        refine ⟨_, setRow_heap X.w b.block cells _ e (0, 0) hh, ?_⟩
        simp
        omega)
      rfl rfl rfl (fun Y hle' hY cs' he => by
        cases he
        refine ⟨_, e, by rw [hY]; exact setRow_heap X.w b.block cells _ e (0, 0) hh, fun k c hc => ?_⟩
        rw [setAll_get _ _ _ _ hle] at hc
        rw [List.getElem?_toArray, Nat.add_zero, splice_get _ _ _ _ (by simp; omega)]
        by_cases hk : off ≤ k ∧ k < off + l.length
        · rw [if_pos hk] at hc
          rw [if_pos (by omega)]
          obtain ⟨v, h3, h4⟩ := hl.get _ _ hc
          exact ⟨v, by rw [show b.off + k - (b.off + off) = k - off by omega]; exact h3, VR.mono hle' _ _ h4⟩
        · rw [if_neg hk] at hc
          rw [if_neg (by omega)]
          obtain ⟨v, h3, h4⟩ := hg k c hc
          exact ⟨v, by simpa using h3, VR.mono hle' _ _ h4⟩)
      (fun Y _ _ es he => by cases he)
    rw [hφ] at hst
    exact hst
theorem store_run (hT : TOk P T) (hr : HR X H) {t : TypeId} {a x : AV} {v u : Value} {K : AV → Heap → Prop} (h : storeA T H t a x K) (ha : VR X a v) (hx : VR X x u) :
    ∃ H' w', K undefA H' ∧ (Instr.storeAt t v u).run P X.w = .ok () w' ∧ Step X H ⟨X.φ, X.F, w'⟩ H' := by
  unfold storeA at h
  split at h
  · rename_i i p off l hi hl
    cases hq : (Nat.beq l.length i.size && allC l) with
    | false => simp [hq] at h
    | true =>
      simp only [hq, cond_true] at h
      rw [Bool.and_eq_true] at hq
      have hq1 := Nat.eq_of_beq_eq_true hq.1
      obtain ⟨H', hw, hk⟩ := optK_elim h
      simp only [VR] at ha
      obtain ⟨b, hb, rfl⟩ := ha
      have hvl := cellsOf_rel hl hx hq.2
      obtain ⟨w', h3, h4⟩ := wr_step (P := P) hr hw hb hvl (allC_oneCells hq.2 hvl)
      refine ⟨H', w', hk, ?_, h4⟩
      have hsz : u.cells.size = i.size := by
        have := hvl.length
        simp at this
        omega
      simp only [Instr.storeAt, Instr.sureAddr, Sem.run_bind, Sem.run_pure, Result.andThen_ok, storeVar, sizeOf_run (hT t i hi)]
      rw [if_neg (by simp [hsz])]
      exact h3
  · exact h.elim

/-- The model's run of an append that fits. -/
theorem append_fits {st xt ty e : TypeId} {j : TI} (hj : TOkAt P e j) (hs : P.underlying st = some (.slice e)) {dx : TypeDesc} (hx : P.underlying xt = some dx) (hdx : ∀ k, dx ≠ .int k)
    {base : Option Addr} {len c m : Nat} {x : Value} {new : List Value} (w : World) (hm : (Builtin.lenOf x).run P w = .ok m w) (hn : (Builtin.firstCells j.size m x).run P w = .ok new.toArray w) (hfit : len + m ≤ c) :
    (Builtin.append_ #[st, xt] ty #[.slice base len c, x]).run P w =
      (match base with | some a => ((storeCells (a.add (len * j.size)) new).run P w) | none => .ok () w).andThen fun _ w' => .ok (.slice base (len + m) c) w' := by
  have hz : (dx matches .int _) = false := by cases dx <;> first | rfl | exact absurd rfl (hdx _)
  cases base with
  | none => simp [Builtin.append_, run_underlying hs, run_underlying hx, sizeOf_run hj, hz, hm, hn, hfit]
  | some a => simp [Builtin.append_, run_underlying hs, run_underlying hx, sizeOf_run hj, hz, hm, hn, hfit]
theorem append_grows {st xt ty e : TypeId} {j : TI} (hj : TOkAt P e j) (hs : P.underlying st = some (.slice e)) {dx : TypeDesc} (hx : P.underlying xt = some dx) (hdx : ∀ k, dx ≠ .int k)
    {base : Option Addr} {len c m : Nat} {x : Value} {old new : List Value} (w : World) (hm : (Builtin.lenOf x).run P w = .ok m w) (hn : ∀ w', w'.heap = w.heap → (Builtin.firstCells j.size m x).run P w' = .ok new.toArray w')
    (ho : ∀ w', w'.heap = w.heap → (Builtin.firstCells j.size len (.slice base len c)).run P w' = .ok old.toArray w') (hfit : ¬ len + m ≤ c) (hb : (len + m) * j.bytes ≤ 140737488355328) (hl : len + m ≤ 9223372036854775807) :
    (Builtin.append_ #[st, xt] ty #[.slice base len c, x]).run P w =
      .ok (.slice (some ⟨w.heap.size, 0, none⟩) (len + m) (grownCap w (len + m) c e)) (w.drew.alloc (Go.Obj.cells (old.toArray ++ new.toArray ++ Builtin.zeroCells j.zero.cells (grownCap w (len + m) c e - (len + m))) e)) := by
  have hz : (dx matches .int _) = false := by cases dx <;> first | rfl | exact absurd rfl (hdx _)
  obtain ⟨ti, h1, h2, h3, h4⟩ := hj.info
  have hti : ∀ w', (typeInfo e).run P w' = .ok ti w' := fun w' => by simp [typeInfo, h1]
  have hlt : c < len + m := by omega
  have hcap : ¬ Builtin.nextslicecap (len + m) c * ti.bytes > 2 ^ 48 := by
    rw [h3]
    have := growslice_fits hlt hb
    omega
  have hmax : ¬ (((len + m : Nat) : Int) > IntKind.i64.max ∧ (False ∨ ti.bytes = 0)) := by
    rw [IntKind.max_i64]
    omega
  have hn' := hn w.drew rfl
  have ho' := ho w.drew rfl
  simp only [Builtin.append_, List.getElem?_toArray, List.getElem?_cons_zero, List.getElem?_cons_succ, Sem.run_bind, run_underlying hs, run_underlying hx, sizeOf_run hj, hz, Result.andThen_ok, Sem.run_pure, hm, if_neg hfit, hti, if_neg hmax, if_neg hcap, Bool.false_eq_true, if_false, run_choose, Question.forced, run_askRoom, Bool.not_false, if_true]
  simp only [World.drew_eq, ho', hn', Result.andThen_ok, zero_run hj, newRow, Sem.run_bind, run_newObj, Sem.run_pure, World.alloc_eq]
  rfl
theorem loadCells_heap {a : Addr} {vs : List Value} {w w' : World} (hh : w'.heap = w.heap) (h : ∀ (j : Nat) (v : Value), vs[j]? = some v → w.cell? (a.add j) = some v) : (loadCells a vs.length).run P w' = .ok vs.toArray w' :=
  run_loadCells_list w' a vs fun j v hj => by
    have := h j v hj
    simpa only [World.cell?, hh] using this
theorem src_run (hr : HR X H) {sz : Nat} {b : AV} {x : Value} {cs : List AV} (h : srcA H sz b = some cs) (hb : VR X b x) :
    ∃ new : List Value, (∀ w', (Builtin.lenOf x).run P w' = .ok (srcN b) w') ∧ (∀ w', w'.heap = X.w.heap → (Builtin.firstCells sz (srcN b) x).run P w' = .ok new.toArray w') ∧ VL X cs new ∧ new.length = srcN b * sz := by
  rcases srcA_cells hr h hb with ⟨s, rfl, rfl, rfl, rfl⟩ | ⟨bl, o, len, c, rfl, hlc, hl, hg⟩ | ⟨a', c, rfl, rfl⟩
  · refine ⟨s.data.toList.map fun q => .int .u8 q.toNat, fun w' => by simp [Builtin.lenOf, srcN], fun w' _ => ?_, ?_, ?_⟩
    · have he : s.extract 0 s.size = s := by simp
      simp [Builtin.firstCells, srcN, he]
      apply Array.ext'
      simp
    · unfold bytesA
      induction s.data.toList with
      | nil => simp [VL]
      | cons q l ih => simp only [List.map_cons, VL]; exact ⟨VR_int.2 rfl, ih⟩
    · rw [List.length_map, Array.length_toList]
      simp [srcN]
  · obtain ⟨vs, h1, h2, h3⟩ := list_of_gets (X := X) (a := ⟨bl, o, none⟩) rfl hg
    have hn : srcN b = len := by
      unfold srcA at h
      split at h
      · simp [VR, ScR] at hb
      · simp [VR, ScR] at hb
        exact hb.2.1.symm
      · simp only [VR] at hb
        obtain ⟨_, _, e, _⟩ := hb
        cases e
        rfl
      · simp only [VR] at hb
        rcases hb with ⟨h0, a, e⟩ | ⟨_, _, _, _, _, _, e, _⟩
        · cases e
          first | exact h0 | rfl
        · cases e
          rfl
      · cases h
    refine ⟨vs, fun w' => by simp [Builtin.lenOf, hn], fun w' hw => ?_, h2, by rw [hn]; omega⟩
    have := loadCells_heap (P := P) hw h3
    rw [h1, hl] at this
    simp [Builtin.firstCells, hn, this]
  · have hn : srcN b = 0 := by
      unfold srcA at h
      split at h
      · simp [VR, ScR] at hb
      · rfl
      · simp only [VR] at hb
        obtain ⟨_, _, e, _⟩ := hb
        cases e
        rfl
      · simp only [VR] at hb
        rcases hb with ⟨h0, a, e⟩ | ⟨_, _, _, _, _, _, e, _⟩
        · cases e
          first | exact h0 | rfl
        · cases e
          rfl
      · cases h
    refine ⟨[], fun w' => by simp [Builtin.lenOf, hn], fun w' _ => ?_, by simp [VL], by simp [hn]⟩
    cases a' with
    | none => simp [Builtin.firstCells]
    | some ad => simp [Builtin.firstCells, hn, loadCells, loadCellsFrom]
theorem grown_ge (w : World) (n c : Nat) (e : TypeId) : n ≤ grownCap w n c e := by
  unfold grownCap
  simp [Question.cut]
/-- A row that was grown into a new block. -/
theorem grown_step (hr : HR X H) {old new : List Value} {ocs cs : List AV} (ho : VL X ocs old) (hn : VL X cs new) {len m sz : Nat} (hlo : old.length = len * sz) (hln : new.length = m * sz) (z : Array Value) (hz : z.size = sz) (c : Nat) (e : TypeId) :
    ∃ Y, Y.w = X.w.drew.alloc (Go.Obj.cells (old.toArray ++ new.toArray ++ Builtin.zeroCells z (grownCap X.w (len + m) c e - (len + m))) e) ∧
      VR Y (.slc H.length 0 (len + m) sz) (.slice (some ⟨X.w.heap.size, 0, none⟩) (len + m) (grownCap X.w (len + m) c e)) ∧ Step X H Y (H ++ [.row (ocs ++ cs)]) ∧ ∀ i, i < H.length → Y.φ i = X.φ i := by
  have hs1 : Step X H (X.at X.w.drew) H := Step.same hr rfl rfl rfl rfl rfl rfl
  have hn1 := NewAt.push hs1.hr
  have hle := Le.new hs1.hr H.length (Go.Obj.cells (old.toArray ++ new.toArray ++ Builtin.zeroCells z (grownCap X.w (len + m) c e - (len + m))) e) hn1.φ
  have hvl : VL X (ocs ++ cs) (old ++ new) := ho.append hn
  have hs2 := Step.new hs1.hr H.length (Go.Obj.cells (old.toArray ++ new.toArray ++ Builtin.zeroCells z (grownCap X.w (len + m) c e - (len + m))) e) (.row (ocs ++ cs)) hn1.φ (hn1.len _) (hn1.at_ _) (hn1.old _)
    (fun cs' he => by
      cases he
      refine ⟨_, e, heap_alloc_at _ _, fun k x hx => ?_⟩
      obtain ⟨v, h1, h2⟩ := hvl.get k x hx
      refine ⟨v, ?_, VR.mono (hs1.le.trans hle) _ _ h2⟩
      have hk : k < (old ++ new).length := (List.getElem?_eq_some_iff.1 h1).1
      rw [Nat.zero_add, Array.getElem?_append_left (by simpa using hk)]
      simpa using h1)
    (fun es he => by cases he)
  refine ⟨_, rfl, ?_, hs1.trans hs2, fun i hi => by simp [Ctx.new, Ctx.at, Nat.ne_of_lt hi]⟩
  simp only [VR]
  refine .inr ⟨⟨X.w.heap.size, 0, none⟩, 0, _, _, e, by simp [Ctx.new, Ctx.at], rfl, grown_ge _ _ _ _, fun _ => rfl, heap_alloc_at _ _, ?_⟩
  have hge := grown_ge X.w (len + m) c e
  simp only [Array.size_append, List.size_toArray, hlo, hln, Builtin.zeroCells, Array.size_map, Array.size_range, hz, ← Nat.add_mul]
  rw [Nat.add_sub_cancel' hge, Nat.zero_add]
  exact Nat.le_refl _
/-- How the model appends what x stands for: new, m elements. -/
structure SrcOk (P : Program) (X : Ctx) (e : TypeId) (j : TI) (xt : TypeId) (x : Value) (m : Nat) (new : List Value) : Prop where
  fits : ∀ {st ty : TypeId} {base : Option Addr} {len c : Nat}, P.underlying st = some (.slice e) → len + m ≤ c →
    (Builtin.append_ #[st, xt] ty #[.slice base len c, x]).run P X.w = (match base with | some a => ((storeCells (a.add (len * j.size)) new).run P X.w) | none => .ok () X.w).andThen fun _ w' => .ok (.slice base (len + m) c) w'
  grows : ∀ {st ty : TypeId} {base : Option Addr} {len c : Nat} {old : List Value}, P.underlying st = some (.slice e) →
    (∀ w' : World, w'.heap = X.w.heap → (Builtin.firstCells j.size len (.slice base len c)).run P w' = .ok old.toArray w') → ¬ len + m ≤ c → (len + m) * j.bytes ≤ 140737488355328 → len + m ≤ 9223372036854775807 →
    (Builtin.append_ #[st, xt] ty #[.slice base len c, x]).run P X.w =
      .ok (.slice (some ⟨X.w.heap.size, 0, none⟩) (len + m) (grownCap X.w (len + m) c e)) (X.w.drew.alloc (Go.Obj.cells (old.toArray ++ new.toArray ++ Builtin.zeroCells j.zero.cells (grownCap X.w (len + m) c e - (len + m))) e))
theorem srcOk_of {xt e : TypeId} {j : TI} (hj : TOkAt P e j) {dx : TypeDesc} (hx : P.underlying xt = some dx) (hdx : ∀ k, dx ≠ .int k) {m : Nat} {x : Value} {new : List Value}
    (hm : ∀ w', (Builtin.lenOf x).run P w' = .ok m w') (hn : ∀ w', w'.heap = X.w.heap → (Builtin.firstCells j.size m x).run P w' = .ok new.toArray w') : SrcOk P X e j xt x m new :=
  ⟨fun hs hf => append_fits hj hs hx hdx X.w (hm _) (hn _ rfl) hf, fun hs ho hf hb hl => append_grows hj hs hx hdx X.w (hm _) hn ho hf hb hl⟩
theorem srcOk_zeros {xt e : TypeId} {j : TI} (hj : TOkAt P e j) {k : IntKind} (hx : P.underlying xt = some (.int k)) (hz : j.zero.cells.size = j.size) {k' : IntKind} {n : Int} (h0 : 0 ≤ n) (h1 : n ≤ 140737488355328) (h2 : n * j.bytes ≤ 140737488355328) :
    SrcOk P X e j xt (.int k' n) n.toNat (Builtin.zeroCells j.zero.cells n.toNat).toList := by
  obtain ⟨ti, hi1, hi2, hi3, hi4⟩ := hj.info
  have hti : ∀ w', (typeInfo e).run P w' = .ok ti w' := fun w' => by simp [typeInfo, hi1]
  have hw : IntKind.i64.wrap n = n := wrap64_small (by omega) (by omega)
  have happ : ∀ w', (if n.toNat * j.size = 0 then (pure #[] : Sem (Array Value)) else do pure (Builtin.zeroCells (← zeroValue e).cells n.toNat)).run P w' = .ok (Builtin.zeroCells j.zero.cells n.toNat).toList.toArray w' := fun w' => by
    split
    · rename_i h
      rw [← hz] at h
      simp [Builtin.zeroCells, h]
    · simp [zero_run hj]
  have hb1 : ¬ (n * (ti.bytes : Int) > 2 ^ 48) := by rw [hi3]; omega
  refine ⟨fun {st ty base len c} hs hf => ?_, fun {st ty base len c old} hs ho hf hb hl => ?_⟩
  · have ha := happ X.w
    cases base with
    | none =>
      simp only [Builtin.append_, List.getElem?_toArray, List.getElem?_cons_zero, List.getElem?_cons_succ, Sem.run_bind, run_underlying hs, run_underlying hx, sizeOf_run hj, Result.andThen_ok, Sem.run_pure, asInt, asIntOf, hw, if_neg (show ¬ n < 0 by omega), hti, if_neg hb1, if_pos hf, if_true, Bool.not_true, Bool.false_eq_true, if_false, ha]
      try rfl
    | some a =>
      simp only [Builtin.append_, List.getElem?_toArray, List.getElem?_cons_zero, List.getElem?_cons_succ, Sem.run_bind, run_underlying hs, run_underlying hx, sizeOf_run hj, Result.andThen_ok, Sem.run_pure, asInt, asIntOf, hw, if_neg (show ¬ n < 0 by omega), hti, if_neg hb1, if_pos hf, if_true, Bool.not_true, Bool.false_eq_true, if_false, ha]
      try rfl
  · have hlt : c < len + n.toNat := by omega
    have hcap : ¬ Builtin.nextslicecap (len + n.toNat) c * ti.bytes > 2 ^ 48 := by
      rw [hi3]
      have := growslice_fits hlt hb
      omega
    have hmax : ¬ (((len + n.toNat : Nat) : Int) > IntKind.i64.max ∧ (True ∨ ti.bytes = 0)) := by
      rw [IntKind.max_i64]
      omega
    have ho' := ho X.w.drew rfl
    have ha := happ X.w.drew
    simp only [Builtin.append_, List.getElem?_toArray, List.getElem?_cons_zero, List.getElem?_cons_succ, Sem.run_bind, run_underlying hs, run_underlying hx, sizeOf_run hj, Result.andThen_ok, Sem.run_pure, asInt, asIntOf, hw, if_neg (show ¬ n < 0 by omega), hti, if_neg hb1, if_neg hf, if_true, if_neg hmax, if_neg hcap, Bool.not_true, Bool.false_eq_true, if_false, run_choose, Question.forced, run_askRoom]
    simp only [World.drew_eq, ho', ha, Result.andThen_ok, zero_run hj, newRow, Sem.run_bind, run_newObj, Sem.run_pure, World.alloc_eq]
    rfl
theorem allC_append : ∀ {x y : List AV}, allC x = true → allC y = true → allC (x ++ y) = true
  | [], y, _, h => h
  | a :: x, y, h, k => by
    simp only [allC, List.cons_append] at h ⊢
    cases hc : isC a with
    | false => simp [hc] at h
    | true => simp only [hc, cond_true] at h ⊢; exact allC_append h k
theorem zeros_allC {z : Value} (h : zeroOk z = true) : ∀ n, allC (zerosA z n) = true
  | 0 => by simp [zerosA, allC]
  | n + 1 => by
    have e : zerosA z (n + 1) = z.cells.toList.map ofC ++ zerosA z n := by simp [zerosA, List.replicate_succ]
    rw [e]
    exact allC_append h (zeros_allC h n)
theorem appTo_run (hr : HR X H) {st xt ty e : TypeId} (hs : P.underlying st = some (.slice e)) {j : TI} (hje : TOkAt P e j) (hz : j.zero.cells.size = j.size) {a : AV} {s x : Value} {m : Nat} {cs : List AV} {new : List Value} (hsrc : SrcOk P X e j xt x m new) (hvl : VL X cs new) (hnl : new.length = m * j.size) (hac : allC cs = true)
    {K : AV → Heap → Prop} (h : appTo H j a m cs K) (ha : VR X a s) :
    ∃ c H1 Y u, K c H1 ∧ (Builtin.append_ #[st, xt] ty #[s, x]).run P X.w = .ok u Y.w ∧ VR Y c u ∧ Step X H Y H1 ∧ ∀ i, i < H.length → Y.φ i = X.φ i := by
  have h1c := allC_oneCells hac hvl
  unfold appTo at h
  split at h
  · -- onto nothing
    obtain ⟨a', rfl⟩ : ∃ a', s = .slice a' 0 0 := by
      simp only [VR, ScR] at ha
      rcases ha with ⟨_, rfl | ⟨_, a', rfl⟩⟩
      · exact ⟨_, rfl⟩
      · exact ⟨_, rfl⟩
    cases hz0 : Nat.beq (m) 0 with
    | true =>
      simp only [hz0, If] at h
      have h0 := Nat.eq_of_beq_eq_true hz0
      subst h0
      have hnew : new = [] := List.eq_nil_of_length_eq_zero (by omega)
      subst hnew
      have := hsrc.fits (ty := ty) hs (base := a') (len := 0) (c := 0) (by omega)
      refine ⟨_, H, X, .slice a' 0 0, h, ?_, by simp [VR, ScR, plain, plainS], Step.refl hr, fun _ _ => rfl⟩
      rw [this]
      cases a' <;> simp [storeCells]
    | false =>
      simp only [hz0, If] at h
      obtain ⟨⟨hbd, hmax⟩, hk⟩ := h
      have hne : m ≠ 0 := fun he => by rw [he] at hz0; cases hz0
      have hold : ∀ w' : World, w'.heap = X.w.heap → (Builtin.firstCells j.size 0 (.slice a' 0 0)).run P w' = .ok ([] : List Value).toArray w' := fun w' _ => by
        cases a' with
        | none => simp [Builtin.firstCells]
        | some ad => simp [Builtin.firstCells, loadCells, loadCellsFrom]
      have := hsrc.grows (ty := ty) hs (base := a') (len := 0) (c := 0) (old := []) hold (by omega) (by simpa using hbd) (by omega)
      obtain ⟨Y, hYw, hv, hst, hφ⟩ := grown_step (X := X) hr (ocs := []) (old := []) (by simp [VL]) hvl (len := 0) (by simp) hnl j.zero.cells hz 0 e
      rw [← hYw] at this
      simp only [Nat.zero_add, List.nil_append] at hv hst this
      exact ⟨_, _, Y, _, hk, this, hv, hst, hφ⟩
  · rename_i p off len sz
    cases hqz : Nat.beq j.size sz with
    | false => simp [hqz] at h
    | true =>
      simp only [hqz, cond_true] at h
      have hjs := Nat.eq_of_beq_eq_true hqz
      subst hjs
      obtain ⟨old, hold, ⟨⟨hbd, hmx⟩, hk⟩⟩ := optK_elim h
      simp only [VR] at ha
      rcases ha with ⟨hl0, a', rfl⟩ | ⟨bb, o, c, cells, e', hφ, rfl, hlc, ho, hh, hsz⟩
      · subst hl0
        obtain ⟨all, _, _, hall⟩ := rdN_row hold
        have hold0 : old = [] := by rw [hall]; simp
        subst hold0
        have hkill := Step.kill hr p
        by_cases h0 : m = 0
        · subst h0
          have hnew : new = [] := List.eq_nil_of_length_eq_zero (by omega)
          subst hnew
          have hcs : cs = [] := List.eq_nil_of_length_eq_zero (by rw [hvl.length]; rfl)
          subst hcs
          have := hsrc.fits (ty := ty) hs (base := a') (len := 0) (c := 0) (by omega)
          refine ⟨_, _, X, .slice a' 0 0, hk, ?_, ?_, hkill.trans (Step.ghost hkill.hr), fun _ _ => rfl⟩
          · rw [this]
            cases a' <;> simp [storeCells]
          · simp [VR]
        · have hold : ∀ w' : World, w'.heap = X.w.heap → (Builtin.firstCells j.size 0 (.slice a' 0 0)).run P w' = .ok ([] : List Value).toArray w' := fun w' _ => by
            cases a' with
            | none => simp [Builtin.firstCells]
            | some ad => simp [Builtin.firstCells, loadCells, loadCellsFrom]
          have hrun := hsrc.grows (ty := ty) hs (base := a') (len := 0) (c := 0) (old := []) hold (by omega) (by simpa using hbd) (by omega)
          obtain ⟨Y, hYw, hv, hst, hφ'⟩ := grown_step (X := X) (H := H.set p .dead) hkill.hr (ocs := []) (old := []) (by simp [VL]) hvl (len := 0) (by simp) hnl j.zero.cells hz 0 e
          rw [← hYw] at hrun
          simp only [List.length_set] at hv hφ'
          exact ⟨_, _, Y, _, hk, hrun, hv, hkill.trans hst, hφ'⟩
      obtain ⟨all, hp, hle, hall⟩ := rdN_row hold
      have hol : old.length = len * j.size := by rw [hall]; simp; omega
      have hg := (rdN_get hr hφ hold).2
      have hoff : ∀ (q : Nat) (y : AV), old[q]? = some y → ∃ v, X.w.cell? ⟨bb.block, o + q, none⟩ = some v ∧ VR X y v := fun q y hy => by
        have hlt : q < len * j.size := by
          have := (List.getElem?_eq_some_iff.1 hy).1
          omega
        have : 0 < len := Nat.pos_of_ne_zero fun he => by rw [he, Nat.zero_mul] at hlt; omega
        rw [ho this]
        exact hg q y hy
      obtain ⟨ovs, ho1, ho2, ho3⟩ := list_of_gets (X := X) (a := ⟨bb.block, o, none⟩) rfl hoff
      by_cases hfit : len + m ≤ c
      · -- in place
        have hrun := hsrc.fits (ty := ty) hs (base := some ⟨bb.block, o, none⟩) (len := len) (c := c) hfit
        have hend : o + len * j.size + new.length ≤ cells.size := by
          have : (len + m) * j.size ≤ c * j.size := Nat.mul_le_mul_right _ hfit
          rw [Nat.add_mul] at this
          omega
        have hstore := run_storeCells_at (P := P) bb.block (o + len * j.size) e' new 0 cells X.w hh (by omega) h1c
        simp only [add_spot (⟨bb.block, o, none⟩ : Addr) (len * j.size) rfl] at hrun
        simp only [hstore, Result.andThen_ok] at hrun
        have hlp : live H p := ⟨_, hp, rfl⟩
        have hplt : p < H.length := live_lt hlp
        have hst := Step.write (w' := X.w.setRow bb.block (cells.toList.take (o + len * j.size + 0) ++ new ++ cells.toList.drop (o + len * j.size + 0 + new.length)).toArray) hr p bb hlp hφ H.length ⟨bb.block, o, none⟩ (.row (old ++ cs)) rfl rfl
          (H' := H.set p .dead ++ [.row (old ++ cs)]) (.inr ⟨by omega, φ_out hr (Nat.le_refl _), not_live_dead (by rw [List.getElem?_append_left (by simpa using hplt), List.getElem?_set_self hplt])⟩) (by simp) (by simp)
          (fun q hq1 hq2 => by
            rcases Nat.lt_or_ge q H.length with hq | hq
            · rw [List.getElem?_append_left (by simpa using hq), List.getElem?_set_ne (Ne.symm hq2)]
            · rw [List.getElem?_append_right (by simpa using hq), List.getElem?_eq_none (by simp; omega), List.getElem?_eq_none hq])
          (fun k hk' => setRow_other X.w bb.block k _ hk') (setRow_size X.w bb.block _)
          (fun cells' e'' fr hc => by
            rw [hh] at hc
            cases hc
            refine ⟨_, setRow_heap X.w bb.block cells _ e' (0, 0) hh, ?_⟩
            simp
            omega)
          rfl rfl rfl
          (fun Y hle' hY cs' he => by
            cases he
            refine ⟨_, e', by rw [hY]; exact setRow_heap X.w bb.block cells _ e' (0, 0) hh, fun k y hy => ?_⟩
            rw [List.getElem?_toArray, Nat.add_zero, splice_get _ _ _ _ (by simp; omega)]
            rcases Nat.lt_or_ge k old.length with hk' | hk'
            · rw [List.getElem?_append_left hk'] at hy
              simp only
              rw [if_neg (by omega)]
              obtain ⟨v, h3, h4⟩ := hoff k y hy
              refine ⟨v, ?_, VR.mono hle' _ _ h4⟩
              simp only [World.cell?, hh] at h3
              simpa using h3
            · rw [List.getElem?_append_right hk'] at hy
              obtain ⟨v, h3, h4⟩ := hvl.get _ _ hy
              have hlt := (List.getElem?_eq_some_iff.1 h3).1
              simp only
              rw [if_pos (by omega)]
              exact ⟨v, by rw [show o + k - (o + len * j.size) = k - old.length by omega]; exact h3, VR.mono hle' _ _ h4⟩)
          (fun Y _ _ es he => by cases he)
        refine ⟨_, _, _, _, hk, hrun, ?_, hst, fun i hi => by simp [Nat.ne_of_lt hi]⟩
        simp only [VR]
        refine .inr ⟨⟨bb.block, o, none⟩, o, c, _, e', by simp, rfl, hfit, fun _ => rfl, setRow_heap X.w bb.block cells _ e' (0, 0) hh, ?_⟩
        simp
        omega
      · -- into a new block
        have holdr : ∀ w' : World, w'.heap = X.w.heap → (Builtin.firstCells j.size len (.slice (some ⟨bb.block, o, none⟩) len c)).run P w' = .ok ovs.toArray w' := fun w' hw => by
          have := loadCells_heap (P := P) hw ho3
          rw [ho1, hol] at this
          simp [Builtin.firstCells, this]
        have hrun := hsrc.grows (ty := ty) hs (base := some ⟨bb.block, o, none⟩) (len := len) (c := c) holdr hfit hbd hmx
        have hkill := Step.kill hr p
        obtain ⟨Y, hYw, hv, hst, hφ'⟩ := grown_step (X := X) (H := H.set p .dead) hkill.hr ho2 hvl (len := len) (by omega) hnl j.zero.cells hz c e
        rw [← hYw] at hrun
        simp only [List.length_set] at hv hφ'
        exact ⟨_, _, Y, _, hk, hrun, hv, hkill.trans hst, hφ'⟩
  · exact h.elim
theorem app_run (hT : TOk P T) (hr : HR X H) {st xt ty : TypeId} {a b : AV} {s x : Value} {K : AV → Heap → Prop} (h : appA T H st xt a b K) (ha : VR X a s) (hb : VR X b x) :
    ∃ c H1 Y u, K c H1 ∧ (Builtin.append_ #[st, xt] ty #[s, x]).run P X.w = .ok u Y.w ∧ VR Y c u ∧ Step X H Y H1 ∧ ∀ i, i < H.length → Y.φ i = X.φ i := by
  unfold appA at h
  split at h
  · rename_i e eqk xi ht hxt
    have hs : P.underlying st = some (.slice e) := und_slice (hT st _ ht) rfl
    split at h
    · rename_i j hj
      have hje := hT e j hj
      cases hq : Nat.beq j.zero.cells.size j.size with
      | false => simp [hq] at h
      | true =>
        simp only [hq, cond_true] at h
        have hz := Nat.eq_of_beq_eq_true hq
        split at h
        · rename_i k hk
          split at h
          · rename_i k' n
            cases hzo : zeroOk j.zero with
            | false => simp [hzo] at h
            | true =>
              simp only [hzo, cond_true] at h
              obtain ⟨⟨h0, h1, h2⟩, h⟩ := h
              rw [VR_int] at hb
              subst hb
              refine appTo_run hr hs hje hz (srcOk_zeros hje (und_int (hT xt xi hxt) hk) hz h0 h1 h2) ?_ ?_ ?_ h ha
              · refine VL.of_get (by rw [zeros_length]; simp [Builtin.zeroCells]) fun q c u hc hu' => ?_
                obtain ⟨u', h3, h4⟩ := zeros_made (X := X) hc (Nat.le_refl _)
                rw [Array.getElem?_toList] at hu'
                have : (madeCells j.zero.cells (n.toNat * j.zero.cells.size)) = Builtin.zeroCells j.zero.cells n.toNat := rfl
                rw [← this, h3] at hu'
                exact Option.some.inj hu' ▸ h4
              · simp [Builtin.zeroCells, hz]
              · exact zeros_allC hzo _
          · exact h.elim
        · rename_i hxd
          obtain ⟨dx, hdx, hdx2⟩ := (hT xt xi hxt).und
          have hni : ∀ k, dx ≠ .int k := fun k he => hxd k (by rw [← hdx2, he]; rfl)
          obtain ⟨cs, hcs, hac, h⟩ := optK_elim h
          obtain ⟨new, hlen, hfirst, hvl, hnl⟩ := src_run (P := P) hr hcs hb
          exact appTo_run hr hs hje hz (srcOk_of hje hdx hni hlen hfirst) hvl hnl hac h ha
    · exact h.elim
  · exact h.elim
end
end Go.Proofs.YthbncljlclcecaaDoor.A

namespace Go.Proofs.YthbncljlclcecaaDoor.A
open Go
set_option linter.unusedVariables false
set_option linter.unusedSimpArgs false

structure AD where
  g : FuncId
  caps : List AV
  args : List AV
structure St where
  fr : Fr
  H : Heap
  ds : List AD
inductive AEnd where
  | ret (v : AV)
  | pan (u : Value)
inductive AX where
  | normal
  | exit (id : Nat)
  | ret
  | pan (u : Value)

/-- A call as the model makes it: it enters a body, or is answered at once. -/
def CallSem (P : Program) (g : FuncId) (args : Array Value) (w : World) (R : Ending → World → Prop) : Prop :=
  ((callFunc g args).run P w = .ok (.enter g args) w ∧ Calls P g args w R) ∨ ∃ v w1, (callFunc g args).run P w = .ok (.value v) w1 ∧ R (.returned v) w1
theorem CallSem.mono {P : Program} {g : FuncId} {args : Array Value} {w : World} {R R' : Ending → World → Prop} (h : CallSem P g args w R) (k : ∀ e w', R e w' → R' e w') : CallSem P g args w R' := by
  rcases h with ⟨h1, h2⟩ | ⟨v, w1, h1, h2⟩
  · exact .inl ⟨h1, h2.mono k⟩
  · exact .inr ⟨v, w1, h1, k _ _ h2⟩
def entry (u : Value) : PanicEntry := { v := u, recovered := false }
def EndR (X : Ctx) : AEnd → Ending → Prop
  | .ret a, .returned v => VR X a v
  | .pan u, .panicked ch => ch = [entry u] ∧ plain u = true
  | _, _ => False
/-- What a function does, told abstractly. -/
def ACalls (P : Program) (g : FuncId) (args : List AV) (H : Heap) (R : AEnd → Heap → Prop) : Prop :=
  ∀ (X : Ctx) (as : Array Value), HR X H → VL X args as.toList →
    CallSem P g as X.w fun e w' => ∃ E H' Y, R E H' ∧ Y.w = w' ∧ EndR Y E e ∧ HR Y H' ∧ Ext X H Y H' ∧ (∀ i, i < H.length → Y.φ i = X.φ i) ∧ H.length ≤ H'.length
theorem ACalls.mono {P : Program} {g : FuncId} {args : List AV} {H : Heap} {R R' : AEnd → Heap → Prop} (h : ACalls P g args H R) (k : ∀ E H', R E H' → R' E H') : ACalls P g args H R' :=
  fun X as hr hv => (h X as hr hv).mono fun e w' ⟨E, H', Y, h1, h2⟩ => ⟨E, H', Y, k _ _ h1, h2⟩

def St.put (s : St) (d : Option Nat) (v : AV) (H : Heap) : St := ⟨updO s.fr d v, H, s.ds⟩
def forceN (n : Nat) (K : Nat → Prop) : Prop :=
  match n with
  | 0 => K 0 | 1 => K 1 | 2 => K 2 | 3 => K 3 | 4 => K 4 | 5 => K 5 | 6 => K 6 | 7 => K 7
  | 8 => K 8 | 9 => K 9 | 10 => K 10 | 11 => K 11 | 12 => K 12 | 13 => K 13 | 14 => K 14 | 15 => K 15
  | n => K n
theorem forceN_elim {n : Nat} {K : Nat → Prop} (h : forceN n K) : K n := by
  unfold forceN at h
  split at h <;> exact h
/-- A value, told out; a bool is parted. -/
def force (a : AV) (K : AV → Prop) : Prop :=
  match a with
  | .sc v =>
    match v with
    | .bool b => @Bool.rec (fun _ => Prop) (K (.sc (.bool false))) (K (.sc (.bool true))) b
    | v => K (.sc v)
  | .ptr i off => forceN i fun i => K (.ptr i off)
  | .slc i off len sz => forceN i fun i => K (.slc i off len sz)
  | .mapr i => forceN i fun i => K (.mapr i)
  | .junk => K .junk
  | .nan k => K (.nan k)
  | .vp cells => K (.vp cells)
  | .view len cells => K (.view len cells)
  | .fn f caps => K (.fn f caps)
  | .agg cells => K (.agg cells)
  | .tup vs => K (.tup vs)
theorem force_elim {a : AV} {K : AV → Prop} (h : force a K) : K a := by
  unfold force at h
  split at h
  · split at h
    · rename_i b
      cases b <;> exact h
    · exact h
  · exact forceN_elim h
  · exact forceN_elim h
  · exact forceN_elim h
  all_goals exact h
def forceH : Heap → (Heap → Prop) → Prop
  | [], K => K []
  | o :: H, K => forceH H fun H => K (o :: H)
theorem forceH_elim : ∀ {H : Heap} {K : Heap → Prop}, forceH H K → K H
  | [], _, h => h
  | o :: H, K, h => forceH_elim (H := H) (K := fun H => K (o :: H)) h
def St.keep (s : St) (d : Option Nat) (v : AV) (H : Heap) (K : St → Prop) : Prop :=
  force v fun v => forceH H fun H =>
    match s, d with
    | ⟨fr, _, ds⟩, some t => K ⟨upd fr t v, H, ds⟩
    | ⟨fr, _, ds⟩, none => K ⟨fr, H, ds⟩
theorem keep_elim {s : St} {d : Option Nat} {v : AV} {H : Heap} {K : St → Prop} (h : s.keep d v H K) : K (s.put d v H) := by
  have := forceH_elim (force_elim h)
  obtain ⟨fr, H0, ds⟩ := s
  cases d <;> exact this
def panK (K : AV → Heap → Prop) (Kp : Value → Heap → Prop) : AEnd → Heap → Prop
  | .ret v, H => K v H
  | .pan u, H => Kp u H
/-- How long a slice is. -/
def lenS : AV → Option Nat
  | .sc (.slice none 0 0) => some 0
  | .view n _ => some n
  | .slc _ _ n _ => some n
  | _ => none
def isNilS : Operand → Bool
  | .const (.slice none 0 0) => true
  | _ => false
/-- Whether a slice is nil: of one that has nothing that is not known. -/
def NilK (n : Nat) (K : Bool → Prop) : Prop := K false ∧ (n = 0 → K true)
def nilA (T : Tab) (t : TypeId) (op : BinOp) (a : AV) (K : AV → Prop) : Prop :=
  match T t with
  | some { d := .slice _, .. } =>
    match lenS a, op with
    | some n, .eql => NilK n fun b => K (.sc (.bool b))
    | some n, .neq => NilK n fun b => K (.sc (.bool (!b)))
    | _, _ => False
  | _ => False
def clearA (T : Tab) (H : Heap) (t : TypeId) (a : AV) (K : AV → Heap → Prop) : Prop :=
  match T t with
  | some { d := .slice e, .. } =>
    match T e, a with
    | some j, .sc (.slice none 0 0) => K undefA H
    | some j, .slc p off n sz => bif Nat.beq j.size sz && Nat.beq j.zero.cells.size j.size && zeroOk j.zero then optK (wr H p off (zerosA j.zero n)) fun H' => K undefA H' else False
    | _, _ => False
  | some { d := .map _ _, .. } =>
    match a with
    | .mapr p =>
      match nth H p with
      | some (.mp ((.bool false, c) :: _)) => K undefA (H.set p (.mp [(.bool false, c)]))
      | _ => False
    | _ => False
  | _ => False
def capA (T : Tab) (H : Heap) (t : TypeId) (a : AV) (K : AV → Heap → Prop) : Prop :=
  match T t, a with
  | some { d := .slice e, .. }, .sc (.slice none 0 0) => K (.sc (.int .i64 0)) H
  | _, _ => False
/-- An entry with another value. -/
def setE (v : AV) (e : Value × AV) : Value × AV :=
  match e with
  | (k, .tup [st, _]) => (k, .tup [st, v])
  | e => e
def updM (k : IntKind) (n : Int) (v : AV) (c : Int) (es : List (Value × AV)) : Option (List (Value × AV)) :=
  match lookM k n es with
  | some (some (i, _)) => some ((.bool false, .sc (.int .i64 c)) :: es.modify i (setE v))
  | some none => some ((.bool false, .sc (.int .i64 (c + 1))) :: (es ++ [(.int k n, .tup [.sc (.int .i64 c), v])]))
  | none => none
def delM (k : IntKind) (n : Int) (es : List (Value × AV)) : Option (List (Value × AV)) :=
  match lookM k n es with
  | some (some (i, _)) => some (es.eraseIdx i)
  | some none => some es
  | none => none
def updateA (T : Tab) (H : Heap) (t : TypeId) (a ix v : AV) (K : AV → Heap → Prop) : Prop :=
  match T t, a, ix with
  | some { d := .map kt _, .. }, .mapr p, .sc (.int k n) =>
    match T kt, nth H p with
    | some { d := .int _, .. }, some (.mp ((.bool false, .sc (.int .i64 c)) :: es)) => optK (updM k n v c es) fun es' => K undefA (H.set p (.mp es'))
    | _, _ => False
  | _, _, _ => False
def deleteA (T : Tab) (H : Heap) (t : TypeId) (a ix : AV) (K : AV → Heap → Prop) : Prop :=
  match T t, a, ix with
  | some { d := .map kt _, .. }, .mapr p, .sc (.int k n) =>
    match T kt, nth H p with
    | some { d := .int _, .. }, some (.mp ((.bool false, c) :: es)) => optK (delM k n es) fun es' => K undefA (H.set p (.mp ((.bool false, c) :: es')))
    | _, _ => False
  | _, _, _ => False
def rangeA (T : Tab) (H : Heap) (t : TypeId) (a : AV) (K : AV → Heap → Prop) : Prop :=
  match T t, a with
  | some { d := .map _ _, .. }, .mapr p =>
    match nth H p with
    | some (.mp ((.bool false, .sc (.int .i64 c)) :: _)) => K (.ptr H.length 0) (H ++ [.mp [(.bool true, .tup [.mapr p, .sc (.int .i64 c), .sc (.int .i64 c)])]])
    | _ => False
  | _, _ => False
/-- A step of a walk through a map to which nothing was added since it began: e at its end, s at an entry that was not yet there. -/
def NextK (es seen : List (Value × AV)) (since last : Int) (e : Prop) (s : Value → Int → AV → Prop) : Prop :=
  (since ≤ last ∧ ∀ x ∈ es, ∃ n v, x.2 = .tup [.sc (.int .i64 n), v] ∧ n < since) ∧
  ((∀ k n v, (k, .tup [.sc (.int .i64 n), v]) ∈ es → ∃ a, (.int .i64 n, a) ∈ seen) → e) ∧
  ∀ k n v, (k, .tup [.sc (.int .i64 n), v]) ∈ es → (∀ a, (.int .i64 n, a) ∉ seen) → s k n v
def nextA (H : Heap) (a : AV) (K : AV → Heap → Prop) : Prop :=
  match a with
  | .ptr q 0 =>
    match nth H q with
    | some (.mp ((.bool true, .tup [.mapr p, .sc (.int .i64 since), .sc (.int .i64 last)]) :: seen)) =>
      match nth H p with
      | some (.mp ((.bool false, .sc (.int .i64 c)) :: es)) => NextK es seen since last (K (.tup [.sc (.bool false)]) H)
          fun k n v => K (.tup [.sc (.bool true), .sc k, v]) (H.set q (.mp ((.bool true, .tup [.mapr p, .sc (.int .i64 since), .sc (.int .i64 c)]) :: (seen ++ [(.int .i64 n, undefA)]))))
      | _ => False
    | _ => False
  | _ => False
def findS (n : Int) : List (Value × AV) → Option AV
  | [] => none
  | (k, .tup [.sc (.int .i64 m), v]) :: es => bif decide (m = n) then some (.tup [.sc k, v]) else findS n es
  | _ :: _ => none
def entM (seen es : List (Value × AV)) : Option AV :=
  match seen.getLast? with
  | some (.int .i64 n, _) => findS n es
  | _ => none
def entryA (H : Heap) (a : AV) (K : AV → Heap → Prop) : Prop :=
  match a with
  | .ptr q 0 =>
    match nth H q with
    | some (.mp ((.bool true, .tup [.mapr p, .sc (.int .i64 _), .sc (.int .i64 last)]) :: seen)) =>
      match nth H p with
      | some (.mp ((.bool false, .sc (.int .i64 c)) :: es)) => Ob (c = last) (optK (entM seen es) fun v => K v H)
      | _ => False
    | _ => False
  | _ => False
def callA (P : Program) (T : Tab) (o : Oper) (c : Call) (s : St) (K : AV → Heap → Prop) (Kp : Value → Heap → Prop) : Prop :=
  match c.callee with
  | .builtin .append =>
    match c.argTypes.toList, c.args.toList with
    | [st, xt], [a, b] => appA T s.H st xt (ev s.fr a) (ev s.fr b) K
    | _, _ => False
  | .builtin .clear =>
    match c.argTypes.toList, c.args.toList with
    | [t], [a] => clearA T s.H t (ev s.fr a) K
    | _, _ => False
  | .builtin .delete =>
    match c.argTypes.toList, c.args.toList with
    | [t, _], [a, k] => deleteA T s.H t (ev s.fr a) (ev s.fr k) K
    | _, _ => False
  | .builtin .cap =>
    match c.argTypes.toList, c.args.toList with
    | [t], [a] => capA T s.H t (ev s.fr a) K
    | _, _ => False
  | .value f =>
    match ev s.fr f with
    | .fn (.func g) caps => ACalls P g (c.args.toList.map (ev s.fr) ++ caps) s.H (panK K Kp)
    | _ => False
  | _ => aopQ T o s.fr s.H s.H.length (fun ob => s.H ++ [ob]) K
def aop (P : Program) (T : Tab) (o : Oper) (s : St) (K : St → Prop) (Kp : Value → St → Prop) : Prop :=
  match o.op with
  | .store t a x => storeA T s.H t (ev s.fr a) (ev s.fr x) fun v H' => s.keep o.dst v H' K
  | .mapUpdate t m k x => updateA T s.H t (ev s.fr m) (ev s.fr k) (ev s.fr x) fun v H' => s.keep o.dst v H' K
  | .range t x => rangeA T s.H t (ev s.fr x) fun v H' => s.keep o.dst v H' K
  | .next it isString => bif isString then False else nextA s.H (ev s.fr it) fun v H' => s.keep o.dst v H' K
  | .entry it => entryA s.H (ev s.fr it) fun v H' => s.keep o.dst v H' K
  | .call c => callA P T o c s (fun v H' => s.keep o.dst v H' K) fun u H' => Kp u ⟨s.fr, H', s.ds⟩
  | .defer c =>
    match c.callee with
    | .value f =>
      match ev s.fr f with
      | .fn (.func g) caps => K ⟨updO s.fr o.dst undefA, s.H, ⟨g, caps, c.args.toList.map (ev s.fr)⟩ :: s.ds⟩
      | _ => False
    | _ => False
  | .panic x =>
    match ev s.fr x with
    | .sc (.iface t v) => Kp (.iface t v) s
    | _ => False
  | .binOp op t x y _ =>
    match isNilS y with
    | true => nilA T t op (ev s.fr x) fun v => s.keep o.dst v s.H K
    | false => aopQ T o s.fr s.H s.H.length (fun ob => s.H ++ [ob]) fun v H' => s.keep o.dst v H' K
  | _ => aopQ T o s.fr s.H s.H.length (fun ob => s.H ++ [ob]) fun v H' => s.keep o.dst v H' K
/-- What the guard's operation yielded. -/
def guardV (all : List Oper) (f : Fr) (j : Nat) : Option AV :=
  match nth all j with
  | some o => o.dst.map f
  | none => none
def aopG (P : Program) (T : Tab) (all : List Oper) (o : Oper) (s : St) (K : St → Prop) (Kp : Value → St → Prop) : Prop :=
  match o.guard with
  | none => aop P T o s K Kp
  | some (j, want) =>
    match guardV all s.fr j with
    | some (.sc (.bool b)) =>
      match want with
      | true => @Bool.rec (fun _ => Prop) (s.keep o.dst undefA s.H K) (aop P T o s K Kp) b
      | false => @Bool.rec (fun _ => Prop) (aop P T o s K Kp) (s.keep o.dst undefA s.H K) b
    | some (.tup _) => s.keep o.dst undefA s.H K
    | _ => False
def awpOps (P : Program) (T : Tab) (all : List Oper) (K : St → Prop) (Kp : Value → St → Prop) : List Oper → St → Prop
  | [], s => K s
  | o :: rest, s => aopG P T all o s (awpOps P T all K Kp rest) Kp

/-! ### Soundness of one operation -/
section
variable {P : Program} {T : Tab}

def DR (X : Ctx) (d : AD) (d' : Deferred) : Prop := ∃ caps' : Array Value, d'.target = .fn (.func d.g) caps' ∧ VL X d.caps caps'.toList ∧ VL X d.args d'.args.toList
def DL (X : Ctx) : List AD → List Deferred → Prop
  | [], [] => True
  | d :: ds, e :: es => DR X d e ∧ DL X ds es
  | _, _ => False
theorem DL.mono {X Y : Ctx} (h : Le X Y) : ∀ {ds : List AD} {es : List Deferred}, DL X ds es → DL Y ds es
  | [], [], _ => trivial
  | [], _ :: _, hv => hv.elim
  | _ :: _, [], hv => hv.elim
  | d :: ds, e :: es, hv => by
    obtain ⟨⟨c, h1, h2, h3⟩, h4⟩ := hv
    exact ⟨⟨c, h1, VL.mono h _ _ h2, VL.mono h _ _ h3⟩, DL.mono h h4⟩
/-- A state stands for a frame in a world. -/
structure StR (n : Nat) (X : Ctx) (s : St) (a : Act) : Prop where
  size : a.tmps.size = n
  fr : ∀ t, VR X (s.fr t) (a.tmps.getD t undef)
  ds : DL X s.ds a.defers
  hr : HR X s.H
def okD (n : Nat) : Option Nat → Bool
  | some t => Nat.blt t n
  | none => true
theorem StR.ev {n : Nat} {X : Ctx} {s : St} {a : Act} (h : StR n X s a) : FrR X s.fr a.eval := by
  intro x
  cases x with
  | tmp t => exact h.fr t
  | const v => exact VR_ofV
  | global g => simp [A.ev, VR]
  | func g => simp only [A.ev, Act.eval, VR]; exact ⟨_, rfl, by simp [VL]⟩
theorem StR.put {n : Nat} {X Y : Ctx} {s : St} {a : Act} (h : StR n X s a) {H' : Heap} (hr : HR Y H') (hle : Le X Y) {d : Option Nat} (hd : okD n d = true) {v : AV} {u : Value} (hv : VR Y v u) : StR n Y (s.put d v H') (a.put d u) := by
  refine ⟨?_, ?_, ?_, hr⟩
  · cases d <;> simp [Act.put, h.size]
  · intro t
    cases d with
    | none => exact VR.mono hle _ _ (h.fr t)
    | some d =>
      have hd' : d < n := by simpa [okD] using hd
      simp only [St.put, updO, upd, Act.put]
      cases hb : Nat.beq t d with
      | true =>
        have := Nat.eq_of_beq_eq_true hb
        subst this
        simp only [cond_true]
        rw [Array.getD_eq_getD_getElem?, Array.getElem?_setIfInBounds_self_of_lt (by rw [h.size]; exact hd')]
        exact hv
      | false =>
        have hne : d ≠ t := fun he => by subst he; simp at hb
        simp only [cond_false]
        rw [Array.getD_eq_getD_getElem?, Array.getElem?_setIfInBounds_ne hne, ← Array.getD_eq_getD_getElem?]
        exact VR.mono hle _ _ (h.fr t)
  · have : (a.put d u).defers = a.defers := by cases d <;> rfl
    rw [this]
    exact h.ds.mono hle

theorem upon_of_run {o : Oper} {a : Act} {w w1 : World} {next : Act → World → Prop} {Q : Exit → Act → World → Prop} {nx : Next} {v : Value} (hrun : (execOp a.eval o).run P w = .ok nx w1)
    (hnx : nx = .value v ∨ (nx = .skip ∧ v = undef)) (h : next (a.put o.dst v) w1) : o.wp P a w next Q := by
  unfold Oper.wp
  rw [hrun]
  rcases hnx with rfl | ⟨rfl, rfl⟩ <;> exact h

/-- What is known at a point of a run that began in X0 with H0. -/
structure At (n : Nat) (X0 : Ctx) (H0 : Heap) (X : Ctx) (s : St) (a : Act) : Prop where
  st : StR n X s a
  ext : Ext X0 H0 X s.H
  φ : ∀ i, i < H0.length → X.φ i = X0.φ i
  len : H0.length ≤ s.H.length
theorem At.step {n : Nat} {X0 : Ctx} {H0 : Heap} {X Y : Ctx} {s : St} {a : Act} (h : At n X0 H0 X s a) {H' : Heap} (k : Step X s.H Y H') (hφ : ∀ i, i < s.H.length → Y.φ i = X.φ i) {d : Option Nat} (hd : okD n d = true) {v : AV} {u : Value} (hv : VR Y v u) :
    At n X0 H0 Y (s.put d v H') (a.put d u) :=
  ⟨h.st.put k.hr k.le hd hv, h.ext.trans k.ext, fun i hi => (hφ i (Nat.lt_of_lt_of_le hi h.len)).trans (h.φ i hi), Nat.le_trans h.len k.len⟩

theorem q_wp (hT : TOk P T) {n : Nat} {X0 : Ctx} {H0 : Heap} {X : Ctx} {s : St} {a : Act} (h : At n X0 H0 X s a) {o : Oper} (hd : okD n o.dst = true) {K : St → Prop} {next : Act → World → Prop} {Q : Exit → Act → World → Prop}
    (hq : aopQ T o s.fr s.H s.H.length (fun ob => s.H ++ [ob]) fun v H' => s.keep o.dst v H' K) (hK : ∀ Y s' a', K s' → At n X0 H0 Y s' a' → next a' Y.w) : o.wp P a X.w next Q := by
  obtain ⟨v, H1, Y, u, nx, hk, hrun, hnx, hv, hst, hφ⟩ := aopQ_run hT h.st.hr h.st.ev (NewAt.push h.st.hr) hq
  exact upon_of_run hrun hnx (hK Y _ _ (keep_elim hk) (h.step hst (fun i hi => hφ i (Nat.ne_of_lt hi)) hd hv))
end
end Go.Proofs.YthbncljlclcecaaDoor.A

namespace Go.Proofs.YthbncljlclcecaaDoor.A
open Go
set_option linter.unusedVariables false
set_option linter.unusedSimpArgs false

section
variable {P : Program} {T : Tab} {n : Nat} {X0 : Ctx} {H0 : Heap}

theorem invoke_run {g : FuncId} {f : Operand} {c : Call} {type : TypeId} {ρ : Operand → Value} {caps : Array Value} {w : World} (hc : c.callee = .value f) (hf : ρ f = .func (.func g) #[] caps) {o : Oper} (ho : o.op = .call c) :
    (execOp ρ o).run P w = (callFunc g (c.args.map ρ ++ caps)).run P w := by
  unfold execOp
  simp only [ho, resolve, hc, hf, Deferred.ofValue, Sem.run_bind, Sem.run_pure, Result.andThen_ok, invoke]
  simp

theorem step_of_calls {X Y : Ctx} {H H' : Heap} (hr : HR X H) (h1 : HR Y H') (h2 : Ext X H Y H') (h3 : ∀ i, i < H.length → Y.φ i = X.φ i) (h4 : H.length ≤ H'.length) : Step X H Y H' :=
  ⟨h1, h2.le hr fun i b hb => by rw [h3 i (hr.lt i b hb).1]; exact hb, h2, h4⟩

theorem call_wp {X : Ctx} {s : St} {a : Act} (h : At n X0 H0 X s a) {o : Oper} (hd : okD n o.dst = true) {c : Call} (ho : o.op = .call c) {f : Operand} (hc : c.callee = .value f) {g : FuncId} {caps : List AV} (hf : ev s.fr f = .fn (.func g) caps)
    {K : AV → Heap → Prop} {Kp : Value → Heap → Prop} (hq : ACalls P g (c.args.toList.map (ev s.fr) ++ caps) s.H (panK K Kp)) {next : Act → World → Prop} {Q : Exit → Act → World → Prop}
    (hK : ∀ Y v H' u, K v H' → At n X0 H0 Y (s.put o.dst v H') (a.put o.dst u) → next (a.put o.dst u) Y.w) (hP : ∀ Y u H', Kp u H' → At n X0 H0 Y ⟨s.fr, H', s.ds⟩ a → plain u = true → Q (.panic [entry u]) a Y.w) : o.wp P a X.w next Q := by
  have hv := h.st.ev f
  rw [hf] at hv
  simp only [VR] at hv
  obtain ⟨caps', hv, hcl⟩ := hv
  have hargs : VL X (c.args.toList.map (ev s.fr) ++ caps) (c.args.map a.eval ++ caps').toList := by
    rw [Array.toList_append, Array.toList_map]
    exact (VL_map h.st.ev _).append hcl
  have hrun := invoke_run (P := P) (type := o.type) (w := X.w) hc hv ho
  have key : ∀ e w', (∃ E H' Y, panK K Kp E H' ∧ Y.w = w' ∧ EndR Y E e ∧ HR Y H' ∧ Ext X s.H Y H' ∧ (∀ i, i < s.H.length → Y.φ i = X.φ i) ∧ s.H.length ≤ H'.length) →
      (match e with | .returned v => next (a.put o.dst v) w' | .panicked ch => Q (.panic ch) a w' | .outgrown => LetsOut Q) := by
    rintro e w' ⟨E, H', Y, hR, rfl, he, h1, h2, h3, h4⟩
    have hst := step_of_calls h.st.hr h1 h2 h3 h4
    cases E with
    | ret v =>
      cases e with
      | returned u => exact hK Y v H' u hR (h.step hst h3 hd he)
      | panicked _ => exact he.elim
      | outgrown => exact he.elim
    | pan u =>
      cases e with
      | returned _ => exact he.elim
      | panicked ch =>
        obtain ⟨rfl, hp⟩ := he
        have := h.step (d := none) (v := undefA) (u := undef) hst h3 rfl VR_undef
        exact hP Y u H' hR this hp
      | outgrown => exact he.elim
  unfold Oper.wp
  rw [hrun]
  rcases hq X _ h.st.hr hargs with ⟨h1, h2⟩ | ⟨v, w1, h1, h2⟩
  · rw [h1]
    exact h2.mono fun e w' he => by
      have := key e w' he
      cases e <;> exact this
  · rw [h1]
    exact key (.returned v) w1 h2

theorem isNilS_eq {y : Operand} (h : isNilS y = true) : y = .const (.slice none 0 0) := by
  unfold isNilS at h
  split at h
  · rfl
  · cases h
theorem lenS_VR {X : Ctx} {a : AV} {n : Nat} {v : Value} (h : lenS a = some n) (hv : VR X a v) : ∃ b c, v = .slice b n c ∧ (b = none → n = 0) := by
  unfold lenS at h
  split at h <;> simp only [Option.some.injEq, reduceCtorEq] at h
  · subst h
    simp only [VR, ScR] at hv
    rcases hv with ⟨_, rfl | ⟨_, a, rfl⟩⟩
    · exact ⟨_, _, rfl, fun _ => rfl⟩
    · exact ⟨_, _, rfl, fun _ => rfl⟩
  · subst h
    simp only [VR] at hv
    obtain ⟨a, c, rfl, _, h1, _⟩ := hv
    exact ⟨_, _, rfl, fun he => h1.elim id fun ⟨_, h2, _⟩ => by rw [he] at h2; cases h2⟩
  · subst h
    simp only [VR] at hv
    rcases hv with ⟨rfl, a, rfl⟩ | ⟨b, o, c, _, _, _, rfl, _⟩
    · exact ⟨_, _, rfl, fun _ => rfl⟩
    · exact ⟨_, _, rfl, fun he => by cases he⟩
theorem eq_slice_nil {t e : TypeId} (hu : P.underlying t = some (.slice e)) (b : Option Addr) (n c d : Nat) (w : World) : (Op.equalIn (d + 1) t (.slice b n c) (.slice none 0 0)).run P w = .ok b.isNone w := by
  cases b <;> simp [Op.equalIn, run_underlying hu]
theorem nilA_run (hT : TOk P T) {X : Ctx} {op : BinOp} {t : TypeId} {ox oy : Operand} {a : AV} {x : Value} {K : AV → Prop} (w : World) (h : nilA T t op a K) (ha : VR X a x) : ∃ c v, K c ∧ (binRun op t ox oy x (.slice none 0 0)).run P w = .ok v w ∧ ∀ Y, VR Y c v := by
  unfold nilA at h
  split at h
  · rename_i _ _ _ e _ ht
    have hs : P.underlying t = some (.slice e) := und_slice (hT t _ ht) rfl
    split at h
    · rename_i n hl
      obtain ⟨b, c, rfl, h1⟩ := lenS_VR hl ha
      have he : (Op.equalIn Op.maxDepth t (.slice b n c) (.slice none 0 0)).run P w = .ok b.isNone w := eq_slice_nil hs b n c 9999 w
      obtain ⟨hk, hk2⟩ := h
      refine ⟨.sc (.bool b.isNone), .bool b.isNone, ?_, ?_, fun Y => VR_bool.2 rfl⟩
      · cases b with
        | none => exact hk2 (h1 rfl)
        | some _ => exact hk
      · simp only [binRun, eqGuard, Sem.run_bind, binOp, Op.equal]
        simp only [Bool.not_true, Bool.false_eq_true, if_false, Sem.run_pure, Result.andThen_ok, he]
    · rename_i n hl
      obtain ⟨b, c, rfl, h1⟩ := lenS_VR hl ha
      have he : (Op.equalIn Op.maxDepth t (.slice b n c) (.slice none 0 0)).run P w = .ok b.isNone w := eq_slice_nil hs b n c 9999 w
      obtain ⟨hk, hk2⟩ := h
      refine ⟨.sc (.bool (!b.isNone)), .bool (!b.isNone), ?_, ?_, fun Y => VR_bool.2 rfl⟩
      · cases b with
        | none => exact hk2 (h1 rfl)
        | some _ => exact hk
      · simp only [binRun, eqGuard, Sem.run_bind, binOp, Op.equal]
        simp only [Bool.not_true, Bool.false_eq_true, if_false, Sem.run_pure, Result.andThen_ok, he]
    · exact h.elim
  · exact h.elim
theorem getObj_run {r : Nat} {o : Go.Obj} {w : World} (h : w.heap[r]? = some o) (hn : ∀ c e f, o ≠ Go.Obj.cells c e f) : (getObj r).run P w = .ok o w := by
  simp only [getObj, Sem.run, h]
theorem setObj_run {r : Nat} {o0 o : Go.Obj} {w : World} (h : w.heap[r]? = some o0) (hn : ∀ c e f, o0 ≠ Go.Obj.cells c e f) : (setObj r o).run P w = .ok () { w with heap := w.heap.setIfInBounds r o } := by
  simp only [setObj, Sem.run, h]
/-- A map, or an iterator, is written. -/
theorem mp_step {X : Ctx} {H : Heap} (hr : HR X H) {p : Nat} {b : Addr} {es0 es' : List (Value × AV)} (hp : H[p]? = some (.mp es0)) (hb : X.φ p = some b) {ob0 : Go.Obj} (hw0 : X.w.heap[b.block]? = some ob0) (hn0 : ∀ c e f, ob0 ≠ Go.Obj.cells c e f) (ob : Go.Obj) (fs : List MapEntry) (hob : obE ob = some fs) (hE : EntR X es' fs) (dr : Nat) :
    Step X H ⟨X.φ, X.F, { X.w with heap := X.w.heap.setIfInBounds b.block ob, drawn := dr }⟩ (H.set p (.mp es')) := by
  obtain ⟨h0, _⟩ := hr.mp p es0 b hp hb
  have hφ : (fun j => if j = p then some b else X.φ j) = X.φ := by
    funext j
    split
    · rename_i hj
      rw [hj, hb]
    · rfl
  have hlt : b.block < X.w.heap.size := (hr.lt p b hb).2.2
  have hst := Step.write (w' := { X.w with heap := X.w.heap.setIfInBounds b.block ob, drawn := dr }) hr p b ⟨_, hp, rfl⟩ hb p b (.mp es') rfl (hr.lt p b hb).2.1 (H' := H.set p (.mp es')) (.inl ⟨rfl, rfl⟩) (by rw [List.length_set]; exact Nat.le_refl _)
    (by rw [List.getElem?_set_self (by exact (List.getElem?_eq_some_iff.1 hp).1)]) (fun j hj _ => by rw [List.getElem?_set_ne (Ne.symm hj)])
    (fun k hk => Array.getElem?_setIfInBounds_ne (Ne.symm hk)) (Array.size_setIfInBounds ..)
    (fun cells' e' fr hc => by
      rw [hw0] at hc
      cases hc
      exact absurd rfl (hn0 _ _ _))
    rfl rfl rfl (fun Y _ _ cs' he => by cases he)
    (fun Y hle hY es he => by
      cases he
      refine ⟨h0, ob, fs, ?_, hob, EntR.mono hle hE⟩
      rw [hY]
      exact Array.getElem?_setIfInBounds_self_of_lt hlt)
  rw [hφ] at hst
  exact hst
theorem ent_append {X : Ctx} : ∀ (es : List (Value × AV)) (fs : List MapEntry) {es2 : List (Value × AV)} {fs2 : List MapEntry}, EntR X es fs → EntR X es2 fs2 → EntR X (es ++ es2) (fs ++ fs2)
  | [], [], _, _, _, h => h
  | [], _ :: _, _, _, h, _ => by simp [EntR] at h
  | _ :: _, [], _, _, h, _ => by simp [EntR] at h
  | (k, v) :: es, f :: fs, _, _, h, h2 => by
    simp only [EntR, List.cons_append] at h ⊢
    exact ⟨h.1, h.2.1, h.2.2.1, ent_append es fs h.2.2.2 h2⟩
theorem ent_erase {X : Ctx} : ∀ (es : List (Value × AV)) (fs : List MapEntry) (i : Nat), EntR X es (fs.map tupE) → EntR X (es.eraseIdx i) ((fs.eraseIdx i).map tupE)
  | [], [], i, h => by simp [EntR]
  | [], _ :: _, _, h => by simp [EntR] at h
  | _ :: _, [], _, h => by simp [EntR] at h
  | (k, v) :: es, f :: fs, 0, h => by
    simp only [EntR, List.map_cons, List.eraseIdx_cons_zero] at h ⊢
    exact h.2.2.2
  | (k, v) :: es, f :: fs, i + 1, h => by
    simp only [EntR, List.map_cons, List.eraseIdx_cons_succ] at h ⊢
    exact ⟨h.1, h.2.1, h.2.2.1, ent_erase es fs i h.2.2.2⟩
theorem ent_modify {X : Ctx} {k : IntKind} {n : Int} {x : AV} {u : Value} : ∀ (es : List (Value × AV)) (fs : List MapEntry) (i : Nat), EntR X es (fs.map tupE) → (fs[i]?).map (·.key) = some (.int k n) → VR X x u →
    EntR X (es.modify i (setE x)) ((fs.modify i fun e => { e with key := .int k n, val := u }).map tupE)
  | [], [], i, h, hk, _ => by simp at hk
  | [], _ :: _, _, h, _, _ => by simp [EntR] at h
  | _ :: _, [], _, h, _, _ => by simp [EntR] at h
  | (kk, v) :: es, f :: fs, 0, h, hk, hx => by
    simp only [List.map_cons, EntR] at h
    simp only [List.getElem?_cons_zero, Option.map_some, Option.some.injEq] at hk
    obtain ⟨h1, h2, h3, h4⟩ := h
    have hkey : Value.int k n = kk := by rw [← h1]; exact hk.symm
    cases v with
    | tup l =>
      simp only [VR, tupE] at h3
      obtain ⟨ws, h5, h6⟩ := h3
      cases h5
      cases l with
      | nil => simp [VL] at h6
      | cons a l =>
        cases l with
        | nil => simp [VL] at h6
        | cons a' l =>
          cases l with
          | nil =>
            simp only [List.modify_zero_cons, List.map_cons, setE, EntR, tupE]
            refine ⟨hkey, h2, ?_, h4⟩
            simp only [VR]
            exact ⟨_, rfl, h6.1, hx, True.intro⟩
          | cons _ _ => simp [VL] at h6
    | junk =>
      simp only [List.modify_zero_cons, List.map_cons, setE, EntR, tupE]
      exact ⟨hkey, h2, by simp [VR], h4⟩
    | sc s =>
      simp only [VR, ScR, tupE] at h3
      obtain ⟨h5, h6 | ⟨_, _, h6⟩⟩ := h3
      · subst h6
        simp [plain, plainS] at h5
      · cases h6
    | _ => simp [VR, tupE] at h3
  | (kk, v) :: es, f :: fs, i + 1, h, hk, hx => by
    simp only [List.map_cons, EntR] at h
    simp only [List.getElem?_cons_succ] at hk
    simp only [List.modify_succ_cons, List.map_cons, EntR]
    exact ⟨h.1, h.2.1, h.2.2.1, ent_modify es fs i h.2.2.2 hk hx⟩
theorem clear_run (hT : TOk P T) {X : Ctx} {H : Heap} (hr : HR X H) {t ty : TypeId} {a : AV} {v : Value} {K : AV → Heap → Prop} (h : clearA T H t a K) (ha : VR X a v) :
    ∃ H' w', K undefA H' ∧ (Builtin.clear_ #[t] ty #[v]).run P X.w = .ok (.tuple #[]) w' ∧ Step X H ⟨X.φ, X.F, w'⟩ H' := by
  unfold clearA at h
  split at h
  · rename_i _ _ _ e _ ht
    have hs : P.underlying t = some (.slice e) := und_slice (hT t _ ht) rfl
    split at h
    · simp only [VR, ScR] at ha
      refine ⟨H, X.w, h, ?_, Step.refl hr⟩
      rcases ha with ⟨_, rfl | ⟨_, a, rfl⟩⟩
      · simp [Builtin.clear_, run_underlying hs]
      · cases a <;> simp [Builtin.clear_, run_underlying hs]
    · rename_i j p off n sz hj
      cases hq : (Nat.beq j.size sz && Nat.beq j.zero.cells.size j.size && zeroOk j.zero) with
      | false => simp [hq] at h
      | true =>
        simp only [hq, cond_true] at h
        rw [Bool.and_eq_true, Bool.and_eq_true] at hq
        obtain ⟨⟨q1, q2⟩, q3⟩ := hq
        have e1 := Nat.eq_of_beq_eq_true q1
        have e2 := Nat.eq_of_beq_eq_true q2
        obtain ⟨H', hw, hk⟩ := optK_elim h
        have hvl : VL X (zerosA j.zero n) (Builtin.zeroCells j.zero.cells n).toList := by
          refine VL.of_get (by rw [zeros_length]; simp [Builtin.zeroCells]) fun q c u hc hu' => ?_
          obtain ⟨u', h3, h4⟩ := zeros_made (X := X) hc (Nat.le_refl _)
          rw [Array.getElem?_toList] at hu'
          have : (madeCells j.zero.cells (n * j.zero.cells.size)) = Builtin.zeroCells j.zero.cells n := rfl
          rw [← this, h3] at hu'
          exact Option.some.inj hu' ▸ h4
        by_cases hn : n = 0
        · subst hn
          obtain ⟨cs, hp, _, rfl⟩ := wr_row hw
          have hsame : H.set p (.row (setAll cs off (zerosA j.zero 0))) = H := by
            rw [show zerosA j.zero 0 = [] from rfl, setAll]
            exact set_same hp
          rw [hsame] at hk
          refine ⟨H, X.w, hk, ?_, Step.refl hr⟩
          obtain ⟨b, c, rfl, _⟩ := lenS_VR (a := .slc p off 0 sz) rfl ha
          cases b <;> simp [Builtin.clear_, run_underlying hs]
        · simp only [VR] at ha
          rcases ha with ⟨h0, _⟩ | ⟨b, o, c, cells, e', hb, rfl, _, ho, _⟩
          · exact absurd h0 hn
          · rw [ho (by omega)]
            obtain ⟨w', h3, h4⟩ := wr_step (P := P) hr hw hb hvl (allC_oneCells (zeros_allC q3 n) hvl)
            refine ⟨H', w', hk, ?_, h4⟩
            obtain ⟨m, rfl⟩ : ∃ m, n = m + 1 := ⟨n - 1, by omega⟩
            simp only [Builtin.clear_, List.getElem?_toArray, List.getElem?_cons_zero, Sem.run_bind, run_underlying hs, Result.andThen_ok, zero_run (hT e j hj), h3, Sem.run_pure]
    · exact h.elim
  · have hs : P.underlying t = some (.map _ _) := und_map (hT t _ (by assumption)) rfl
    split at h
    · rename_i p
      split at h
      · rename_i c es hp
        rw [nth_eq] at hp
        simp only [VR] at ha
        obtain ⟨b, hb, rfl⟩ := ha
        obtain ⟨es', clock, h4, h6, h5⟩ := (hr.mp p _ b hp hb).inv
        refine ⟨_, _, h, ?_, mp_step (es' := [(.bool false, c)]) hr hp hb h4 (by simp) (Go.Obj.map #[] clock) _ rfl ⟨rfl, rfl, h6, True.intro⟩ X.w.drawn⟩
        simp [Builtin.clear_, run_underlying hs, getObj_run h4 (by simp), setObj_run h4 (by simp)]
      · exact h.elim
    · exact h.elim
  · exact h.elim
theorem update_run (hT : TOk P T) {X : Ctx} {H : Heap} (hr : HR X H) {t : TypeId} {a ix x : AV} {v i u : Value} {K : AV → Heap → Prop} (h : updateA T H t a ix x K) (ha : VR X a v) (hi : VR X ix i) (hx : VR X x u) :
    ∃ H' w', K undefA H' ∧ (Instr.mapUpdate t v i u).run P X.w = .ok () w' ∧ Step X H ⟨X.φ, X.F, w'⟩ H' := by
  unfold updateA at h
  split at h
  · rename_i _ _ _ kt vt _ p k n ht
    have hu : P.underlying t = some (.map kt vt) := und_map (hT t _ ht) rfl
    split at h
    · rename_i c es hk hp
      obtain ⟨kk, hku⟩ : ∃ kk, P.underlying kt = some (.int kk) := ⟨_, und_int (hT kt _ hk) rfl⟩
      rw [nth_eq] at hp
      simp only [VR] at ha
      obtain ⟨b, hb, rfl⟩ := ha
      rw [VR_int] at hi
      subst hi
      obtain ⟨es', clock, h4, h6, h5⟩ := (hr.mp p _ b hp hb).inv
      rw [VR_int] at h6
      obtain ⟨es2, hc, hkc⟩ := optK_elim h
      have hcl : c = (clock : Int) := by injection h6 with _ h6; exact h6.symm
      subst hcl
      unfold updM at hc
      cases hl : lookM k n es with
      | none => rw [hl] at hc; cases hc
      | some r =>
        have hf := look_run (kk := kk) es es'.toList r 0 h5 hl
        rw [hl] at hc
        have hg := getObj_run (P := P) h4 (by simp)
        have hs := fun o => setObj_run (P := P) (o := o) h4 (by simp)
        have hck := ck_run (P := P) (k := k) (n := n) hku false 9999 X.w
        cases r with
        | some q =>
          obtain ⟨q1, q2⟩ := q
          obtain ⟨w, h7, h8, h9, h10⟩ := hf
          rw [Nat.zero_add] at h7
          cases hc
          have h10' : (es'[q1]?).map (·.key) = some (.int k n) := by rw [← Array.getElem?_toList]; exact h10
          refine ⟨_, _, hkc, ?_, mp_step (es' := (.bool false, .sc (.int .i64 (clock : Int))) :: es.modify q1 (setE x)) hr hp hb h4 (by simp) (Go.Obj.map (es'.modify q1 fun e => { e with key := .int k n, val := u }) clock) _ rfl ⟨rfl, rfl, VR_int.2 rfl, ?_⟩ X.w.drawn⟩
          · simp [Instr.mapUpdate, run_underlying hu, hg, hck, Instr.findKey, run_underlying hku, h7, h10', Instr.keyThatStays, Instr.sameBits, hs]
          · rw [Array.toList_modify]
            exact ent_modify es es'.toList q1 h5 h10 hx
        | none =>
          cases hc
          refine ⟨_, _, hkc, ?_, mp_step (es' := (.bool false, .sc (.int .i64 ((clock : Int) + 1))) :: (es ++ [(.int k n, .tup [.sc (.int .i64 (clock : Int)), x])])) hr hp hb h4 (by simp) (Go.Obj.map (es'.push { key := .int k n, val := u, born := clock }) (clock + 1)) _ rfl ⟨rfl, rfl, VR_int.2 (by simp), ?_⟩ X.w.drawn⟩
          · simp [Instr.mapUpdate, run_underlying hu, hg, hck, Instr.findKey, run_underlying hku, hf, hs]
          · rw [Array.toList_push, List.map_append]
            refine ent_append es _ h5 ⟨rfl, rfl, ?_, True.intro⟩
            simp only [VR, tupE]
            exact ⟨_, rfl, VR_int.2 rfl, hx, True.intro⟩
    · exact h.elim
  · exact h.elim
theorem delete_run (hT : TOk P T) {X : Ctx} {H : Heap} (hr : HR X H) {t t2 ty : TypeId} {a ix : AV} {v i : Value} {K : AV → Heap → Prop} (h : deleteA T H t a ix K) (ha : VR X a v) (hi : VR X ix i) :
    ∃ H' w', K undefA H' ∧ (Builtin.delete_ #[t, t2] ty #[v, i]).run P X.w = .ok (.tuple #[]) w' ∧ Step X H ⟨X.φ, X.F, w'⟩ H' := by
  unfold deleteA at h
  split at h
  · rename_i _ _ _ kt vt _ p k n ht
    have hu : P.underlying t = some (.map kt vt) := und_map (hT t _ ht) rfl
    split at h
    · rename_i c es hk hp
      obtain ⟨kk, hku⟩ : ∃ kk, P.underlying kt = some (.int kk) := ⟨_, und_int (hT kt _ hk) rfl⟩
      rw [nth_eq] at hp
      simp only [VR] at ha
      obtain ⟨b, hb, rfl⟩ := ha
      rw [VR_int] at hi
      subst hi
      obtain ⟨es', clock, h4, h6, h5⟩ := (hr.mp p _ b hp hb).inv
      obtain ⟨es2, hc, hkc⟩ := optK_elim h
      unfold delM at hc
      cases hl : lookM k n es with
      | none => rw [hl] at hc; cases hc
      | some r =>
        have hf := look_run (kk := kk) es es'.toList r 0 h5 hl
        rw [hl] at hc
        have hg := getObj_run (P := P) h4 (by simp)
        have hs := fun o => setObj_run (P := P) (o := o) h4 (by simp)
        have hck := ck_run (P := P) (k := k) (n := n) hku es'.isEmpty 9999 X.w
        cases r with
        | some q =>
          obtain ⟨q1, q2⟩ := q
          obtain ⟨w, h7, h8, h9, h10⟩ := hf
          rw [Nat.zero_add] at h7
          cases hc
          refine ⟨_, _, hkc, ?_, mp_step (es' := (.bool false, c) :: es.eraseIdx q1) hr hp hb h4 (by simp) (Go.Obj.map (es'.eraseIdxIfInBounds q1) clock) _ rfl ⟨rfl, rfl, h6, ?_⟩ X.w.drawn⟩
          · simp [Builtin.delete_, run_underlying hu, hg, hck, Instr.findKey, run_underlying hku, h7, hs]
          · rw [Array.toList_eraseIdxIfInBounds]
            exact ent_erase es es'.toList q1 h5
        | none =>
          cases hc
          refine ⟨_, _, hkc, ?_, mp_step (es' := (.bool false, c) :: es) hr hp hb h4 (by simp) (Go.Obj.map es' clock) _ rfl ⟨rfl, rfl, h6, h5⟩ X.w.drawn⟩
          simp [Builtin.delete_, run_underlying hu, hg, hck, Instr.findKey, run_underlying hku, hf, hs]
    · exact h.elim
  · exact h.elim
theorem range_run (hT : TOk P T) {X : Ctx} {H : Heap} (hr : HR X H) {t : TypeId} {a : AV} {v : Value} {K : AV → Heap → Prop} (h : rangeA T H t a K) (ha : VR X a v) :
    ∃ c H' Y u, K c H' ∧ (Instr.range t v).run P X.w = .ok u Y.w ∧ VR Y c u ∧ Step X H Y H' ∧ ∀ i, i < H.length → Y.φ i = X.φ i := by
  unfold rangeA at h
  split at h
  · rename_i _ _ _ kt vt _ p ht
    have hu : P.underlying t = some (.map kt vt) := und_map (hT t _ ht) rfl
    split at h
    · rename_i c es hp
      rw [nth_eq] at hp
      have ha0 := ha
      simp only [VR] at ha
      obtain ⟨b, hb, rfl⟩ := ha
      obtain ⟨es', clock, h4, h6, _⟩ := (hr.mp p _ b hp hb).inv
      have hn := NewAt.push hr
      have hnew : Step X H (X.new H.length (Go.Obj.mapIter (some b.block) clock #[] clock)) (H ++ [.mp [(.bool true, .tup [.mapr p, .sc (.int .i64 c), .sc (.int .i64 c)])]]) :=
        Step.new hr H.length (Go.Obj.mapIter (some b.block) clock #[] clock) _ hn.φ (hn.len _) (hn.at_ _) (hn.old _) (fun cs he => by cases he) (fun es2 he => by
          cases he
          refine ⟨rfl, _, _, heap_alloc_at _ _, rfl, rfl, rfl, ?_, True.intro⟩
          have hle := Le.new hr H.length (Go.Obj.mapIter (some b.block) clock #[] clock) hn.φ
          simp only [VR]
          exact ⟨_, rfl, VR.mono hle _ _ ha0, VR.mono hle _ _ h6, VR.mono hle _ _ h6, True.intro⟩)
      refine ⟨_, _, _, .pointer (some ⟨X.w.heap.size, 0, none⟩), h, ?_, ?_, hnew, fun i hi => by simp [Ctx.new, Nat.ne_of_lt hi]⟩
      · simp [Instr.range, run_underlying hu, getObj_run h4 (by simp), Ctx.new]
      · simp only [VR]
        exact ⟨⟨X.w.heap.size, 0, none⟩, by simp [Ctx.new], rfl⟩
    · exact h.elim
  · exact h.elim
theorem MapR.invI {X : Ctx} {b : Addr} {c : AV} {es : List (Value × AV)} (h : MapR X b ((.bool true, c) :: es)) :
    b.off = 0 ∧ ∃ m since last seen', X.w.heap[b.block]? = some (Go.Obj.mapIter (some m) since seen' last) ∧ VR X c (.tuple #[.map (some m), .int .i64 (since : Nat), .int .i64 (last : Nat)]) ∧ EntR X es (seen'.toList.map fun (s : Nat) => ⟨.int .i64 (s : Int), .tuple #[], 0⟩) := by
  obtain ⟨h0, ob, fs, h1, h2, h3⟩ := h
  unfold obE at h2
  split at h2
  · cases h2
    simp only [EntR] at h3
    exact absurd h3.1 (by simp)
  · rename_i m since seen last
    cases h2
    simp only [EntR] at h3
    exact ⟨h0, m, since, last, seen, h1, h3.2.2.1, h3.2.2.2⟩
  · split at h2
    · cases h2
      simp only [EntR] at h3
      exact absurd h3.1 (by simp)
    · cases h2
  · cases h2
theorem ent_mem {X : Ctx} : ∀ {es : List (Value × AV)} {fs : List MapEntry}, EntR X es fs → ∀ f ∈ fs, ∃ x ∈ es, f.key = x.1 ∧ plainS x.1 = true ∧ VR X x.2 f.val
  | [], [], _, f, hf => by cases hf
  | [], _ :: _, h, _, _ => by simp [EntR] at h
  | _ :: _, [], h, _, _ => by simp [EntR] at h
  | (k, v) :: es, g :: fs, h, f, hf => by
    simp only [EntR] at h
    cases hf with
    | head => exact ⟨(k, v), List.mem_cons_self .., h.1, h.2.1, h.2.2.1⟩
    | tail _ hm =>
      obtain ⟨x, h1, h2⟩ := ent_mem h.2.2.2 f hm
      exact ⟨x, List.mem_cons_of_mem _ h1, h2⟩
theorem ent_meml {X : Ctx} : ∀ {es : List (Value × AV)} {fs : List MapEntry}, EntR X es fs → ∀ x ∈ es, ∃ f ∈ fs, f.key = x.1 ∧ VR X x.2 f.val
  | [], [], _, f, hf => by cases hf
  | [], _ :: _, h, _, _ => by simp [EntR] at h
  | _ :: _, [], h, _, _ => by simp [EntR] at h
  | (k, v) :: es, g :: fs, h, x, hx => by
    simp only [EntR] at h
    cases hx with
    | head => exact ⟨g, List.mem_cons_self .., h.1, h.2.2.1⟩
    | tail _ hm =>
      obtain ⟨f, h1, h2⟩ := ent_meml h.2.2.2 x hm
      exact ⟨f, List.mem_cons_of_mem _ h1, h2⟩
theorem plain_of_S {v : Value} (h : plainS v = true) : plain v = true := by
  cases v <;> first | exact h | simp [plainS] at h
theorem VR_sc_of {X : Ctx} {v : Value} (h : plainS v = true) : VR X (.sc v) v := by
  simp only [VR]
  unfold ScR
  exact ⟨plain_of_S h, .inl rfl⟩
theorem choose_run (n : Nat) (hn : 0 < n) (w : World) : ∃ i d, i < n ∧ (choose (.mapNext n)).run P w = .ok i { w with drawn := d } := by
  by_cases h1 : n ≤ 1
  · exact ⟨0, w.drawn, hn, by simp [choose, Sem.run, Question.forced, h1]⟩
  · refine ⟨(w.tape w.drawn (.mapNext n)) % n, w.drawn + 1, Nat.mod_lt _ hn, ?_⟩
    simp [choose, Sem.run, Question.forced, h1, Question.cut]
theorem tup2_VR {X : Ctx} {n m : Int} {v : AV} {u : Value} (h : VR X (.tup [.sc (.int .i64 n), v]) (.tuple #[.int .i64 m, u])) : n = m ∧ VR X v u := by
  simp only [VR] at h
  obtain ⟨ws, h1, h2⟩ := h
  cases h1
  have h3 := VR_int.1 h2.1
  injection h3 with _ h3
  exact ⟨h3.symm, h2.2.1⟩
theorem next_run {X : Ctx} {H : Heap} (hr : HR X H) {ty : TypeId} {a : AV} {v : Value} {K : AV → Heap → Prop} (h : nextA H a K) (ha : VR X a v) :
    ∃ c H' Y u, K c H' ∧ (Instr.next v false ty).run P X.w = .ok u Y.w ∧ VR Y c u ∧ Step X H Y H' ∧ ∀ i, Y.φ i = X.φ i := by
  unfold nextA at h
  split at h
  · rename_i q
    split at h
    · rename_i p since last seen hq
      split at h
      · rename_i c es hp
        rw [nth_eq] at hq hp
        simp only [VR] at ha
        obtain ⟨b, hb, rfl⟩ := ha
        obtain ⟨h0, m, since', last', seen', h4, h5, h6⟩ := (hr.mp q _ b hq hb).invI
        simp only [VR] at h5
        obtain ⟨ws, e1, e2⟩ := h5
        cases e1
        obtain ⟨hm, e3, e4, _⟩ := e2
        have hm0 := hm
        simp only [VR] at hm
        obtain ⟨bp, hbp, hm⟩ := hm
        cases hm
        obtain ⟨es', clock, h7, h8, h9⟩ := (hr.mp p _ bp hp hbp).inv
        have f3 := VR_int.1 e3
        have f4 := VR_int.1 e4
        have f8 := VR_int.1 h8
        injection f3 with _ f3
        injection f4 with _ f4
        injection f8 with _ f8
        obtain ⟨⟨hsl, hgood⟩, hend, hstep⟩ := h
        have hborn : ∀ e ∈ es'.toList, ∃ k w, (k, AV.tup [.sc (.int .i64 (e.born : Nat)), w]) ∈ es ∧ e.key = k ∧ plainS k = true ∧ VR X w e.val ∧ e.born < since' := fun e he => by
          obtain ⟨x, x1, x2, x3, x4⟩ := ent_mem h9 (tupE e) (List.mem_map_of_mem he)
          obtain ⟨n, w, y1, y2⟩ := hgood x x1
          obtain ⟨k, xa⟩ := x
          simp only at y1 x2 x3 x4
          subst y1
          obtain ⟨z1, z2⟩ := tup2_VR x4
          subst z1
          exact ⟨k, w, x1, x2, x3, z2, by omega⟩
        have hseenl : ∀ s, s ∈ seen'.toList → ∃ a, (Value.int .i64 (s : Nat), a) ∈ seen := fun s hs => by
          obtain ⟨x, x1, x2, _⟩ := ent_mem h6 _ (List.mem_map_of_mem hs)
          obtain ⟨k, xa⟩ := x
          simp only at x2
          subst x2
          exact ⟨xa, x1⟩
        have hseenr : ∀ (s : Nat) a, (Value.int .i64 (s : Int), a) ∈ seen → s ∈ seen'.toList := fun s a hs => by
          obtain ⟨f, x1, x2, _⟩ := ent_meml h6 _ hs
          obtain ⟨s', y1, y2⟩ := List.mem_map.1 x1
          subst y2
          simp only [Value.int.injEq, true_and] at x2
          have : s' = s := by omega
          exact this ▸ y1
        have hg1 : (getObj b.block).run P X.w = .ok _ X.w := getObj_run h4 (by simp)
        have hg2 : (getObj bp.block).run P X.w = .ok _ X.w := getObj_run h7 (by simp)
        have hall : (!seen'.isEmpty && !es'.isEmpty && es'.all (fun e => decide (e.born ≥ last'))) = false := by
          cases hem : es'.isEmpty with
          | true => simp
          | false =>
            have : es'.all (fun e => decide (e.born ≥ last')) = false := by
              rw [Bool.eq_false_iff]
              intro hx
              rw [Array.all_eq_true'] at hx
              have hne : es'.toList ≠ [] := fun he => by
                rw [Array.isEmpty_eq_false_iff] at hem
                exact hem (Array.toList_eq_nil_iff.1 he)
              obtain ⟨e, he⟩ := List.exists_mem_of_ne_nil _ hne
              have := hx e (Array.mem_toList_iff.1 he)
              obtain ⟨_, _, _, _, _, _, hb⟩ := hborn e he
              simp at this
              omega
            simp [this]
        have hnew : ((es'.filter fun e => !seen'.contains e.born).filter fun e => decide (e.born ≥ since')) = #[] := by
          rw [Array.filter_eq_empty_iff]
          intro e he
          obtain ⟨_, _, _, _, _, _, hb⟩ := hborn e (Array.mem_toList_iff.2 (Array.mem_filter.1 he).1)
          simp
          omega
        have hold : ((es'.filter fun e => !seen'.contains e.born).filter fun e => decide (e.born < since')) = es'.filter fun e => !seen'.contains e.born := by
          rw [Array.filter_eq_self]
          intro e he
          obtain ⟨_, _, _, _, _, _, hb⟩ := hborn e (Array.mem_toList_iff.2 (Array.mem_filter.1 he).1)
          simpa using hb
        generalize hL : (es'.filter fun e => !seen'.contains e.born) = L at hnew hold
        have hLm : ∀ e ∈ L, e ∈ es'.toList ∧ e.born ∉ seen'.toList := fun e he => by
          rw [← hL, Array.mem_filter] at he
          exact ⟨Array.mem_toList_iff.2 he.1, by simpa using he.2⟩
        have hoff : b.off + 0 = 0 := by omega
        cases hLe : L.isEmpty with
        | true =>
          refine ⟨_, H, X, .tuple #[.bool false], hend fun k n w hk => ?_, ?_, ?_, Step.refl hr, fun _ => rfl⟩
          · obtain ⟨f, x1, x2, x3⟩ := ent_meml h9 _ hk
            obtain ⟨e, y1, y2⟩ := List.mem_map.1 x1
            subst y2
            obtain ⟨z1, _⟩ := tup2_VR x3
            subst z1
            by_cases hs : e.born ∈ seen'.toList
            · exact hseenl _ hs
            · exfalso
              have : e ∈ L := by
                rw [← hL, Array.mem_filter]
                exact ⟨Array.mem_toList_iff.1 y1, by simpa using hs⟩
              rw [Array.isEmpty_iff] at hLe
              subst hLe
              simp at this
          · have hLe' := Array.isEmpty_iff.1 hLe
            rw [hoff]
            simp only [Instr.next, hg1, hg2, Sem.run_bind, Result.andThen_ok, hall, hL, hold, hnew, hLe']
            simp [choose, Sem.run, Question.forced]
          · simp only [VR]
            exact ⟨_, rfl, VR_bool.2 rfl, True.intro⟩
        | false =>
          have hpos : 0 < L.size := by
            rw [Array.isEmpty_eq_false_iff] at hLe
            exact Array.size_pos_iff.2 hLe
          obtain ⟨i, d, hi, hch⟩ := choose_run (P := P) L.size hpos X.w
          obtain ⟨e, he⟩ : ∃ e, L[i]? = some e := ⟨L[i], Array.getElem?_eq_getElem hi⟩
          obtain ⟨m1, m2⟩ := hLm e (Array.mem_of_getElem? he)
          obtain ⟨k, w, w1, w2, w3, w4, w5⟩ := hborn e m1
          subst w2
          have hk := hstep _ _ w w1 (fun a ha => m2 (hseenr _ a ha))
          have hst := mp_step (es' := (.bool true, .tup [.mapr p, .sc (.int .i64 since), .sc (.int .i64 c)]) :: (seen ++ [(.int .i64 (e.born : Nat), undefA)])) hr hq hb h4 (by simp) (Go.Obj.mapIter (some bp.block) since' (seen'.push e.born) clock) _ rfl ⟨rfl, rfl, by
            simp only [VR]
            exact ⟨_, rfl, ⟨bp, hbp, rfl⟩, e3, h8, True.intro⟩, by
            rw [Array.toList_push, List.map_append]
            exact ent_append _ _ h6 ⟨rfl, rfl, by simp [undefA, VR, VL], True.intro⟩⟩ d
          refine ⟨_, _, ⟨X.φ, X.F, _⟩, .tuple #[.bool true, e.key, e.val], hk, ?_, ?_, hst, fun _ => rfl⟩
          · rw [hoff]
            have hse := setObj_run (P := P) (w := { X.w with drawn := d }) (o := Go.Obj.mapIter (some bp.block) since' (seen'.push e.born) clock) h4 (by simp)
            simp only [Instr.next, hg1, hg2, Sem.run_bind, Result.andThen_ok, hall, hL, hold, hnew, hLe, Bool.false_eq_true, if_false, Array.append_empty, Array.empty_append, Array.size_map, hch, Array.getElem?_map, he, Option.map_some, hse, Sem.run_pure]
          · simp only [VR]
            exact ⟨_, rfl, VR_bool.2 rfl, VR_sc_of w3, VR.mono hst.le _ _ w4, True.intro⟩
      · exact h.elim
    · exact h.elim
  · exact h.elim
theorem findS_run {X : Ctx} {n : Nat} : ∀ (es : List (Value × AV)) (fs : List MapEntry) (r : AV), EntR X es (fs.map tupE) → findS (n : Int) es = some r → ∃ e, fs.find? (·.born == n) = some e ∧ ∃ v, r = .tup [.sc e.key, v] ∧ plainS e.key = true ∧ VR X v e.val
  | [], _, _, _, h => by cases h
  | _ :: _, [], _, h, _ => by simp [EntR] at h
  | (k, a) :: es, f :: fs, r, h, hf => by
    simp only [List.map_cons, EntR] at h
    obtain ⟨h1, h2, h3, h4⟩ := h
    unfold findS at hf
    split at hf
    · rename_i hx; cases hx
    · rename_i k' m v es1 hx
      simp only [List.cons.injEq, Prod.mk.injEq] at hx
      obtain ⟨⟨rfl, rfl⟩, rfl⟩ := hx
      obtain ⟨z1, z2⟩ := tup2_VR h3
      subst z1
      by_cases hn : ((f.born : Nat) : Int) = (n : Int)
      · rw [decide_eq_true hn, cond_true] at hf
        cases hf
        have : f.born = n := by omega
        refine ⟨f, by simp [List.find?_cons, this], v, ?_, ?_, z2⟩
        · rw [show f.key = k from h1]
        · rw [show f.key = k from h1]
          exact h2
      · rw [decide_eq_false hn, cond_false] at hf
        obtain ⟨e, e1, e2⟩ := findS_run es fs r h4 hf
        have hb : (f.born == n) = false := by rw [beq_eq_false_iff_ne]; omega
        exact ⟨e, by rw [List.find?_cons, hb]; exact e1, e2⟩
    · cases hf
theorem ent_last {X : Ctx} : ∀ (es : List (Value × AV)) (fs : List MapEntry) (x : Value × AV), EntR X es fs → es.getLast? = some x → ∃ f, fs.getLast? = some f ∧ f.key = x.1
  | [], _, x, _, h => by cases h
  | _ :: _, [], _, h, _ => by simp [EntR] at h
  | [(k, v)], f :: fs, x, h, hl => by
    simp only [EntR] at h
    cases fs with
    | nil =>
      cases hl
      exact ⟨f, rfl, h.1⟩
    | cons _ _ => simp [EntR] at h
  | (k, v) :: y :: es, f :: fs, x, h, hl => by
    simp only [EntR] at h
    cases fs with
    | nil => simp [EntR] at h
    | cons g fs =>
      rw [List.getLast?_cons_cons] at hl ⊢
      exact ent_last (y :: es) (g :: fs) x h.2.2.2 hl
theorem entry_run {X : Ctx} {H : Heap} (hr : HR X H) {a : AV} {v : Value} {K : AV → Heap → Prop} (h : entryA H a K) (ha : VR X a v) :
    ∃ c u, K c H ∧ (Instr.entry v).run P X.w = .ok u X.w ∧ VR X c u := by
  unfold entryA at h
  split at h
  · rename_i q
    split at h
    · rename_i p since last seen hq
      split at h
      · rename_i c es hp
        rw [nth_eq] at hq hp
        simp only [VR] at ha
        obtain ⟨b, hb, rfl⟩ := ha
        obtain ⟨h0, m, since', last', seen', h4, h5, h6⟩ := (hr.mp q _ b hq hb).invI
        simp only [VR] at h5
        obtain ⟨ws, e1, e2⟩ := h5
        cases e1
        obtain ⟨hm, e3, e4, _⟩ := e2
        simp only [VR] at hm
        obtain ⟨bp, hbp, hm⟩ := hm
        cases hm
        obtain ⟨es', clock, h7, h8, h9⟩ := (hr.mp p _ bp hp hbp).inv
        have f4 := VR_int.1 e4
        have f8 := VR_int.1 h8
        injection f4 with _ f4
        injection f8 with _ f8
        obtain ⟨hcl, h⟩ := h
        obtain ⟨r, hr1, hk⟩ := optK_elim h
        unfold entM at hr1
        split at hr1
        · rename_i n x hlast
          obtain ⟨f, g1, g2⟩ := ent_last _ _ _ h6 hlast
          rw [List.getLast?_map] at g1
          obtain ⟨s, g3, g4⟩ := Option.map_eq_some_iff.1 g1
          subst g4
          simp only [Value.int.injEq, true_and] at g2
          subst g2
          obtain ⟨e, k1, w, k2, k3, k4⟩ := findS_run es es'.toList r h9 hr1
          subst k2
          have hg1 : (getObj b.block).run P X.w = .ok _ X.w := getObj_run h4 (by simp)
          have hg2 : (getObj bp.block).run P X.w = .ok _ X.w := getObj_run h7 (by simp)
          have hback : seen'.back? = some s := by rw [← Array.getLast?_toList]; exact g3
          have hfind : es'.find? (·.born == s) = some e := by rw [← Array.find?_toList]; exact k1
          have hoff : b.off + 0 = 0 := by omega
          have hcc : clock = last' := by omega
          refine ⟨_, .tuple #[e.key, e.val], hk, ?_, ?_⟩
          · rw [hoff]
            simp only [Instr.entry, hg1, hg2, Sem.run_bind, Result.andThen_ok, hback, hfind, hcc]
            simp
          · simp only [VR]
            exact ⟨_, rfl, VR_sc_of k3, k4, True.intro⟩
        · cases hr1
      · exact h.elim
    · exact h.elim
  · exact h.elim
theorem cap_run (hT : TOk P T) {X : Ctx} {H : Heap} {t ty : TypeId} {a : AV} {v : Value} {K : AV → Heap → Prop} (h : capA T H t a K) (ha : VR X a v) : K (.sc (.int .i64 0)) H ∧ (Builtin.cap_ #[t] ty #[v]).run P X.w = .ok (.int .i64 0) X.w := by
  unfold capA at h
  split at h
  · rename_i _ _ _ e _ ht
    have hs : P.underlying t = some (.slice e) := und_slice (hT t _ ht) rfl
    simp only [VR, ScR] at ha
    refine ⟨h, ?_⟩
    rcases ha with ⟨_, rfl | ⟨_, a, rfl⟩⟩
    · simp [Builtin.cap_, run_underlying hs, goInt]
    · simp [Builtin.cap_, run_underlying hs, goInt]
  · exact h.elim
theorem aop_wp (hT : TOk P T) {X : Ctx} {s : St} {a : Act} (h : At n X0 H0 X s a) {o : Oper} (hd : okD n o.dst = true) {K : St → Prop} {Kp : Value → St → Prop} (hq : aop P T o s K Kp) {next : Act → World → Prop} {Q : Exit → Act → World → Prop}
    (hK : ∀ Y s' a', K s' → At n X0 H0 Y s' a' → next a' Y.w) (hP : ∀ Y u s' a', Kp u s' → At n X0 H0 Y s' a' → plain u = true → Q (.panic [entry u]) a' Y.w) : o.wp P a X.w next Q := by
  unfold aop at hq
  split at hq
  · rename_i t x y ho
    obtain ⟨H', w', hk, hrun, hst⟩ := store_run hT h.st.hr hq (h.st.ev x) (h.st.ev y)
    refine upon_of_run (nx := .skip) (v := undef) ?_ (.inr ⟨rfl, rfl⟩) (hK ⟨X.φ, X.F, w'⟩ _ _ (keep_elim hk) (h.step hst (fun _ _ => rfl) hd VR_undef))
    unfold execOp
    simp [ho, hrun]
  · rename_i t m k x ho
    obtain ⟨H', w', hk, hrun, hst⟩ := update_run hT h.st.hr hq (h.st.ev m) (h.st.ev k) (h.st.ev x)
    refine upon_of_run (nx := .skip) (v := undef) ?_ (.inr ⟨rfl, rfl⟩) (hK ⟨X.φ, X.F, w'⟩ _ _ (keep_elim hk) (h.step hst (fun _ _ => rfl) hd VR_undef))
    unfold execOp
    simp [ho, hrun]
  · rename_i t x ho
    obtain ⟨v, H1, Y, u, hk, hrun, hv, hst, hφ⟩ := range_run hT h.st.hr hq (h.st.ev x)
    refine upon_of_run (nx := .value u) (v := u) ?_ (.inl rfl) (hK Y _ _ (keep_elim hk) (h.step hst hφ hd hv))
    unfold execOp
    simp [ho, hrun]
  · rename_i it isS ho
    cases isS with
    | true => exact hq.elim
    | false =>
      obtain ⟨v, H1, Y, u, hk, hrun, hv, hst, hφ⟩ := next_run (P := P) (ty := o.type) (K := fun v H' => s.keep o.dst v H' K) h.st.hr hq (h.st.ev it)
      refine upon_of_run (nx := .value u) (v := u) ?_ (.inl rfl) (hK Y _ _ (keep_elim hk) (h.step hst (fun i _ => hφ i) hd hv))
      unfold execOp
      simp [ho, hrun]
  · rename_i it ho
    obtain ⟨v, u, hk, hrun, hv⟩ := entry_run (P := P) h.st.hr hq (h.st.ev it)
    refine upon_of_run (nx := .value u) (v := u) ?_ (.inl rfl) (hK X _ _ (keep_elim hk) (h.step (Step.refl h.st.hr) (fun _ _ => rfl) hd hv))
    unfold execOp
    simp [ho, hrun]
  · rename_i c ho
    unfold callA at hq
    split at hq
    · rename_i hc
      split at hq
      · rename_i st xt x y h1 h2
        obtain ⟨v, H1, Y, u, hk, hrun, hv, hst, hφ⟩ := app_run (ty := o.type) hT h.st.hr hq (h.st.ev x) (h.st.ev y)
        have e1 : c.argTypes = #[st, xt] := by simpa using congrArg List.toArray h1
        have e2 : c.args = #[x, y] := by simpa using congrArg List.toArray h2
        refine upon_of_run (nx := .value u) (v := u) ?_ (.inl rfl) (hK Y _ _ (keep_elim hk) (h.step hst hφ hd hv))
        unfold execOp
        simp [ho, resolve, hc, invoke, builtin, e1, e2, hrun]
      · exact hq.elim
    · rename_i hc
      split at hq
      · rename_i t x h1 h2
        obtain ⟨H', w', hk, hrun, hst⟩ := clear_run (ty := o.type) hT h.st.hr hq (h.st.ev x)
        have e1 : c.argTypes = #[t] := by simpa using congrArg List.toArray h1
        have e2 : c.args = #[x] := by simpa using congrArg List.toArray h2
        refine upon_of_run (nx := .value (.tuple #[])) (v := .tuple #[]) ?_ (.inl rfl) (hK ⟨X.φ, X.F, w'⟩ _ _ (keep_elim hk) (h.step hst (fun _ _ => rfl) hd (show VR _ undefA _ from by simp [undefA, VR, VL])))
        unfold execOp
        simp [ho, resolve, hc, invoke, builtin, e1, e2, hrun]
      · exact hq.elim
    · rename_i hc
      split at hq
      · rename_i t t2 x y h1 h2
        obtain ⟨H', w', hk, hrun, hst⟩ := delete_run (t2 := t2) (ty := o.type) hT h.st.hr hq (h.st.ev x) (h.st.ev y)
        have e1 : c.argTypes = #[t, t2] := by simpa using congrArg List.toArray h1
        have e2 : c.args = #[x, y] := by simpa using congrArg List.toArray h2
        refine upon_of_run (nx := .value (.tuple #[])) (v := .tuple #[]) ?_ (.inl rfl) (hK ⟨X.φ, X.F, w'⟩ _ _ (keep_elim hk) (h.step hst (fun _ _ => rfl) hd (show VR _ undefA _ from by simp [undefA, VR, VL])))
        unfold execOp
        simp [ho, resolve, hc, invoke, builtin, e1, e2, hrun]
      · exact hq.elim
    · rename_i hc
      split at hq
      · rename_i t x h1 h2
        obtain ⟨hk, hrun⟩ := cap_run (ty := o.type) hT hq (h.st.ev x)
        have e1 : c.argTypes = #[t] := by simpa using congrArg List.toArray h1
        have e2 : c.args = #[x] := by simpa using congrArg List.toArray h2
        refine upon_of_run (nx := .value (.int .i64 0)) (v := .int .i64 0) ?_ (.inl rfl) (hK X _ _ (keep_elim hk) (h.step (Step.refl h.st.hr) (fun _ _ => rfl) hd (VR_int.2 rfl)))
        unfold execOp
        simp [ho, resolve, hc, invoke, builtin, e1, e2, hrun]
      · exact hq.elim
    · rename_i f hc
      split at hq
      · rename_i g caps hf
        exact call_wp h hd ho hc hf hq (fun Y v H' u hk hat => hK Y _ _ (keep_elim hk) hat) fun Y u H' hk hat hp => hP Y u _ _ hk hat hp
      · exact hq.elim
    · exact q_wp hT h hd hq hK
  · rename_i c ho
    split at hq
    · rename_i f hc
      split at hq
      · rename_i g caps hf
        have hv := h.st.ev f
        rw [hf] at hv
        simp only [VR] at hv
        obtain ⟨caps', hv, hcl⟩ := hv
        have hrun : (execOp a.eval o).run P X.w = .ok (.defer { target := .fn (.func g) caps', args := c.args.map a.eval }) X.w := by
          unfold execOp
          simp [ho, resolve, hc, hv, Deferred.ofValue]
        unfold Oper.wp
        rw [hrun]
        refine hK X ⟨updO s.fr o.dst undefA, s.H, ⟨g, caps, c.args.toList.map (ev s.fr)⟩ :: s.ds⟩ _ hq ?_
        have hp := h.st.put h.st.hr (Le.refl X) hd (VR_undef (X := X))
        have htm : ({ a with defers := { target := .fn (.func g) caps', args := c.args.map a.eval } :: a.defers }.put o.dst undef).tmps = (a.put o.dst undef).tmps := by
          cases o.dst <;> rfl
        refine ⟨⟨?_, ?_, ?_, h.st.hr⟩, h.ext, h.φ, h.len⟩
        · rw [htm]
          exact hp.size
        · intro t
          rw [htm]
          exact hp.fr t
        · have hd' : ({ a with defers := { target := .fn (.func g) caps', args := c.args.map a.eval } :: a.defers }.put o.dst undef).defers = { target := .fn (.func g) caps', args := c.args.map a.eval } :: a.defers := by
            cases o.dst <;> rfl
          rw [hd']
          exact ⟨⟨caps', rfl, hcl, by simpa using VL_map h.st.ev c.args.toList⟩, h.st.ds⟩
      · exact hq.elim
    · exact hq.elim
  · rename_i x ho
    split at hq
    · rename_i t v he
      have hv := h.st.ev x
      rw [he] at hv
      obtain ⟨hv, hp⟩ := VR_iface hv
      have hrun : (execOp a.eval o).run P X.w = .halt (.panic (.iface t v)) X.w := by
        unfold execOp
        simp [ho, hv, Instr.panic]
      unfold Oper.wp
      rw [hrun]
      exact hP X _ _ _ hq h hp
    · exact hq.elim
  · rename_i op t x y _ ho
    split at hq
    · rename_i hy
      have hye := isNilS_eq hy
      subst hye
      obtain ⟨c, v, hk, hrun, hv⟩ := nilA_run (ox := x) (oy := .const (.slice none 0 0)) hT X.w hq (h.st.ev x)
      refine upon_of_run (nx := .value v) (v := v) ?_ (.inl rfl) (hK X _ _ (keep_elim hk) (h.step (Step.refl h.st.hr) (fun _ _ => rfl) hd (hv X)))
      unfold execOp
      simp only [ho]
      show (do pure (.value (← binRun op t x (.const (.slice none 0 0)) (a.eval x) (.slice none 0 0))) : Sem Next).run P X.w = _
      rw [Sem.run_bind, hrun]
      rfl
    · exact q_wp hT h hd hq hK
  · exact q_wp hT h hd hq hK

theorem guard_none {all : Array Oper} {o : Oper} (h : o.guard = none) (tm : Array Value) : Region.wanted o (yielded all tm) = true := by
  simp [Region.wanted, h]
theorem guard_bool {all : Array Oper} {o : Oper} {j : Nat} {want b : Bool} {X : Ctx} {s : St} {a : Act} (hs : StR n X s a) (hdst : ∀ q ∈ all.toList, okD n q.dst = true) (h : o.guard = some (j, want)) (hv : guardV all.toList s.fr j = some (.sc (.bool b))) :
    Region.wanted o (yielded all a.tmps) = (b == want) := by
  unfold guardV at hv
  split at hv
  · rename_i q hq
    rw [nth_eq] at hq
    cases hdq : q.dst with
    | none => rw [hdq] at hv; cases hv
    | some d =>
      rw [hdq] at hv
      simp only [Option.map_some, Option.some.injEq] at hv
      have hd := hdst q (List.mem_of_getElem? hq)
      rw [hdq] at hd
      have hlt : d < n := by simpa [okD] using hd
      have h1 := hs.fr d
      rw [hv, VR_bool] at h1
      have h2 : a.tmps[d]? = some (.bool b) := by
        rw [Array.getD_eq_getD_getElem?, Array.getElem?_eq_getElem (by rw [hs.size]; exact hlt)] at h1
        rw [Array.getElem?_eq_getElem (by rw [hs.size]; exact hlt)]
        simpa using h1
      have h3 : all[j]? = some q := by simpa using hq
      simp only [Region.wanted, h, yielded, h3, Option.bind_some, hdq, h2]
      cases b <;> cases want <;> rfl
  · cases hv
theorem guard_tup {all : Array Oper} {o : Oper} {j : Nat} {want : Bool} {vs : List AV} {X : Ctx} {s : St} {a : Act} (hs : StR n X s a) (h : o.guard = some (j, want)) (hv : guardV all.toList s.fr j = some (.tup vs)) :
    Region.wanted o (yielded all a.tmps) = false := by
  unfold guardV at hv
  split at hv
  · rename_i q hq
    rw [nth_eq] at hq
    cases hdq : q.dst with
    | none => rw [hdq] at hv; cases hv
    | some d =>
      rw [hdq] at hv
      simp only [Option.map_some, Option.some.injEq] at hv
      have h1 := hs.fr d
      rw [hv] at h1
      simp only [VR] at h1
      obtain ⟨ws, h1, _⟩ := h1
      have h3 : all[j]? = some q := by simpa using hq
      have h2 : ∀ b : Bool, a.tmps[d]? ≠ some (.bool b) := fun b hb => by
        rw [Array.getD_eq_getD_getElem?, hb] at h1
        cases h1
      simp only [Region.wanted, h, yielded, h3, Option.bind_some, hdq]
      cases hx : a.tmps[d]? with
      | none => rfl
      | some v => cases v <;> first | rfl | exact absurd hx (h2 _)
  · cases hv

def okOps (n : Nat) : List Oper → Bool
  | [] => true
  | o :: os => bif okD n o.dst then okOps n os else false
theorem okOps_mem {n : Nat} : ∀ {os : List Oper}, okOps n os = true → ∀ q ∈ os, okD n q.dst = true
  | [], _, q, hq => by cases hq
  | o :: os, h, q, hq => by
    cases ho : okD n o.dst with
    | false => simp [okOps, ho] at h
    | true =>
      simp only [okOps, ho, cond_true] at h
      cases hq with
      | head => exact ho
      | tail _ hm => exact okOps_mem h q hm

/-- The operations of a region, in the order of the text. -/
theorem ops_wp (hT : TOk P T) {all : Array Oper} (hok : okOps n all.toList = true) {K : St → Prop} {Kp : Value → St → Prop} {Q : Exit → Act → World → Prop}
    (hK : ∀ Y s' a', K s' → At n X0 H0 Y s' a' → Q .normal a' Y.w) (hP : ∀ Y u s' a', Kp u s' → At n X0 H0 Y s' a' → plain u = true → Q (.panic [entry u]) a' Y.w) :
    ∀ (l : List Oper) (k : Nat), (∀ j, l[j]? = all[k + j]?) → k + l.length = all.size → ∀ (X : Ctx) (s : St) (a : Act), At n X0 H0 X s a → awpOps P T all.toList K Kp l s → wpOps P all Q (List.range' k l.length) a X.w
  | [], k, _, _, X, s, a, h, hq => by
    simp only [List.length_nil, List.range'_zero, wpOps]
    exact hK X s a hq h
  | o :: l, k, hl, hlen, X, s, a, h, hq => by
    have h0 : all[k]? = some o := by simpa using (hl 0).symm
    have hmem : o ∈ all.toList := List.mem_of_getElem? (i := k) (by simpa using h0)
    have hd := okOps_mem hok o hmem
    have hrest : ∀ Y s' a', awpOps P T all.toList K Kp l s' → At n X0 H0 Y s' a' → wpOps P all Q (List.range' (k + 1) l.length) a' Y.w := fun Y s' a' hk hat =>
      ops_wp hT hok hK hP l (k + 1) (fun j => by have := hl (j + 1); simpa [Nat.add_assoc, Nat.add_comm 1 j] using this) (by simp at hlen; omega) Y s' a' hat hk
    have hskip : s.keep o.dst undefA s.H (awpOps P T all.toList K Kp l) → wpOps P all Q (List.range' (k + 1) l.length) (a.put o.dst undef) X.w := fun hk =>
      hrest X _ _ (keep_elim hk) (h.step (Step.refl h.st.hr) (fun _ _ => rfl) hd VR_undef)
    have hrun : aop P T o s (awpOps P T all.toList K Kp l) Kp → o.wp P a X.w (wpOps P all Q (List.range' (k + 1) l.length)) Q := fun hk => aop_wp hT h hd hk hrest hP
    simp only [List.length_cons, List.range'_succ, wpOps, h0]
    simp only [awpOps, aopG] at hq
    split at hq
    · rename_i hg
      rw [if_pos (guard_none hg _)]
      exact .inl (hrun hq)
    · rename_i j want hg
      split at hq
      · rename_i b hv
        have hw := guard_bool h.st (okOps_mem hok) hg hv
        rw [hw]
        cases want <;> cases b <;> simp only [If] at hq
        · exact .inl (hrun hq)
        · exact hskip hq
        · exact hskip hq
        · exact .inl (hrun hq)
      · rename_i vs hv
        rw [guard_tup h.st hg hv]
        exact hskip hq
      · exact hq.elim
end
end Go.Proofs.YthbncljlclcecaaDoor.A
