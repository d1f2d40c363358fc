/- Whatever calls nothing: the abstract step is the model's step. No condition. -/
import Derived.Test.YtpjjfcgmckpboaaAm9
namespace Go.Proofs.Ytpjjfcgmckpboaa.A
open Go
set_option linter.unusedVariables false
set_option linter.unusedSimpArgs false

section
variable {P : Program} {T : Tab} {X : Ctx} {H : Heap}

theorem Done.of {n : Nat} {o : Oper} {ρ : Operand → Value} {K : AV → Heap → Prop} {s : Sem Value} (hr : HR X H) (ho : execOp ρ o = (do pure (.value (← s))))
    (h : ∃ c u, K c H ∧ s.run P X.w = .ok u X.w ∧ VR X c u) : Done P X H n o ρ K := by
  obtain ⟨c, u, hk, hs, hv⟩ := h
  exact Done.same hr hk (by rw [ho]; simp [hs]) hv
theorem OR_map {f : Fr} {ρ : Operand → Value} (hf : FrR X f ρ) : ∀ o : Option Operand, OR X (o.map (ev f)) (o.map ρ)
  | none => trivial
  | some x => hf x
theorem parts_map {f : Fr} {ρ : Operand → Value} (hf : FrR X f ρ) (parts : Array (Nat × Operand)) :
    (parts.toList.map fun p => (p.1, ev f p.2)).length = ((parts.map fun (i, x) => (i, ρ x)).toList).length ∧
    ∀ (j : Nat) (p : Nat × AV) (q : Nat × Value), (parts.toList.map fun p => (p.1, ev f p.2))[j]? = some p → ((parts.map fun (i, x) => (i, ρ x)).toList)[j]? = some q → p.1 = q.1 ∧ VR X p.2 q.2 := by
  refine ⟨by simp, fun j p q hp hq => ?_⟩
  rw [List.getElem?_map] at hp
  simp only [Array.toList_map] at hq
  rw [List.getElem?_map] at hq
  cases hx : parts.toList[j]? with
  | none => rw [hx] at hp; cases hp
  | some x =>
    rw [hx] at hp hq
    simp only [Option.map_some, Option.some.injEq] at hp hq
    subst hp hq
    exact ⟨rfl, hf x.2⟩
theorem VL_map {f : Fr} {ρ : Operand → Value} (hf : FrR X f ρ) : ∀ xs : List Operand, VL X (xs.map (ev f)) (xs.map ρ)
  | [] => by simp [VL]
  | x :: xs => by simp only [List.map_cons, VL]; exact ⟨hf x, VL_map hf xs⟩
theorem not_iface {t : TypeId} {i : TI} (h : TOkAt P t i) (hd : i.d ≠ .iface) : ∃ d, P.underlying t = some d ∧ ∀ ms, d ≠ .interface ms := by
  obtain ⟨d, h1, h2⟩ := h.und
  exact ⟨d, h1, fun ms he => hd (by rw [← h2, he]; rfl)⟩

theorem wrap64_small {n : Int} (h0 : -9223372036854775808 ≤ n) (h1 : n ≤ 9223372036854775807) : IntKind.i64.wrap n = n := by
  unfold IntKind.wrap
  simp [IntKind.signed, IntKind.bits]
  omega
theorem alloc_done {n : Nat} {N : AObj → Heap} (hr : HR X H) (hn : NewAt X H n N) {o : Oper} {ρ : Operand → Value} {K : AV → Heap → Prop} {cs : List AV} {v : Value} (e : TypeId) (hk : K (.ptr n 0) (N (.row cs))) (hv : VL X cs v.cells.toList)
    (ho : (execOp ρ o).run P X.w = .ok (.value (.pointer (some ⟨X.w.heap.size, 0, none⟩))) (X.w.alloc (Go.Obj.cells v.cells e))) : Done P X H n o ρ K := by
  refine Done.newRow hr hn cs v.cells e hk ho (fun k c hc => ?_) fun _ hφ _ => ?_
  · obtain ⟨u, h1, h2⟩ := hv.get k c hc
    exact ⟨u, by simpa using h1, h2⟩
  · simp only [VR]
    exact ⟨_, hφ, by simp⟩
theorem rows_done {n : Nat} {N : AObj → Heap} (hr : HR X H) (hn : NewAt X H n N) {o : Oper} {ρ : Operand → Value} {K : AV → Heap → Prop} {cs : List AV} {cells : Array Value} (e : TypeId) {len cap sz : Nat} (hk : K (.slc n 0 len sz) (N (.row cs)))
    (hc : ∀ (k : Nat) (c : AV), cs[k]? = some c → ∃ u, cells[k]? = some u ∧ VR X c u) (hlen : len ≤ cap) (hsz : cap * sz ≤ cells.size)
    (ho : (execOp ρ o).run P X.w = .ok (.value (.slice (some ⟨X.w.heap.size, 0, none⟩) len cap)) (X.w.alloc (Go.Obj.cells cells e))) : Done P X H n o ρ K := by
  refine Done.newRow hr hn cs cells e hk ho hc fun _ hφ hh => ?_
  simp only [VR]
  exact ⟨_, 0, cap, cells, e, hφ, rfl, hlen, fun _ => rfl, hh, by omega⟩

set_option maxHeartbeats 2000000 in
theorem aopQ_run (hT : TOk P T) {o : Oper} {f : Fr} {ρ : Operand → Value} {n : Nat} {N : AObj → Heap} {K : AV → Heap → Prop} (hr : HR X H) (hf : FrR X f ρ) (hn : NewAt X H n N) (h : aopQ T o f H n N K) : Done P X H n o ρ K := by
  obtain ⟨dst, op, type, pos, after, guard⟩ := o
  cases op <;> simp only [aopQ] at h
  case move x => exact Done.same hr h rfl (hf x)
  case assign x => exact Done.same hr h rfl (hf x)
  case pick c a b =>
    split at h
    · rename_i t ht
      have hc := hf c
      rw [ht, VR_bool] at hc
      cases t
      · exact Done.same (v := ρ b) hr h (by simp [execOp, hc, asBool]) (hf b)
      · exact Done.same (v := ρ a) hr h (by simp [execOp, hc, asBool]) (hf a)
    · exact h.elim
  case alloc t =>
    split at h
    · rename_i i hi
      cases hz : zeroOk i.zero with
      | false => simp [hz] at h
      | true =>
        simp only [hz, cond_true] at h
        exact alloc_done hr hn t h VL_ofC (by simp [execOp, Instr.alloc, zero_run (hT t i hi), newVar, newRow])
    · exact h.elim
  case box t x =>
    split at h
    · rename_i cs hcs
      cases hz : allC cs with
      | false => simp [hz] at h
      | true =>
        simp only [hz, cond_true] at h
        exact alloc_done (v := ρ x) hr hn t h (cellsOf_rel hcs (hf x) hz) (by simp [execOp, Instr.box, newVar, newRow])
    · exact h.elim
  case build t parts =>
    split at h
    · rename_i i hi
      obtain ⟨hp1, hp2⟩ := parts_map hf parts
      split at h
      · rename_i fs hd
        obtain ⟨gs, hu, hg⟩ := und_strct (hT t i hi) hd
        split at h
        · rename_i pl hpl
          obtain ⟨cs, hcs, hk⟩ := optK_elim h
          obtain ⟨rs, h1, h2⟩ := fill_run _ _ _ i.zero.cells cs hcs hp1 hp2 VL_ofC
          rw [← hg] at hpl
          have hpr := places_run hT hpl X.w
          refine Done.same (v := .agg rs) hr hk ?_ (by simp only [VR]; exact ⟨_, rfl, h2⟩)
          simp only [execOp, Instr.build, Sem.run_bind, zero_run (hT t i hi), Result.andThen_ok, run_underlying hu]
          rw [← Array.toArray_toList (xs := gs), List.mapM_toArray]
          simp only [Sem.run_map, hpr, Result.andThen_ok]
          have hfn : (fun (x : Nat) => (pl.toArray)[x]?) = nth pl := by
            funext x
            rw [nth_eq]
            simp
          rw [hfn, h1]
          simp
        · exact h.elim
      · rename_i m e hd
        have hu := und_arr (hT t i hi) hd
        split at h
        · rename_i j hj
          obtain ⟨cs, hcs, hk⟩ := optK_elim h
          obtain ⟨rs, h1, h2⟩ := fill_run _ _ _ i.zero.cells cs hcs hp1 hp2 VL_ofC
          refine Done.same (v := .agg rs) hr hk ?_ (by simp only [VR]; exact ⟨_, rfl, h2⟩)
          simp only [execOp, Instr.build, Sem.run_bind, zero_run (hT t i hi), Result.andThen_ok, run_underlying hu, sizeOf_run (hT e j hj)]
          rw [h1]
          simp
        · exact h.elim
      · exact h.elim
    · exact h.elim
  case buildSlice t len parts =>
    split at h
    · rename_i e eqk ht
      have hu : P.underlying t = some (.slice e) := und_slice (hT t _ ht) rfl
      split at h
      · rename_i j hj
        cases hq : (Nat.ble (len * j.size) 16777216 && Nat.beq j.zero.cells.size j.size) with
        | false => simp [hq] at h
        | true =>
          simp only [hq, cond_true] at h
          rw [Bool.and_eq_true] at hq
          have hq1 := Nat.le_of_ble_eq_true hq.1
          have hq2 := Nat.eq_of_beq_eq_true hq.2
          obtain ⟨cs, hcs, hk⟩ := optK_elim h
          cases hz : allC cs with
          | false => simp [hz] at hk
          | true =>
            simp only [hz, cond_true] at hk
            obtain ⟨hp1, hp2⟩ := parts_map hf parts
            have hzl : VL X (zerosA j.zero len) (madeCells j.zero.cells (len * j.size)).toList := by
              refine VL.of_get (by rw [zeros_length, Array.length_toList, size_madeCells, hq2]) fun k c u hc hu' => ?_
              obtain ⟨u', h1, h2⟩ := zeros_made (X := X) hc (Nat.le_of_eq (by rw [hq2]))
              rw [Array.getElem?_toList, h1] at hu'
              exact Option.some.inj hu' ▸ h2
            obtain ⟨rs, h1, h2⟩ := fill_run _ _ _ _ cs hcs hp1 hp2 hzl
            have hlen := fillA_length hcs
            refine rows_done (cells := rs) (cap := len) hr hn e hk (fun k c hc => ?_) (Nat.le_refl _) ?_ ?_
            · obtain ⟨u, h3, h4⟩ := h2.get k c hc
              exact ⟨u, by simpa using h3, h4⟩
            · have := h2.length
              rw [hlen, zeros_length, hq2, Array.length_toList] at this
              omega
            · simp only [execOp, Instr.buildSlice, Sem.run_bind, run_underlying hu, Result.andThen_ok, sizeOf_run (hT e j hj)]
              rw [if_neg (by omega)]
              simp only [Sem.run_bind, Sem.run_pure, Result.andThen_ok]
              have hmade : (madeCells j.zero.cells (len * j.size)) = (Array.range (len * j.size)).map fun x => (j.zero.cells)[x % j.zero.cells.size]! := rfl
              by_cases h0 : len * j.size = 0
              · rw [if_pos h0]
                rw [hmade] at h1
                simp only [h0, Sem.run_pure, Result.andThen_ok] at h1 ⊢
                have e0 : Array.range 0 = #[] := rfl
                simp only [e0, Array.map_empty] at h1 ⊢
                rw [h1]
                simp [newRow]
              · rw [if_neg h0]
                simp only [Sem.run_bind, zero_run (hT e j hj), Result.andThen_ok, Sem.run_pure]
                rw [← hmade, h1]
                simp [newRow]
      · exact h.elim
    · exact h.elim
  case load t a =>
    split at h
    · rename_i i hi
      refine Done.of hr rfl ?_
      refine load_run hT hr hi (K := fun c => K c H) (a := ev f a) ?_ (hf a)
      exact h
    · exact h.elim
  case nilCheck x =>
    have hx := hf x
    split at h
    · rename_i p off he
      rw [he] at hx
      have hx' := hx
      simp only [VR] at hx
      obtain ⟨b, hb, hv⟩ := hx
      exact Done.same (v := ρ x) hr h (by simp [execOp, hv]) hx'
    · rename_i cells he
      rw [he] at hx
      have hx' := hx
      simp only [VR] at hx
      obtain ⟨ad, hv, _⟩ := hx
      exact Done.same (v := ρ x) hr h (by simp [execOp, hv]) hx'
    · rename_i g caps he
      rw [he] at hx
      have hx' := hx
      simp only [VR] at hx
      obtain ⟨c, hv, _⟩ := hx
      exact Done.same (v := ρ x) hr h (by simp [execOp, hv]) hx'
    · exact h.elim
  case binOp op t x y ty => exact Done.of_bin hr rfl (binA_run hT X.w h (hf x) (hf y))
  case unOp op t x => exact Done.of_bin hr rfl (unA_run X.w h (hf x))
  case convert src dst x =>
    split at h
    · rename_i e eq1 _ _ _ eq2 hs hd
      split at h
      · rename_i he
        cases hq : isStr (ev f x) with
        | true => simp [hq] at h
        | false =>
          simp only [hq, cond_false] at h
          obtain ⟨cs, h1, h⟩ := optK_elim h
          obtain ⟨l, h2, hk⟩ := optK_elim h
          have hus : P.underlying src = some (.slice e) := und_slice (hT src _ hs) rfl
          refine Done.same (v := .string ⟨l.toArray⟩) hr hk ?_ (VR_string.2 rfl)
          have := str_run hT hr hus (und_int (hT e _ he) rfl) (und_str (hT dst _ hd) rfl) h1 h2 (hf x) (not_str h1 hq (hf x))
          simp [execOp, this]
      · exact h.elim
    · rename_i i0 _ _ _ e eqk s hs hd hx
      split at h
      · rename_i he
        obtain ⟨du, hsu, _⟩ := (hT src i0 hs).und
        have hv := hf x
        rw [hx, VR_string] at hv
        exact bytes_run_view hr hsu (und_slice (hT dst _ hd) rfl : P.underlying dst = some (.slice e)) (und_int (hT e _ he) rfl) s h (by simp [execOp, hv])
      · exact h.elim
    · exact Done.of_bin hr rfl (convA_run hT X.w h (hf x))
  case makeInterface t x =>
    split at h
    · exact h.elim
    · rename_i i hne hi
      obtain ⟨v, hv, hk⟩ := optK_elim h
      obtain ⟨d, hu, hni⟩ := not_iface (hT t i hi) (fun he => hne i.size i.bytes i.zero i.eqOk (by cases i; simp at he; subst he; rfl))
      obtain ⟨h1, h2⟩ := plainOf_run (t := t) hv (hf x)
      refine Done.same (v := .iface t v) hr hk ?_ (by simp [VR, ScR, h2])
      cases d <;> first
        | exact absurd rfl (hni _)
        | simp [execOp, Instr.makeInterface, run_underlying hu, h1]
    · exact h.elim
  case makeFunc fn first captured =>
    split at h
    · rename_i hq
      have h0 : first = #[] := by simpa using hq
      subst h0
      refine Done.same (v := .func fn #[] (captured.map ρ)) hr h (by simp [execOp, Instr.makeFunc]) ?_
      simp only [VR]
      exact ⟨_, rfl, by simpa using VL_map hf captured.toList⟩
    · exact h.elim
  case makeMap t r =>
    split at h
    · refine Done.new (v := .map (some X.w.heap.size)) hr hn (Go.Obj.map #[] 0) (.mp []) h (by simp [execOp, Instr.makeMap]) ?_ (fun cs he => by cases he) (fun es he => ?_)
      · simp only [VR]
        exact ⟨⟨X.w.heap.size, 0, none⟩, by simp [Ctx.new], rfl⟩
      · cases he
        exact ⟨#[], 0, heap_alloc_at _ _, by simp [EntR]⟩
    · exact h.elim
  case makeSlice t l c =>
    split at h
    · rename_i e eqk ht
      have hu : P.underlying t = some (.slice e) := und_slice (hT t _ ht) rfl
      split at h
      · rename_i j lv mv hj hl hm
        cases hq : (Nat.beq j.zero.cells.size j.size && zeroOk j.zero) with
        | false => simp [hq] at h
        | true =>
          simp only [hq, cond_true] at h
          rw [Bool.and_eq_true] at hq
          have hq1 := Nat.eq_of_beq_eq_true hq.1
          obtain ⟨⟨h0, h1, h2, h3⟩, hk⟩ := h
          obtain ⟨k1, hl'⟩ := intOf_VR hl (hf l)
          obtain ⟨k2, hm'⟩ := intOf_VR hm (hf c)
          obtain ⟨ti, hb1, hb2, hb3⟩ := bytes_run (hT e j hj) X.w
          have hwl : IntKind.i64.wrap lv = lv := wrap64_small (by omega) (by omega)
          have hwm : IntKind.i64.wrap mv = mv := wrap64_small (by omega) (by omega)
          refine rows_done (cells := madeCells j.zero.cells (mv.toNat * j.size)) (cap := mv.toNat) hr hn e hk (fun k c hc => ?_) (by omega) (by rw [size_madeCells]; exact Nat.le_refl _) ?_
          · exact zeros_made hc (Nat.mul_le_mul (by omega) (Nat.le_of_eq hq1))
          · have hmade : (madeCells j.zero.cells (mv.toNat * j.size)) = (Array.range (mv.toNat * j.size)).map fun x => (j.zero.cells)[x % j.zero.cells.size]! := rfl
            have ht1 : ¬ ((mv < 0 || decide ((ti.bytes : Int) * mv > 2 ^ 48)) || decide (lv < 0) || decide (lv > mv)) = true := by
              rw [hb2]
              simp only [Bool.or_eq_true, decide_eq_true_eq, not_or]
              omega
            simp only [execOp, Instr.makeSlice, Sem.run_bind, run_underlying hu, Result.andThen_ok, hl', hm', asInt, asIntOf, Sem.run_pure, hb1, hwl, hwm]
            rw [if_neg ht1]
            simp only [Sem.run_bind, run_askRoom, Result.andThen_ok, sizeOf_run (hT e j hj)]
            by_cases h4 : mv.toNat * j.size = 0
            · rw [if_pos h4]
              have e0 : Array.range 0 = #[] := rfl
              simp only [Sem.run_pure, Result.andThen_ok, Sem.run_bind, newRow, run_newObj, h4, madeCells, e0, Array.map_empty]
              rfl
            · rw [if_neg h4]
              simp only [Sem.run_bind, zero_run (hT e j hj), Sem.run_pure, Result.andThen_ok, newRow, run_newObj, ← hmade]
              rfl
      · exact h.elim
    · exact h.elim
  case slice t x lo hi mx =>
    exact Done.of hr rfl (slice_run hT hr h (hf x) (OR_map hf lo) (OR_map hf hi) (OR_map hf mx))
  case fieldAddr s x m =>
    split at h
    · rename_i fs eqk hs
      split at h
      · rename_i off t bl hm
        split at h
        · rename_i i hi
          cases hz : Nat.beq i.size 0 with
          | true => simp [hz] at h
          | false =>
            simp only [hz, cond_false] at h
            have hx := hf x
            split at h
            · rename_i p o he
              rw [he] at hx
              simp only [VR] at hx
              obtain ⟨b, hb, hv⟩ := hx
              have := fieldAt_run (P := P) hT hs rfl hm hi hz ⟨b.block, b.off + o, none⟩ X.w
              refine Done.same (v := .pointer (some ⟨b.block, b.off + (o + off), none⟩)) hr h ?_ (by simp only [VR]; exact ⟨b, hb, rfl⟩)
              simp [execOp, hv, this, add_spot, Nat.add_assoc]
            · rename_i cells he
              rw [he] at hx
              simp only [VR] at hx
              obtain ⟨ad, hv, hs', hc⟩ := hx
              have := fieldAt_run (P := P) hT hs rfl hm hi hz ad X.w
              refine Done.same (v := .pointer (some (ad.add off))) hr h (by simp [execOp, hv, this]) ?_
              simp only [VR]
              exact ⟨_, rfl, by rw [add_spot _ _ hs'], by simpa using (VC.drop off hc).shift hs'⟩
            · exact h.elim
        · exact h.elim
      · exact h.elim
    · exact h.elim
  case field s x m =>
    split at h
    · rename_i fs eqk hs
      split at h
      · rename_i off t bl cs hm hx
        split at h
        · rename_i i hi
          have hv := hf x
          rw [hx] at hv
          exact Done.of hr rfl (field_run hT hs rfl hm hi (K := fun c => K c H) hv h)
        · exact h.elim
      · exact h.elim
    · exact h.elim
  case indexAddr t x ix => exact Done.of hr rfl (indexAddr_run hT h (hf x) (hf ix))
  case index t x ix =>
    split at h
    · rename_i ti i ht hi
      obtain ⟨k, hix⟩ := intOf_VR hi (hf ix)
      split at h
      · rename_i s hd hx
        have hv := hf x
        rw [hx, VR_string] at hv
        obtain ⟨⟨h0, h1⟩, hk⟩ := h
        have hu := und_str (hT t ti ht) hd
        have hlen : s.data.toList.length = s.size := by rw [Array.length_toList]; rfl
        have hlt : i.toNat < s.size := by omega
        refine Done.same hr hk (v := .int .u8 ((s.data.toList.getD i.toNat 0).toNat : Nat)) ?_ (VR_int.2 rfl)
        have hb : s[i.toNat]? = some (s.data.toList.getD i.toNat 0) := by
          rw [List.getD_eq_getElem?_getD, List.getElem?_eq_getElem (show i.toNat < s.data.toList.length by omega)]
          rw [getElem?_pos s i.toNat hlt]
          rfl
        simp only [execOp, Instr.index, hix, hv, asIntOf, Sem.run_bind, Sem.run_pure, Result.andThen_ok, run_underlying hu, if_pos h0, hb]
      · rename_i m e cs hd hx
        have hv := hf x
        rw [hx] at hv
        have hv' := hv
        simp only [VR] at hv
        obtain ⟨ds, hds, hl⟩ := hv
        have hu := und_arr (hT t ti ht) hd
        split at h
        · rename_i j hj
          obtain ⟨⟨h0, h1⟩, hk⟩ := h
          have key : ∃ a, K a H ∧ (bif j.d.agg then some (AV.agg ((cs.drop (i.toNat * j.size)).take j.size)) else nth cs (i.toNat * j.size)) = some a := by
            cases hd' : j.d.agg with
            | true => simp only [hd', If] at hk; exact ⟨_, hk, rfl⟩
            | false =>
              simp only [hd', If] at hk
              obtain ⟨c, hc, hk⟩ := optK_elim hk
              exact ⟨c, hk, hc⟩
          obtain ⟨a, hk, ha⟩ := key
          obtain ⟨u, h4, h5⟩ := part_run (hT e j hj) hl (i.toNat * j.size) ha X.w
          refine Done.same (v := u) hr hk ?_ h5
          simp only [execOp, Instr.index, hix, hds, asIntOf, Sem.run_bind, Sem.run_pure, Result.andThen_ok, run_underlying hu]
          rw [if_pos (show 0 ≤ i ∧ i < (m : Int) from ⟨h0, h1⟩)]
          simp [sizeOf_run (hT e j hj), h4]
        · exact h.elim
      · exact h.elim
    · exact h.elim
  case typeAssert x xt t ok =>
    split at h
    · exact h.elim
    · rename_i i hne hi
      obtain ⟨d, hu, hni⟩ := not_iface (hT t i hi) (fun he => hne i.size i.bytes i.zero i.eqOk (by cases i; simp at he; subst he; rfl))
      have hz := zero_run (hT t i hi) X.w
      have hx := hf x
      split at h
      · rename_i u v he
        rw [he] at hx
        obtain ⟨hv, _⟩ := VR_iface hx
        cases hq : Nat.beq u t with
        | true =>
          simp only [hq, cond_true] at h
          have := Nat.eq_of_beq_eq_true hq
          subst this
          cases ok with
          | true =>
            refine Done.same (v := .tuple #[v, .bool true]) hr h ?_ (by simp only [cond_true, VR]; exact ⟨_, rfl, by simp only [VL]; exact ⟨VR_ofV, VR_bool.2 rfl, trivial⟩⟩)
            cases d <;> first
              | exact absurd rfl (hni _)
              | simp [execOp, Instr.typeAssert, run_underlying hu, hv]
          | false =>
            refine Done.same (v := v) hr h ?_ VR_ofV
            cases d <;> first
              | exact absurd rfl (hni _)
              | simp [execOp, Instr.typeAssert, run_underlying hu, hv]
        | false =>
          simp only [hq, cond_false] at h
          have hne' : u ≠ t := fun he' => by subst he'; simp at hq
          cases ok with
          | true =>
            simp only [cond_true] at h
            refine Done.same (v := .tuple #[i.zero, .bool false]) hr h ?_ (by simp only [VR]; exact ⟨_, rfl, by simp only [VL]; exact ⟨VR_ofV, VR_bool.2 rfl, trivial⟩⟩)
            cases d <;> first
              | exact absurd rfl (hni _)
              | simp [execOp, Instr.typeAssert, run_underlying hu, hv, hne', hz]
          | false => exact h.elim
      · rename_i he
        rw [he, VR_nilIface] at hx
        cases ok with
        | true =>
          simp only [cond_true] at h
          refine Done.same (v := .tuple #[i.zero, .bool false]) hr h ?_ (by simp only [VR]; exact ⟨_, rfl, by simp only [VL]; exact ⟨VR_ofV, VR_bool.2 rfl, trivial⟩⟩)
          cases d <;> first
            | exact absurd rfl (hni _)
            | simp [execOp, Instr.typeAssert, run_underlying hu, hx, hz]
        | false => exact h.elim
      · exact h.elim
    · exact h.elim
  case extract t m =>
    split at h
    · rename_i vs he
      have hx := hf t
      rw [he] at hx
      simp only [VR] at hx
      obtain ⟨ws, hw, hl⟩ := hx
      obtain ⟨a, ha, hk⟩ := optK_elim h
      rw [nth_eq] at ha
      obtain ⟨u, h1, h2⟩ := hl.get m a ha
      have h3 : ws[m]? = some u := by simpa using h1
      exact Done.same (v := u) hr hk (by simp [execOp, Instr.extract, hw, h3]) h2
    · exact h.elim
  case call c =>
    obtain ⟨callee, args, argTypes⟩ := c
    unfold lenA at h
    split at h
    · rename_i hc
      simp only at hc
      subst hc
      split at h
      · rename_i t x h1 h2
        have e1 : argTypes = #[t] := by simpa using congrArg List.toArray h1
        have e2 : args = #[x] := by simpa using congrArg List.toArray h2
        subst e1 e2
        unfold lenOf at h
        split at h
        · rename_i i hi
          have key : ∀ (m : Nat), (Builtin.len_ #[t] type #[ρ x]).run P X.w = .ok (goInt m) X.w → K (.sc (.int .i64 m)) H → Done P X H n { dst := dst, op := Op.call { callee := .builtin .len, args := #[x], argTypes := #[t] }, type := type, pos := pos, after := after, guard := guard } ρ K := fun m hm hk =>
            Done.same (v := goInt m) hr hk (by simp [execOp, resolve, invoke, builtin, hm]) (VR_int.2 rfl)
          have hx := hf x
          split at h
          · rename_i s hd he
            rw [he, VR_string] at hx
            exact key _ (by simp [Builtin.len_, run_underlying (und_str (hT t i hi) hd), hx]) h
          · rename_i e hd he
            rw [he] at hx
            simp only [VR, ScR] at hx
            have hu := und_slice (hT t i hi) hd
            rcases hx with ⟨_, h3 | ⟨_, a', h3⟩⟩
            · exact key 0 (by simp [Builtin.len_, run_underlying hu, h3]) h
            · exact key 0 (by simp [Builtin.len_, run_underlying hu, h3]) h
          · rename_i e len cells hd he
            rw [he] at hx
            simp only [VR] at hx
            obtain ⟨a', c, h3, _⟩ := hx
            exact key len (by simp [Builtin.len_, run_underlying (und_slice (hT t i hi) hd), h3]) h
          · rename_i e p off len sz hd he
            rw [he] at hx
            simp only [VR] at hx
            obtain ⟨b, o, c, cells, e', _, h3, _⟩ := hx
            exact key len (by simp [Builtin.len_, run_underlying (und_slice (hT t i hi) hd), h3]) h
          · rename_i k e p hd he
            rw [he] at hx
            simp only [VR] at hx
            obtain ⟨b, hb, h3⟩ := hx
            split at h
            · rename_i es hp
              rw [nth_eq] at hp
              obtain ⟨es', clock, h4, h5⟩ := hr.mp p es b hp hb
              have hlen := EntR.length h5
              exact key es.length (by simp [Builtin.len_, run_underlying (und_map (hT t i hi) hd), h3, getObj, Sem.run, h4, hlen]) h
            · exact h.elim
          · exact h.elim
        · exact h.elim
      · exact h.elim
    · rename_i hc
      simp only at hc
      subst hc
      unfold most at h
      split at h
      · rename_i x y h1
        have e1 : args = #[x, y] := by simpa using congrArg List.toArray h1
        subst e1
        split at h
        · rename_i k a k' b hx hy
          have ex := hf x
          have ey := hf y
          rw [hx, VR_int] at ex
          rw [hy, VR_int] at ey
          exact Done.same (v := .int k (if b > a then b else a)) hr h (by simp [execOp, resolve, invoke, builtin, Builtin.max_, Builtin.max2, ex, ey]) (VR_int.2 rfl)
        · exact h.elim
      · exact h.elim
    · rename_i hc
      simp only at hc
      subst hc
      unfold most at h
      split at h
      · rename_i x y h1
        have e1 : args = #[x, y] := by simpa using congrArg List.toArray h1
        subst e1
        split at h
        · rename_i k a k' b hx hy
          have ex := hf x
          have ey := hf y
          rw [hx, VR_int] at ex
          rw [hy, VR_int] at ey
          exact Done.same (v := .int k (if b < a then b else a)) hr h (by simp [execOp, resolve, invoke, builtin, Builtin.min_, Builtin.min2, ex, ey]) (VR_int.2 rfl)
        · exact h.elim
      · exact h.elim
    · exact h.elim
  all_goals exact h.elim
end
end Go.Proofs.Ytpjjfcgmckpboaa.A
