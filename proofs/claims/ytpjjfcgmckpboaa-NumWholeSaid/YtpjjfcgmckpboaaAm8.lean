/- One operation's abstract step is the model's step: cuts, texts, and made rows. No condition. -/
import Derived.Test.YtpjjfcgmckpboaaAm7
namespace Go.Proofs.Ytpjjfcgmckpboaa.A
open Go
set_option linter.unusedVariables false
set_option linter.unusedSimpArgs false

section
variable {P : Program} {T : Tab} {X : Ctx} {H : Heap}

def BR (o : Option Value) (d i : Int) : Prop := (o = none ∧ i = d) ∨ ∃ k, o = some (.int k i)
def OR (X : Ctx) : Option AV → Option Value → Prop
  | none, none => True
  | some a, some v => VR X a v
  | _, _ => False
theorem intO_BR {o : Option AV} {o' : Option Value} {d i : Int} (h : intO o d = some i) (hr : OR X o o') : BR o' d i := by
  cases o with
  | none =>
    cases o' with
    | none => simp [intO] at h; exact .inl ⟨rfl, h.symm⟩
    | some _ => exact hr.elim
  | some a =>
    cases o' with
    | none => exact hr.elim
    | some v =>
      obtain ⟨k, rfl⟩ := intOf_VR h hr
      exact .inr ⟨k, rfl⟩
theorem bounds_run (isS : Bool) {len cap : Nat} {lo hi : Option Value} {l h : Int} (hl : BR lo 0 l) (hh : BR hi len h) (h0 : 0 ≤ l) (h1 : l ≤ h) (h2 : h ≤ cap) (w : World) :
    (Instr.sliceBounds isS len cap lo hi none).run P w = .ok (l.toNat, h.toNat, cap) w := by
  have eh : (h.toNat : Int) = h := Int.toNat_of_nonneg (by omega)
  rcases hl with ⟨rfl, rfl⟩ | ⟨k, rfl⟩ <;> rcases hh with ⟨rfl, rfl⟩ | ⟨k', rfl⟩
  · simp [Instr.sliceBounds]
  · simp [Instr.sliceBounds, run_sliceBound, h2, h1]
  · simp [Instr.sliceBounds, run_sliceBound, h0, h1]
  · simp [Instr.sliceBounds, run_sliceBound, h2, h0, h1, eh, (by omega : 0 ≤ h)]
theorem bounds_zero (isS : Bool) {len cap : Nat} {k k' : IntKind} (w : World) :
    (Instr.sliceBounds isS len cap none (some (.int k 0)) (some (.int k' 0))).run P w = .ok (0, 0, 0) w := by
  simp [Instr.sliceBounds, run_sliceBound]

theorem slice_run (hT : TOk P T) (hr : HR X H) {t : TypeId} {a : AV} {x : Value} {lo hi mx : Option AV} {lo' hi' mx' : Option Value} {K : AV → Prop} (h : sliceA T H t a lo hi mx K)
    (ha : VR X a x) (hlo : OR X lo lo') (hhi : OR X hi hi') (hmx : OR X mx mx') : ∃ c u, K c ∧ (Instr.sliceAt t x lo' hi' mx').run P X.w = .ok u X.w ∧ VR X c u := by
  unfold sliceA at h
  split at h
  · rename_i s
    rw [VR_string] at ha
    subst ha
    split at h
    · rename_i l hh el eh ht
      obtain ⟨⟨h0, h1, h2⟩, hk⟩ := h
      cases mx' with
      | some _ => exact hmx.elim
      | none =>
        have hu := und_str (hT t _ ht) rfl
        have hb := bounds_run (P := P) false (intO_BR el hlo) (intO_BR eh hhi) h0 h1 h2 X.w
        refine ⟨_, _, hk, ?_, VR_string.2 rfl⟩
        simp [Instr.sliceAt, Instr.slice, run_underlying hu, hb]
    · exact h.elim
  · rename_i len cells
    split at h
    · rename_i e eqk ht
      have hu : P.underlying t = some (.slice e) := und_slice (hT t _ ht) rfl
      simp only [VR] at ha
      obtain ⟨a', c, rfl, hlc, hn, hc⟩ := ha
      split at h
      · rename_i i l hh hi' el eh
        obtain ⟨⟨h0, h1, h2⟩, hk⟩ := h
        cases mx' with
        | some _ => exact hmx.elim
        | none =>
          have hb := bounds_run (P := P) (cap := c) true (intO_BR el hlo) (intO_BR eh hhi) h0 h1 (by omega) X.w
          refine ⟨_, .slice (if c = l.toNat then a' else a'.map (·.add (l.toNat * i.size))) (hh.toNat - l.toNat) (c - l.toNat), hk, ?_, ?_⟩
          · simp [Instr.sliceAt, Instr.slice, run_underlying hu, hb, sizeOf_run (hT e i hi')]
          · simp only [VR]
            refine ⟨_, _, rfl, by omega, ?_, ?_⟩
            · rcases Int.lt_or_eq_of_le h1 with h3 | h3
              · right
                rcases hn with hn | ⟨ad, rfl, hs⟩
                · omega
                · rw [if_neg (by omega)]
                  exact ⟨ad.add (l.toNat * i.size), rfl, by rw [add_spot _ _ hs]⟩
              · left; omega
            · rcases Int.lt_or_eq_of_le h1 with h3 | h3
              · rcases hn with hn | ⟨ad, rfl, hs⟩
                · omega
                · rw [if_neg (by omega)]
                  have := ((VC.drop (l.toNat * i.size) hc).shift (by simpa using hs)).take ((hh.toNat - l.toNat) * i.size)
                  simpa using this
              · subst h3
                simp [VC]
      · rename_i i vmA hh hi' eh
        split at h
        · rename_i m' em
          cases hq : (lo.isNone && hi.isSome && hh == 0 && m' == 0) with
          | false => simp [hq] at h
          | true =>
            simp only [hq, cond_true] at h
            simp at hq
            obtain ⟨⟨⟨rfl, hq2⟩, rfl⟩, rfl⟩ := hq
            cases lo' with
            | some _ => exact hlo.elim
            | none =>
              cases mx' with
              | none => exact hmx.elim
              | some vm =>
                obtain ⟨k, rfl⟩ := intOf_VR em hmx
                have := intO_BR eh hhi
                refine ⟨_, .slice (if 0 = 0 then a' else a'.map (·.add (0 * i.size))) (0 - 0) (0 - 0), h, ?_, ?_⟩
                · rcases this with ⟨rfl, hz⟩ | ⟨k', rfl⟩
                  · cases hi with
                    | none => cases hq2
                    | some _ => exact hhi.elim
                  · simp [Instr.sliceAt, Instr.slice, run_underlying hu, bounds_zero, sizeOf_run (hT e i hi')]
                · simp [VR, ScR, plain, plainS]
        · exact h.elim
      · exact h.elim
    · exact h.elim
  · rename_i p off len sz
    split at h
    · rename_i e eqk ht
      have hu : P.underlying t = some (.slice e) := und_slice (hT t _ ht) rfl
      simp only [VR] at ha
      obtain ⟨b, o, c, cells, e', hφ, rfl, hlc, ho, hh', hsz⟩ := ha
      split at h
      · rename_i i l hh hi' el eh
        cases hbq : Nat.beq i.size sz with
        | false => simp [hbq] at h
        | true =>
          simp only [hbq, cond_true] at h
          have hisz : i.size = sz := Nat.eq_of_beq_eq_true hbq
          obtain ⟨⟨h0, h1, h2⟩, hk⟩ := h
          cases mx' with
          | some _ => exact hmx.elim
          | none =>
            have hb := bounds_run (P := P) (cap := c) true (intO_BR el hlo) (intO_BR eh hhi) h0 h1 (by omega) X.w
            refine ⟨_, .slice (some ⟨b.block, if c = l.toNat then o else o + l.toNat * sz, none⟩) (hh.toNat - l.toNat) (c - l.toNat), hk, ?_, ?_⟩
            · simp [Instr.sliceAt, Instr.slice, run_underlying hu, hb, sizeOf_run (hT e i hi'), hisz]
              split
              · rfl
              · rw [add_spot _ _ rfl]
            · simp only [VR]
              refine ⟨b, _, _, cells, e', hφ, rfl, by omega, fun h3 => ?_, hh', ?_⟩
              · rw [if_neg (by omega), ho (by omega)]
                omega
              · split
                · rename_i h3
                  rw [h3, Nat.sub_self, Nat.zero_mul]
                  omega
                · have : o + l.toNat * sz + (c - l.toNat) * sz = o + c * sz := by
                    rw [Nat.add_assoc, ← Nat.add_mul, Nat.add_sub_cancel' (by omega)]
                  omega
      · rename_i i vmA hh hi' eh
        split at h
        · rename_i m' em
          cases hq : (lo.isNone && hi.isSome && hh == 0 && m' == 0) with
          | false => simp [hq] at h
          | true =>
            simp only [hq, cond_true] at h
            simp at hq
            obtain ⟨⟨⟨rfl, hq2⟩, rfl⟩, rfl⟩ := hq
            cases lo' with
            | some _ => exact hlo.elim
            | none =>
              cases mx' with
              | none => exact hmx.elim
              | some vm =>
                obtain ⟨k, rfl⟩ := intOf_VR em hmx
                have := intO_BR eh hhi
                refine ⟨_, .slice (some ⟨b.block, o, none⟩) (0 - 0) (0 - 0), h, ?_, ?_⟩
                · rcases this with ⟨rfl, hz⟩ | ⟨k', rfl⟩
                  · cases hi with
                    | none => cases hq2
                    | some _ => exact hhi.elim
                  · simp [Instr.sliceAt, Instr.slice, run_underlying hu, bounds_zero, sizeOf_run (hT e i hi')]
                · simp [VR, ScR, plain, plainS]
        · exact h.elim
      · exact h.elim
    · exact h.elim
  · split at h
    · rename_i e eqk ht
      have hu : P.underlying t = some (.slice e) := und_slice (hT t _ ht) rfl
      split at h
      · rename_i i l hh hi' el eh
        obtain ⟨⟨rfl, rfl, rfl⟩, hk⟩ := h
        cases mx' with
        | some _ => exact hmx.elim
        | none =>
          obtain ⟨a', rfl⟩ : ∃ a', x = .slice a' 0 0 := by
            simp only [VR, ScR] at ha
            rcases ha with ⟨_, rfl | ⟨_, a', rfl⟩⟩
            · exact ⟨_, rfl⟩
            · exact ⟨_, rfl⟩
          have hb := bounds_run (P := P) (len := 0) (cap := 0) true (intO_BR el hlo) (intO_BR eh hhi) (by omega) (by omega) (by omega) X.w
          refine ⟨_, .slice a' 0 0, hk, ?_, by simp [VR, ScR, plain, plainS]⟩
          simp [Instr.sliceAt, Instr.slice, run_underlying hu, hb, sizeOf_run (hT e i hi')]
      · exact h.elim
    · exact h.elim
  · rename_i p off
    split at h
    · rename_i n e eqk ht
      have hu : P.underlying t = some (.array n e) := und_arr (hT t _ ht) rfl
      simp only [VR] at ha
      obtain ⟨b, hφ, rfl⟩ := ha
      split at h
      · rename_i i l hh hi' el eh
        split at h
        · rename_i cs hp
          cases hq : (Nat.ble (off + n * i.size) cs.length && Nat.ble 1 cs.length) with
          | false => simp [hq] at h
          | true =>
            simp only [hq, cond_true] at h
            rw [Bool.and_eq_true] at hq
            have hq1 := Nat.le_of_ble_eq_true hq.1
            have hq2 := Nat.le_of_ble_eq_true hq.2
            obtain ⟨⟨h0, h1, h2⟩, hk⟩ := h
            cases mx' with
            | some _ => exact hmx.elim
            | none =>
              rw [nth_eq] at hp
              obtain ⟨cells, e', hh', hg⟩ := hr.row p cs b hp hφ
              have hcells : b.off + cs.length ≤ cells.size := by
                obtain ⟨v, hv, _⟩ := hg (cs.length - 1) _ (List.getElem?_eq_getElem (by omega))
                have := (Array.getElem?_eq_some_iff.1 hv).1
                omega
              have hb := bounds_run (P := P) (cap := n) false (intO_BR el hlo) (intO_BR eh hhi) h0 h1 (by omega) X.w
              refine ⟨_, .slice (some ⟨b.block, if n = l.toNat then b.off + off else b.off + off + l.toNat * i.size, none⟩) (hh.toNat - l.toNat) (n - l.toNat), hk, ?_, ?_⟩
              · simp [Instr.sliceAt, Instr.sureAddr, run_underlying hu, hb, sizeOf_run (hT e i hi')]
                split
                · rfl
                · rw [add_spot _ _ rfl]
              · simp only [VR]
                refine ⟨b, _, _, cells, e', hφ, rfl, by omega, fun h3 => ?_, hh', ?_⟩
                · rw [if_neg (by omega)]
                  omega
                · split
                  · rename_i h3
                    rw [h3, Nat.sub_self, Nat.zero_mul]
                    omega
                  · have : b.off + off + l.toNat * i.size + (n - l.toNat) * i.size = b.off + off + n * i.size := by
                      rw [Nat.add_assoc _ (l.toNat * i.size), ← Nat.add_mul, Nat.add_sub_cancel' (by omega)]
                    omega
        · exact h.elim
      · exact h.elim
    · exact h.elim
  · exact h.elim
end
end Go.Proofs.Ytpjjfcgmckpboaa.A
