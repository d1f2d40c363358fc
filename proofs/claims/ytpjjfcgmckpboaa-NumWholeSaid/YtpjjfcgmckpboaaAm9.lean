/- One operation's abstract step is the model's step: conversions, literals, and the whole of what calls nothing. No condition. -/
import Derived.Test.YtpjjfcgmckpboaaAm8
import Derived.Laws.BytesArg
import Derived.Lib.ConvBytes
import Derived.Laws.MakeOwn
namespace Go.Proofs.Ytpjjfcgmckpboaa.A
open Go
set_option linter.unusedVariables false
set_option linter.unusedSimpArgs false

section
variable {P : Program} {T : Tab} {X : Ctx} {H : Heap}

/-- A new block that nobody writes any more. -/
theorem Step.frozen {w' : World} (h : HR X H) (hsz : X.w.heap.size ≤ w'.heap.size) (hold : ∀ b, b < X.w.heap.size → w'.heap[b]? = X.w.heap[b]?) (G : Nat → Prop) (hG : ∀ b, G b → X.w.heap.size ≤ b ∧ b < w'.heap.size)
    (hos : w'.os = X.w.os) (ht : w'.tape = X.w.tape) (hu : w'.output = X.w.output) : Step X H ⟨X.φ, fun b => X.F b ∨ G b, w'⟩ H := by
  have hle : Le X ⟨X.φ, fun b => X.F b ∨ G b, w'⟩ := ⟨fun i b hb => hb, fun b hb => .inl hb, fun b hb => hold b (h.fl b hb), fun b cells e fr hb => ⟨cells, (hold b (Array.getElem?_eq_some_iff.1 hb).1).trans hb, rfl⟩⟩
  refine ⟨⟨?_, ?_, ?_, ?_, ?_, ?_⟩, hle, ⟨hsz, fun b hb _ => hold b hb, hle.shape, fun b hb => .inl hb, fun b hb => .inl hb, fun b hb => ?_, hos, ht, hu⟩, Nat.le_refl _⟩
  · intro i b hb
    obtain ⟨h1, h2, h3⟩ := h.lt i b hb
    exact ⟨h1, h2, Nat.lt_of_lt_of_le h3 hsz⟩
  · intro i cs b hi hb; exact (h.row i cs b hi hb).mono hle (hold _ (h.lt i b hb).2.2)
  · intro i es b hi hb; exact (h.mp i es b hi hb).mono hle (hold _ (h.lt i b hb).2.2)
  · exact h.sep
  · intro i b hi hb hF
    rcases hF with hF | hF
    · exact h.fz i b hi hb hF
    · have := (h.lt i b hb).2.2
      have := (hG _ hF).1
      omega
  · intro b hF
    rcases hF with hF | hF
    · exact Nat.lt_of_lt_of_le (h.fl b hF) hsz
    · exact (hG b hF).2
  · rcases hb with hb | hb
    · exact .inl hb
    · exact .inr (.inr (hG b hb).1)

theorem bytes_run_view (hr : HR X H) {src dst e : TypeId} {u : TypeDesc} (hs : P.underlying src = some u) (hd : P.underlying dst = some (.slice e)) (he : P.underlying e = some (.int .u8)) (s : ByteArray) {n : Nat} {o : Oper} {ρ : Operand → Value} {K : AV → Heap → Prop}
    (hk : K (.view s.size (bytesA s)) H) (ho : execOp ρ o = (do pure (.value (← convert src dst (.string s))))) : Done P X H n o ρ K := by
  have hY : HR X H → Step X H ⟨X.φ, fun b => X.F b ∨ b = X.w.heap.size, Lib.bytesWorld X.w e s⟩ H := fun h =>
    Step.frozen h (by rw [Lib.bytesWorld_size]; omega) (fun b hb => Lib.bytesWorld_at_old X.w e s b hb) (fun b => b = X.w.heap.size) (fun b hb => by rw [Lib.bytesWorld_size]; omega) rfl rfl rfl
  refine ⟨_, H, ⟨X.φ, fun b => X.F b ∨ b = X.w.heap.size, Lib.bytesWorld X.w e s⟩, .slice (some ⟨X.w.heap.size, 0, none⟩) s.size (grownCap X.w s.size 0 e), _, hk, ?_, .inl rfl, ?_, hY hr, fun _ _ => rfl⟩
  · rw [ho]
    simp [Lib.run_convert_string_bytes X.w src dst e s hs hd he]
  · simp only [VR]
    refine ⟨_, _, rfl, ?_, .inr ⟨_, rfl, rfl⟩, ?_⟩
    · unfold grownCap
      simp [Question.cut]
    · refine VC.of_get (ad := ⟨X.w.heap.size, 0, none⟩) rfl (Or.inr rfl : X.F X.w.heap.size ∨ X.w.heap.size = X.w.heap.size) fun i c hc => ?_
      unfold bytesA at hc
      rw [List.getElem?_map] at hc
      have hlen : s.data.toList.length = s.size := by rw [Array.length_toList]; rfl
      rcases Nat.lt_or_ge i s.size with hi | hi
      · rw [List.getElem?_eq_getElem (by omega)] at hc
        simp only [Option.map_some, Option.some.injEq] at hc
        subst hc
        have hcell := Lib.bytesWorld_cell X.w e s i hi
        refine ⟨.int .u8 (s.data.toList.getD i 0).toNat, ?_, ?_⟩
        · rw [show 0 + (0 + i) = i by omega]
          exact hcell
        · rw [VR_int, List.getD_eq_getElem?_getD, List.getElem?_eq_getElem (show i < s.data.toList.length by omega)]
          rfl
      · rw [List.getElem?_eq_none (by omega)] at hc
        cases hc

theorem textA_cells : ∀ {cs : List AV} {l : List UInt8}, textA cs = some l → ∃ ns : List Int, cs = ns.map (fun n => AV.sc (.int .u8 n)) ∧ l = ns.map fun n => UInt8.ofNat n.toNat
  | [], l, h => by simp [textA] at h; exact ⟨[], rfl, by simp [h]⟩
  | .sc (.int .u8 n) :: cs, l, h => by
    simp only [textA] at h
    cases hq : textA cs with
    | none => rw [hq] at h; cases h
    | some l' =>
      rw [hq] at h
      simp only [Option.map_some, Option.some.injEq] at h
      obtain ⟨ns, rfl, rfl⟩ := textA_cells hq
      exact ⟨n :: ns, rfl, by simp [← h]⟩
  | .junk :: _, _, h => by simp [textA] at h
  | .nan _ :: _, _, h => by simp [textA] at h
  | .ptr _ _ :: _, _, h => by simp [textA] at h
  | .slc _ _ _ _ :: _, _, h => by simp [textA] at h
  | .vp _ :: _, _, h => by simp [textA] at h
  | .view _ _ :: _, _, h => by simp [textA] at h
  | .mapr _ :: _, _, h => by simp [textA] at h
  | .fn _ _ :: _, _, h => by simp [textA] at h
  | .agg _ :: _, _, h => by simp [textA] at h
  | .tup _ :: _, _, h => by simp [textA] at h
  | .sc v :: cs, l, h => by
    cases v with
    | int k n =>
      cases k <;> first
        | (simp [textA] at h; done)
        | (simp only [textA] at h
           cases hq : textA cs with
           | none => rw [hq] at h; cases h
           | some l' =>
             rw [hq] at h
             simp only [Option.map_some, Option.some.injEq] at h
             obtain ⟨ns, rfl, rfl⟩ := textA_cells hq
             exact ⟨n :: ns, rfl, by simp [← h]⟩)
    | _ => simp [textA] at h

/-- What is read of a source of cells. -/
theorem srcA_cells (hr : HR X H) {sz : Nat} {a : AV} {v : Value} {cs : List AV} (h : srcA H sz a = some cs) (ha : VR X a v) :
    (∃ s, v = .string s ∧ a = .sc (.string s) ∧ sz = 1 ∧ cs = bytesA s) ∨ (∃ b o len c, v = .slice (some ⟨b, o, none⟩) len c ∧ len ≤ c ∧ cs.length = len * sz ∧ ∀ (j : Nat) (x : AV), cs[j]? = some x → ∃ u, X.w.cell? ⟨b, o + j, none⟩ = some u ∧ VR X x u) ∨
    (∃ a c, v = .slice a 0 c ∧ cs = []) := by
  unfold srcA at h
  split at h
  · rename_i s
    rw [VR_string] at ha
    cases hb : Nat.beq sz 1 with
    | false => simp [hb] at h
    | true =>
      simp only [hb, cond_true, Option.some.injEq] at h
      exact .inl ⟨s, ha, rfl, Nat.eq_of_beq_eq_true hb, h.symm⟩
  · simp only [Option.some.injEq] at h
    subst h
    simp only [VR, ScR] at ha
    rcases ha with ⟨_, rfl | ⟨_, a', rfl⟩⟩
    · exact .inr (.inr ⟨_, _, rfl, rfl⟩)
    · exact .inr (.inr ⟨_, _, rfl, rfl⟩)
  · rename_i len cells
    cases hb : Nat.beq cells.length (len * sz) with
    | false => simp [hb] at h
    | true =>
      simp only [hb, cond_true, Option.some.injEq] at h
      subst h
      have hl : cells.length = len * sz := Nat.eq_of_beq_eq_true hb
      simp only [VR] at ha
      obtain ⟨a', c, rfl, hlc, hn, hc⟩ := ha
      rcases hn with rfl | ⟨ad, rfl, hs⟩
      · rw [Nat.zero_mul] at hl
        exact .inr (.inr ⟨_, _, rfl, List.eq_nil_of_length_eq_zero hl⟩)
      · obtain ⟨b, o, s⟩ := ad
        simp at hs
        subst hs
        exact .inr (.inl ⟨b, o, len, c, rfl, hlc, hl, fun j x hx => by simpa using hc.gets rfl j x hx⟩)
  · rename_i p off len sz'
    cases hb : Nat.beq sz sz' with
    | false => simp [hb] at h
    | true =>
      simp only [hb, cond_true] at h
      have := Nat.eq_of_beq_eq_true hb
      subst this
      simp only [VR] at ha
      obtain ⟨b, o, c, cells, e, hφ, rfl, hlc, ho, hh, hsz⟩ := ha
      obtain ⟨h1, h2⟩ := rdN_get hr hφ h
      rcases Nat.eq_zero_or_pos len with h0 | h0
      · subst h0
        rw [Nat.zero_mul] at h1
        exact .inr (.inr ⟨_, _, rfl, List.eq_nil_of_length_eq_zero h1⟩)
      · have := ho h0
        subst this
        exact .inr (.inl ⟨_, _, _, _, rfl, hlc, h1, h2⟩)
  · cases h

theorem not_str {sz : Nat} {a : AV} {v : Value} {cs : List AV} (h : srcA H sz a = some cs) (hq : isStr a = false) (ha : VR X a v) (s : ByteArray) : v ≠ .string s := by
  rintro rfl
  unfold srcA at h
  split at h
  · cases hq
  · simp [VR, ScR] at ha
  · simp [VR] at ha
  · simp [VR] at ha
  · cases h
theorem str_run (hT : TOk P T) (hr : HR X H) {src dst e : TypeId} (hs : P.underlying src = some (.slice e)) (he : P.underlying e = some (.int .u8)) (hd : P.underlying dst = some .string) {a : AV} {v : Value} {cs : List AV} {l : List UInt8}
    (h1 : srcA H 1 a = some cs) (h2 : textA cs = some l) (ha : VR X a v) (hnv : ∀ s, v ≠ .string s) : (convert src dst v).run P X.w = .ok (.string ⟨l.toArray⟩) X.w := by
  obtain ⟨ns, rfl, rfl⟩ := textA_cells h2
  rcases srcA_cells hr h1 ha with ⟨s, rfl, _, _, _⟩ | ⟨b, o, len, c, rfl, hlc, hl, hg⟩ | ⟨a', c, rfl, hz⟩
  · exact absurd rfl (hnv s)
  · simp only [List.length_map, Nat.mul_one] at hl
    have := run_convert_bytes_arg (P := P) X.w src e hs he b o len c ns hl (fun i hi => by
      obtain ⟨u, h3, h4⟩ := hg i (.sc (.int .u8 (ns.getD i 0))) (by rw [List.getElem?_map, List.getElem?_eq_getElem (by omega)]; simp [List.getD_eq_getElem?_getD, List.getElem?_eq_getElem (show i < ns.length by omega)])
      rw [VR_int] at h4
      rw [h3, h4]) dst hd
    rw [this]
    rfl
  · have hn : ns = [] := by simpa using hz
    subst hn
    cases a' with
    | none => rw [run_convert_bytes_nil X.w src e hs he 0 c dst hd]; rfl
    | some ad =>
      simp [convert, run_underlying hs, run_underlying hd, run_underlying he, Conv.bytesToString, loadCells, loadCellsFrom]
      rfl

theorem go_run : ∀ {cs : List AV} {l xs : List Value}, plainOf.go cs = some l → VL X cs xs → xs = l ∧ l.all plainS = true
  | [], l, xs, h, hv => by
    simp [plainOf.go] at h
    cases xs with
    | nil => exact ⟨h.symm, by rw [h]; rfl⟩
    | cons _ _ => simp [VL] at hv
  | c :: cs, l, xs, h, hv => by
    cases xs with
    | nil => simp [VL] at hv
    | cons x xs =>
      simp only [VL] at hv
      unfold plainOf.go at h
      split at h
      · rename_i heq; cases heq
      · rename_i v cs' heq
        injection heq with h1 h2
        subst h1 h2
        cases hp : plainI v with
        | false => simp [hp] at h
        | true =>
          simp only [hp, cond_true] at h
          cases hq : plainOf.go cs with
          | none => rw [hq] at h; cases h
          | some l' =>
            rw [hq] at h
            simp only [Option.map_some, Option.some.injEq] at h
            obtain ⟨rfl, h3⟩ := go_run hq hv.2
            have hx : x = v := by
              have := hv.1
              simp only [VR, ScR] at this
              rcases this with ⟨_, h4 | ⟨h4, _⟩⟩
              · exact h4
              · subst h4; cases hp
            subst hx
            refine ⟨h, ?_⟩
            rw [← h]
            simp [plainI_S hp, h3]
      · cases h
theorem plainOf_run {a : AV} {x v : Value} {t : TypeId} (h : plainOf a = some v) (ha : VR X a x) : x = v ∧ plain (.iface t v) = true := by
  unfold plainOf at h
  split at h
  · rename_i s
    cases hp : plainI s with
    | false => simp [hp] at h
    | true =>
      simp only [hp, cond_true, Option.some.injEq] at h
      subst h
      simp only [VR, ScR] at ha
      rcases ha with ⟨_, h4 | ⟨h4, _⟩⟩
      · refine ⟨h4, ?_⟩
        cases s <;> first | rfl | (simp [plainI] at hp; done) | (simp [plain]; exact plainI_S hp)
      · subst h4; cases hp
  · rename_i cs
    cases hq : plainOf.go cs with
    | none => rw [hq] at h; cases h
    | some l =>
      rw [hq] at h
      simp only [Option.map_some, Option.some.injEq] at h
      subst h
      simp only [VR] at ha
      obtain ⟨xs, rfl, hl⟩ := ha
      obtain ⟨h1, h2⟩ := go_run hq hl
      refine ⟨by rw [← h1], ?_⟩
      simpa [plain] using h2
  · cases h

theorem zeros_get {z : Value} : ∀ {n k : Nat} {c : AV}, (zerosA z n)[k]? = some c → k < n * z.cells.size ∧ ∃ h : k % z.cells.size < z.cells.size, c = ofC (z.cells[k % z.cells.size]'h)
  | 0, k, c, h => by simp [zerosA] at h
  | n + 1, k, c, h => by
    have e : zerosA z (n + 1) = z.cells.toList.map ofC ++ zerosA z n := by simp [zerosA, List.replicate_succ]
    rw [e] at h
    rcases Nat.lt_or_ge k z.cells.size with hk | hk
    · rw [List.getElem?_append_left (by simpa using hk), List.getElem?_map, List.getElem?_eq_getElem (by simpa using hk)] at h
      simp only [Option.map_some, Option.some.injEq] at h
      refine ⟨by rw [Nat.add_mul]; omega, by rw [Nat.mod_eq_of_lt hk]; exact hk, ?_⟩
      rw [← h]
      simp [Nat.mod_eq_of_lt hk]
    · rw [List.getElem?_append_right (by simpa using hk)] at h
      simp only [List.length_map, Array.length_toList] at h
      obtain ⟨h1, h2, h3⟩ := zeros_get h
      have hm : (k - z.cells.size) % z.cells.size = k % z.cells.size := by rw [Nat.mod_eq_sub_mod hk]
      refine ⟨by rw [Nat.add_mul]; omega, hm ▸ h2, ?_⟩
      rw [h3]
      simp only [hm]
theorem zeros_length (z : Value) (n : Nat) : (zerosA z n).length = n * z.cells.size := by
  simp [zerosA]
theorem zeros_made {z : Value} {n m k : Nat} {c : AV} (h : (zerosA z n)[k]? = some c) (hm : n * z.cells.size ≤ m) : ∃ u, (madeCells z.cells m)[k]? = some u ∧ VR X c u := by
  obtain ⟨h1, h2, rfl⟩ := zeros_get h
  refine ⟨z.cells[k % z.cells.size], ?_, VR_ofC⟩
  rw [madeCells, Array.getElem?_map, Array.getElem?_range]
  rw [if_pos (by omega)]
  simp [h2]

theorem places_run (hT : TOk P T) : ∀ {gs : List Field} {pl : List (Nat × Nat)}, placesA T (gs.map fun f => (f.offset, f.type, f.name == "_")) = some pl → ∀ w : World,
    (gs.mapM (m := Sem) fun f => do pure (f.offset, ← sizeOf f.type)).run P w = .ok pl w
  | [], pl, h, w => by simp [placesA] at h; subst h; simp
  | g :: gs, pl, h, w => by
    simp only [List.map_cons, placesA] at h
    split at h
    · rename_i i r hi hq
      simp only [Option.some.injEq] at h
      subst h
      have ih := places_run hT hq w
      simp only [List.mapM_cons, Sem.run_bind, sizeOf_run (hT _ _ hi), Result.andThen_ok, Sem.run_pure, ih]
    · cases h
end
end Go.Proofs.Ytpjjfcgmckpboaa.A
