/- One operation's abstract step is the model's step: values, arithmetic, comparisons. No condition. -/
import Derived.Test.YtpjjfcgmckpboaaAm3
import Derived.Laws.StructEq
import Derived.Laws.Entries
namespace Go.Proofs.Ytpjjfcgmckpboaa.A
open Go
set_option linter.unusedVariables false
set_option linter.unusedSimpArgs false

section
variable {X : Ctx}
theorem VR_int {k : IntKind} {n : Int} {v : Value} : VR X (.sc (.int k n)) v ↔ v = .int k n := by simp [VR, ScR, plain, plainS]
theorem VR_bool {b : Bool} {v : Value} : VR X (.sc (.bool b)) v ↔ v = .bool b := by simp [VR, ScR, plain, plainS]
theorem VR_string {s : ByteArray} {v : Value} : VR X (.sc (.string s)) v ↔ v = .string s := by simp [VR, ScR, plain, plainS]
theorem VR_float {k : FloatKind} {b : Nat} {v : Value} : VR X (.sc (.float k b)) v ↔ v = .float k b := by simp [VR, ScR, plain, plainS]
theorem VR_nil {v : Value} : VR X (.sc (.pointer none)) v ↔ v = .pointer none := by simp [VR, ScR, plain, plainS]
theorem VR_nilIface {v : Value} : VR X (.sc .nilIface) v ↔ v = .nilIface := by simp [VR, ScR, plain, plainS]
theorem VR_iface {t : TypeId} {x : Value} {v : Value} : VR X (.sc (.iface t x)) v → v = .iface t x ∧ plain (.iface t x) = true := by
  simp only [VR, ScR]
  rintro ⟨h, h1 | ⟨h1, _⟩⟩
  · exact ⟨h1, h⟩
  · cases h1
theorem VR_ofC {v : Value} : VR X (ofC v) v := by
  unfold ofC
  cases h : plain v with
  | true => simp [VR, ScR, h]
  | false => simp [VR]
theorem VL_ofC : ∀ {vs : List Value}, VL X (vs.map ofC) vs
  | [] => by simp [VL]
  | v :: vs => by simp only [List.map_cons, VL]; exact ⟨VR_ofC, VL_ofC⟩
theorem VR_ofV : ∀ {v : Value}, VR X (ofV v) v := by
  intro v
  cases v <;> simp only [ofV] <;> first
    | exact VR_ofC
    | (simp only [VR]; exact ⟨_, rfl, VL_ofC⟩)
theorem VR_undef : VR X undefA undef := by
  simp only [undefA, undef, VR]
  exact ⟨_, rfl, by simp [VL]⟩
/-- Frames. -/
def FrR (X : Ctx) (f : Fr) (ρ : Operand → Value) : Prop := ∀ x, VR X (ev f x) (ρ x)

theorem plain_oneCell {v : Value} (h : plain v = true) : v.oneCell' = true := by
  cases v <;> first | rfl | simp [plain, plainS] at h
theorem isC_oneCell {a : AV} {v : Value} (h : isC a = true) (hv : VR X a v) : v.oneCell' = true := by
  cases a with
  | junk => cases h
  | agg _ => cases h
  | tup _ => cases h
  | sc s =>
    simp only [VR, ScR] at hv
    obtain ⟨h1, rfl | ⟨_, a, rfl⟩⟩ := hv
    · exact plain_oneCell h1
    · rfl
  | nan k => simp only [VR] at hv; obtain ⟨b, rfl, _⟩ := hv; rfl
  | ptr i o => simp only [VR] at hv; obtain ⟨b, _, rfl⟩ := hv; rfl
  | slc i o l s => simp only [VR] at hv; obtain ⟨b, o, c, cells, e, _, rfl, _⟩ := hv; rfl
  | vp c => simp only [VR] at hv; obtain ⟨b, rfl, _⟩ := hv; rfl
  | view l c => simp only [VR] at hv; obtain ⟨b, c, rfl, _⟩ := hv; rfl
  | mapr i => simp only [VR] at hv; obtain ⟨b, _, rfl⟩ := hv; rfl
  | fn f c => simp only [VR] at hv; obtain ⟨b, rfl, _⟩ := hv; rfl
theorem allC_get : ∀ {l : List AV} {i : Nat} {a : AV}, allC l = true → l[i]? = some a → isC a = true
  | [], _, _, _, h => by simp at h
  | x :: xs, 0, a, h, e => by
    simp at e
    subst e
    cases hx : isC x with
    | true => rfl
    | false => simp [allC, hx] at h
  | x :: xs, i + 1, a, h, e => by
    simp at e
    cases hx : isC x with
    | true => simp [allC, hx] at h; exact allC_get h e
    | false => simp [allC, hx] at h
theorem allC_oneCells {l : List AV} {vs : List Value} (h : allC l = true) (hv : VL X l vs) : ∀ u ∈ vs, u.oneCell' = true := by
  intro u hu
  obtain ⟨i, hi, rfl⟩ := List.getElem_of_mem hu
  have hl := hv.length
  obtain ⟨v, h1, h2⟩ := hv.get i l[i] (by simp [List.getElem?_eq_getElem (by omega : i < l.length)])
  rw [List.getElem?_eq_getElem hi] at h1
  obtain rfl := Option.some.inj h1
  exact isC_oneCell (allC_get (i := i) h (List.getElem?_eq_getElem (by omega))) h2
theorem cells_one {v : Value} (h : v.oneCell' = true) : v.cells = #[v] := by cases v <;> first | rfl | cases h
theorem cellsOf_rel {a : AV} {v : Value} {l : List AV} (h : cellsOf a = some l) (hv : VR X a v) (hc : allC l = true) : VL X l v.cells.toList := by
  cases a with
  | agg cs =>
    simp only [cellsOf] at h
    cases h
    simp only [VR] at hv
    obtain ⟨cs', rfl, hl⟩ := hv
    exact hl
  | junk => simp [cellsOf] at h
  | tup _ => simp [cellsOf] at h
  | _ =>
    simp only [cellsOf] at h
    cases h
    rw [cells_one (isC_oneCell (X := X) rfl hv)]
    simp only [VL, and_true]
    exact hv
end

/-! ### Equal values -/
section
variable {P : Program} {T : Tab} {X : Ctx}
theorem und_of {t : TypeId} {i : TI} (h : TOkAt P t i) {k : D} (hd : i.d = k) : ∃ d, P.underlying t = some d ∧ dOf d = k := by
  obtain ⟨d, h1, h2⟩ := h.und
  exact ⟨d, h1, h2.trans hd⟩
theorem und_bool {t : TypeId} {i : TI} (h : TOkAt P t i) (hd : i.d = .bool) : P.underlying t = some .bool := by
  obtain ⟨d, h1, h2⟩ := und_of h hd
  cases d <;> simp [dOf] at h2
  exact h1
theorem und_int {t : TypeId} {i : TI} {k : IntKind} (h : TOkAt P t i) (hd : i.d = .int k) : P.underlying t = some (.int k) := by
  obtain ⟨d, h1, h2⟩ := und_of h hd
  cases d <;> simp [dOf] at h2
  subst h2
  exact h1
theorem und_float {t : TypeId} {i : TI} {k : FloatKind} (h : TOkAt P t i) (hd : i.d = .float k) : P.underlying t = some (.float k) := by
  obtain ⟨d, h1, h2⟩ := und_of h hd
  cases d <;> simp [dOf] at h2
  subst h2
  exact h1
theorem und_str {t : TypeId} {i : TI} (h : TOkAt P t i) (hd : i.d = .str) : P.underlying t = some .string := by
  obtain ⟨d, h1, h2⟩ := und_of h hd
  cases d <;> simp [dOf] at h2
  exact h1
theorem und_slice {t e : TypeId} {i : TI} (h : TOkAt P t i) (hd : i.d = .slice e) : P.underlying t = some (.slice e) := by
  obtain ⟨d, h1, h2⟩ := und_of h hd
  cases d <;> simp [dOf] at h2
  subst h2
  exact h1
theorem und_ptr {t e : TypeId} {i : TI} (h : TOkAt P t i) (hd : i.d = .ptr e) : P.underlying t = some (.pointer e) := by
  obtain ⟨d, h1, h2⟩ := und_of h hd
  cases d <;> simp [dOf] at h2
  subst h2
  exact h1
theorem und_arr {t e : TypeId} {n : Nat} {i : TI} (h : TOkAt P t i) (hd : i.d = .arr n e) : P.underlying t = some (.array n e) := by
  obtain ⟨d, h1, h2⟩ := und_of h hd
  cases d <;> simp [dOf] at h2
  obtain ⟨rfl, rfl⟩ := h2
  exact h1
theorem und_map {t k e : TypeId} {i : TI} (h : TOkAt P t i) (hd : i.d = .map k e) : P.underlying t = some (.map k e) := by
  obtain ⟨d, h1, h2⟩ := und_of h hd
  cases d <;> simp [dOf] at h2
  obtain ⟨rfl, rfl⟩ := h2
  exact h1
theorem und_iface {t : TypeId} {i : TI} (h : TOkAt P t i) (hd : i.d = .iface) : ∃ ms, P.underlying t = some (.interface ms) := by
  obtain ⟨d, h1, h2⟩ := und_of h hd
  cases d <;> simp [dOf] at h2
  exact ⟨_, h1⟩
theorem und_strct {t : TypeId} {i : TI} {fs : List (Nat × TypeId × Bool)} (h : TOkAt P t i) (hd : i.d = .strct fs) :
    ∃ gs : Array Field, P.underlying t = some (.struct gs) ∧ gs.toList.map (fun f => (f.offset, f.type, f.name == "_")) = fs := by
  obtain ⟨d, h1, h2⟩ := und_of h hd
  cases d <;> simp [dOf] at h2
  exact ⟨_, h1, by simpa using h2⟩
theorem isAgg_run {t : TypeId} {i : TI} (h : TOkAt P t i) (w : World) : (isAgg t).run P w = .ok i.d.agg w := by
  obtain ⟨d, h1, h2⟩ := h.und
  simp only [isAgg, Sem.run_bind, run_underlying h1, Result.andThen_ok]
  rw [← h2]
  cases d <;> rfl
theorem sizeOf_run {t : TypeId} {i : TI} (h : TOkAt P t i) (w : World) : (sizeOf t).run P w = .ok i.size w := by
  obtain ⟨ti, h1, h2, _⟩ := h.info
  simp [sizeOf, typeInfo, h1, h2]
theorem zero_run {t : TypeId} {i : TI} (h : TOkAt P t i) (w : World) : (zeroValue t).run P w = .ok i.zero w := by
  obtain ⟨ti, h1, h2, h3, h4⟩ := h.info
  simp [zeroValue, typeInfo, h1, h4]
theorem bytes_run {t : TypeId} {i : TI} (h : TOkAt P t i) (w : World) : ∃ ti, (typeInfo t).run P w = .ok ti w ∧ ti.bytes = i.bytes ∧ ti.size = i.size := by
  obtain ⟨ti, h1, h2, h3, h4⟩ := h.info
  exact ⟨ti, by simp [typeInfo, h1], h3, h2⟩

theorem part_run {t : TypeId} {i : TI} (h : TOkAt P t i) {xs : List AV} {cs : Array Value} (hl : VL X xs cs.toList) (off : Nat) {a : AV}
    (ha : (bif i.d.agg then some (AV.agg ((xs.drop off).take i.size)) else nth xs off) = some a) (w : World) :
    ∃ v, (part t cs off).run P w = .ok v w ∧ VR X a v := by
  simp only [part, Sem.run_bind, isAgg_run h, Result.andThen_ok]
  cases hd : i.d.agg with
  | true =>
    simp only [hd, cond_true, Option.some.injEq] at ha
    subst ha
    refine ⟨.agg (cs.extract off (off + i.size)), by simp [sizeOf_run h], ?_⟩
    simp only [VR]
    refine ⟨_, rfl, ?_⟩
    have := (hl.drop off).take i.size
    rw [Array.toList_extract]
    simpa [List.extract_eq_take_drop] using this
  | false =>
    simp only [hd, cond_false] at ha
    rw [nth_eq] at ha
    obtain ⟨v, h1, h2⟩ := hl.get off a ha
    have h3 : cs[off]? = some v := by simpa using h1
    exact ⟨v, by simp [h3], h2⟩

theorem eqT_run (hT : TOk P T) : ∀ (n : Nat),
    (∀ (t : TypeId) (a b : AV) (x y : Value) (r : Bool), eqT T n t a b = some r → VR X a x → VR X b y → ∀ (d : Nat) (w : World), n ≤ d → (Op.equalIn d t x y).run P w = .ok r w) ∧
    (∀ (gs : List Field) (xs ys : List AV) (cs ds : Array Value) (r : Bool), eqT.fields T n (gs.map fun f => (f.offset, f.type, f.name == "_")) xs ys = some r → VL X xs cs.toList → VL X ys ds.toList →
      ∀ (d : Nat) (w : World), n ≤ d → (Op.eqFields d cs ds gs).run P w = .ok r w) := by
  intro n
  induction n with
  | zero =>
    refine ⟨fun t a b x y r h => by simp [eqT] at h, fun gs => ?_⟩
    induction gs with
    | nil =>
      intro xs ys cs ds r h _ _ d w _
      simp [eqT.fields] at h
      subst h
      simp [Op.eqFields]
    | cons g gs ihg =>
      intro xs ys cs ds r h hx hy d w hd
      rw [List.map_cons] at h
      cases hb : (g.name == "_") with
      | true =>
        simp only [hb, eqT.fields] at h
        have hn : ¬ g.name ≠ "_" := by simpa using hb
        simp only [Op.eqFields, if_neg hn]
        exact ihg xs ys cs ds r h hx hy d w hd
      | false =>
        simp only [hb, eqT.fields] at h
        cases hti : T g.type with
        | none => simp [hti] at h
        | some i =>
          simp only [hti, eqT] at h
          split at h <;> cases h
  | succ n ih =>
    have h1 : ∀ (t : TypeId) (a b : AV) (x y : Value) (r : Bool), eqT T (n + 1) t a b = some r → VR X a x → VR X b y → ∀ (d : Nat) (w : World), n + 1 ≤ d → (Op.equalIn d t x y).run P w = .ok r w := by
      intro t a b x y r h ha hb d w hd
      obtain ⟨d, rfl⟩ : ∃ m, d = m + 1 := ⟨d - 1, by omega⟩
      unfold eqT at h
      cases hti : T t with
      | none => simp [hti] at h
      | some i =>
        simp only [hti] at h
        have hi := hT t i hti
        split at h
        · rename_i e1
          rw [VR_bool] at ha hb
          subst ha hb
          simp at h
          subst h
          exact run_equalIn_bool' w d t _ _ (und_bool hi e1)
        · rename_i k1 k2 x1 k3 x2 e1
          cases hk : kEq k2 k3 with
          | false => simp [hk] at h
          | true =>
            simp [hk] at h
            rw [VR_int] at ha hb
            subst ha hb
            have := kEq_eq hk
            subst this
            subst h
            exact run_equalIn_int w d t _ _ _ _ (und_int hi e1)
        · rename_i e1
          rw [VR_string] at ha hb
          subst ha hb
          simp at h
          subst h
          rw [run_equalIn_string w d t _ _ (und_str hi e1), beq_toListBytes]
        · rename_i fs xs ys e1
          cases hq : i.eqOk with
          | false => simp [hq] at h
          | true =>
            simp only [hq, cond_true] at h
            simp only [VR] at ha hb
            obtain ⟨cs, rfl, hx⟩ := ha
            obtain ⟨ds, rfl, hy⟩ := hb
            obtain ⟨gs, hu, hg⟩ := und_strct hi e1
            have hf : P.fieldsOf t = gs := by simp [Program.fieldsOf, hu]
            rw [run_equalIn_agg w d t cs ds (by rw [hf]; exact hu) (hi.eqs hq).1, hf]
            rw [← hg] at h
            exact ih.2 gs.toList xs ys cs ds r h hx hy d w (by omega)
        · cases h
    refine ⟨h1, fun gs => ?_⟩
    induction gs with
    | nil =>
      intro xs ys cs ds r h _ _ d w _
      simp [eqT.fields] at h
      subst h
      simp [Op.eqFields]
    | cons g gs ihg =>
      intro xs ys cs ds r h hx hy d w hd
      rw [List.map_cons] at h
      cases hb : (g.name == "_") with
      | true =>
        simp only [hb, eqT.fields] at h
        have hn : ¬ g.name ≠ "_" := by simpa using hb
        simp only [Op.eqFields, if_neg hn]
        exact ihg xs ys cs ds r h hx hy d w hd
      | false =>
        simp only [hb, eqT.fields] at h
        have hn : g.name ≠ "_" := by simpa using hb
        cases hti : T g.type with
        | none => simp [hti] at h
        | some i =>
          simp only [hti] at h
          have hi := hT g.type i hti
          split at h
          · rename_i x y ex ey
            split at h
            · rename_i p q ep eq
              simp only [Option.some.injEq] at h
              obtain ⟨v1, r1, s1⟩ := part_run hi hx g.offset ex w
              obtain ⟨v2, r2, s2⟩ := part_run hi hy g.offset ey w
              simp only [Op.eqFields, if_pos hn, Sem.run_bind, r1, r2, Result.andThen_ok, h1 _ _ _ _ _ _ ep s1 s2 d w hd]
              have := ihg xs ys cs ds q eq hx hy d w hd
              cases p
              · simp at h
                subst h
                simp
              · simp at h
                subst h
                simpa using this
            · cases h
          · cases h
end
end Go.Proofs.Ytpjjfcgmckpboaa.A
