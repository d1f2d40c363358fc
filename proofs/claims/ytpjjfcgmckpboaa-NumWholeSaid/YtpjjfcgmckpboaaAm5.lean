/- One operation's abstract step is the model's step: operators. No condition. -/
import Derived.Test.YtpjjfcgmckpboaaAm4
namespace Go.Proofs.Ytpjjfcgmckpboaa.A
open Go
set_option linter.unusedVariables false
set_option linter.unusedSimpArgs false

theorem nan_drawn (t : Nat) : ∃ s f, FloatKind.f64.format.read ((t % 2) * 2 ^ 63 + 0x7ff0000000000000 + 1 + (t / 2) % (2 ^ 52 - 1)) = .nan s f := by
  have hw : FloatKind.f64.format.signWeight = 9223372036854775808 := by decide
  have hb : FloatKind.f64.format.binade = 4503599627370496 := by decide
  have hi : FloatKind.f64.format.infRung = 9218868437227405312 := by decide
  have h1 : (t / 2) % (2 ^ 52 - 1) < 4503599627370495 := Nat.mod_lt _ (by decide)
  generalize (t / 2) % (2 ^ 52 - 1) = m at *
  have h2 : t % 2 < 2 := Nat.mod_lt _ (by decide)
  generalize t % 2 = s at *
  unfold Ieee.Format.read
  simp only [hw, hb, hi]
  have h3 : (s * 2 ^ 63 + 0x7ff0000000000000 + 1 + m) % 9223372036854775808 = 9218868437227405313 + m := by omega
  rw [h3]
  rw [if_neg (by omega), if_neg (by omega), if_neg (by omega)]
  exact ⟨_, _, rfl⟩
theorem order_nan_left {k : FloatKind} {x y : Nat} (h : ∃ s t, k.format.read x = .nan s t) : k.format.order x y = none := by
  obtain ⟨s, t, h⟩ := h
  unfold Ieee.Format.order
  rw [h]
  unfold Ieee.Datum.order
  rfl
theorem order_nan_right {k : FloatKind} {x y : Nat} (h : ∃ s t, k.format.read y = .nan s t) : k.format.order x y = none := by
  obtain ⟨s, t, h⟩ := h
  unfold Ieee.Format.order
  rw [h]
  cases k.format.read x <;> simp [Ieee.Datum.order]
theorem arith_nan {k : FloatKind} {x y : Nat} (h : (∃ s t, k.format.read x = .nan s t) ∨ ∃ s t, k.format.read y = .nan s t) :
    k.format.add x y = none ∧ k.format.sub x y = none ∧ k.format.mul x y = none ∧ k.format.div x y = none := by
  rcases h with ⟨s, t, h⟩ | ⟨s, t, h⟩
  · refine ⟨?_, ?_, ?_, ?_⟩
    · unfold Ieee.Format.add; rw [h]; simp [Ieee.Datum.sum]
    · unfold Ieee.Format.sub; rw [h]; simp [Ieee.Datum.sum]
    · unfold Ieee.Format.mul; rw [h]; simp [Ieee.Datum.product]
    · unfold Ieee.Format.div; rw [h]; simp [Ieee.Datum.quotient]
  · refine ⟨?_, ?_, ?_, ?_⟩
    · unfold Ieee.Format.add; rw [h]; cases k.format.read x <;> simp [Ieee.Datum.sum]
    · unfold Ieee.Format.sub; rw [h]; cases k.format.read x <;> simp [Ieee.Datum.sum, Ieee.Datum.opposite]
    · unfold Ieee.Format.mul; rw [h]; cases k.format.read x <;> simp [Ieee.Datum.product]
    · unfold Ieee.Format.div; rw [h]; cases k.format.read x <;> simp [Ieee.Datum.quotient]

section
variable {P : Program} {T : Tab} {X : Ctx}
/-- The operator as the model runs it. -/
def binRun (op : BinOp) (t : TypeId) (ox oy : Operand) (x y : Value) : Sem Value := do eqGuard op t ox oy x y; binOp op t x y
def BinDone (P : Program) (w : World) (s : Sem Value) (K : AV → Prop) : Prop :=
  ∃ c v w1, K c ∧ s.run P w = .ok v w1 ∧ (w1 = w ∨ w1 = w.drew) ∧ ∀ Y, VR Y c v
theorem BinDone.mk {w : World} {s : Sem Value} {K : AV → Prop} {c : AV} {v : Value} (hk : K c) (hr : s.run P w = .ok v w) (hv : ∀ Y, VR Y c v) : BinDone P w s K :=
  ⟨c, v, w, hk, hr, .inl rfl, hv⟩
theorem VR_self {v : Value} (h : plain v = true) (Y : Ctx) : VR Y (.sc v) v := by simp [VR, ScR, h]

theorem binI_run {op : BinOp} {t : TypeId} {ox oy : Operand} {k k' : IntKind} {x y : Int} {K : AV → Prop} (w : World) (h : binI op k k' x y K) : BinDone P w (binRun op t ox oy (.int k x) (.int k' y)) K := by
  have hg : ∀ w, (eqGuard op t ox oy (.int k x) (.int k' y)).run P w = .ok () w := fun w => by cases op <;> simp [eqGuard]
  have key : ∀ {v : Value}, K (.sc v) → plain v = true → (binOp op t (.int k x) (.int k' y)).run P w = .ok v w → BinDone P w (binRun op t ox oy (.int k x) (.int k' y)) K := fun hk hp hr =>
    BinDone.mk hk (by simp only [binRun, Sem.run_bind, hg, Result.andThen_ok]; exact hr) (VR_self hp)
  unfold binI at h
  simp only [wrp_eq, hd_eq, ltD_eq, leD_eq, gtD_eq, geD_eq] at h
  split at h
  · obtain ⟨h0, h⟩ := h
    exact key h rfl (by simp [binOp, Op.shift, Int.not_lt.2 h0])
  · obtain ⟨h0, h⟩ := h
    exact key h rfl (by simp [binOp, Op.shift, Int.not_lt.2 h0])
  · cases hk : kEq k k' with
    | false => simp [hk] at h
    | true =>
      simp only [hk, cond_true] at h
      have := kEq_eq hk
      subst this
      split at h
      · exact key h rfl (by simp [binOp, Op.intArith])
      · exact key h rfl (by simp [binOp, Op.intArith])
      · exact key h rfl (by simp [binOp, Op.intArith])
      · obtain ⟨h0, h⟩ := h
        exact key h rfl (by simp [binOp, Op.intDiv, h0])
      · obtain ⟨h0, h⟩ := h
        exact key h rfl (by simp [binOp, Op.intDiv, h0])
      · exact key h rfl (by simp [binOp, Op.intCmp])
      · exact key h rfl (by simp [binOp, Op.intCmp])
      · exact key h rfl (by simp [binOp, Op.intCmp])
      · exact key h rfl (by simp [binOp, Op.intCmp])
      · exact key h rfl (by simp [binOp, Op.intCmp])
      · exact key h rfl (by simp [binOp, Op.intCmp])
      · exact key h rfl (by simp [binOp, Op.intBits])
      · exact key h rfl (by simp [binOp, Op.intBits])
      · exact key h rfl (by simp [binOp, Op.intBits])
      · exact key h rfl (by simp [binOp, Op.intBits])
      · exact h.elim
theorem binStr_run {op : BinOp} {t : TypeId} {ox oy : Operand} {x y : ByteArray} {K : AV → Prop} (w : World) (h : binStr op x y K) : BinDone P w (binRun op t ox oy (.string x) (.string y)) K := by
  have hg : ∀ w, (eqGuard op t ox oy (.string x) (.string y)).run P w = .ok () w := fun w => by cases op <;> simp [eqGuard]
  have key : ∀ {v : Value}, K (.sc v) → plain v = true → (binOp op t (.string x) (.string y)).run P w = .ok v w → BinDone P w (binRun op t ox oy (.string x) (.string y)) K := fun hk hp hr =>
    BinDone.mk hk (by simp only [binRun, Sem.run_bind, hg, Result.andThen_ok]; exact hr) (VR_self hp)
  unfold binStr at h
  split at h
  · obtain ⟨h0, h⟩ := h
    exact key h rfl (by
      simp only [binOp, Op.stringOp, IntKind.max_i64]
      rw [if_neg (by omega)]
      rfl)
  · exact key h rfl (by simp [binOp, Op.stringOp, strEq])
  · exact key h rfl (by simp [binOp, Op.stringOp, strEq])
  · exact key h rfl (by simp [binOp, Op.stringOp, strLt])
  · exact key h rfl (by simp [binOp, Op.stringOp, strLt, strEq])
  · exact key h rfl (by simp [binOp, Op.stringOp, strLt, strEq])
  · exact key h rfl (by simp [binOp, Op.stringOp, strLt])
  · exact h.elim
theorem eqlB_run {op : BinOp} {t : TypeId} {ox oy : Operand} {x y : Value} {b : Bool} {K : AV → Prop} (w : World) (h : eqlB op b K)
    (hg : (eqGuard op t ox oy x y).run P w = .ok () w) (hb : op = .eql ∨ op = .neq → (binOp .eql t x y).run P w = .ok (.bool b) w ∧ (binOp .neq t x y).run P w = .ok (.bool (!b)) w) : BinDone P w (binRun op t ox oy x y) K := by
  unfold eqlB at h
  split at h
  · exact BinDone.mk h (by simp only [binRun, Sem.run_bind, hg, Result.andThen_ok]; exact (hb (.inl rfl)).1) (VR_self rfl)
  · exact BinDone.mk h (by simp only [binRun, Sem.run_bind, hg, Result.andThen_ok]; exact (hb (.inr rfl)).2) (VR_self rfl)
  · exact h.elim
theorem float_run {op : BinOp} {t : TypeId} {ox oy : Operand} {x y : Nat} {K : AV → Prop} (w : World)
    (h : match fop op .f64 x y with | some (some r) => K (.sc (.float .f64 r)) | some none => K (.nan .f64) | none => fcmpK .f64 x y op K) : BinDone P w (binRun op t ox oy (.float .f64 x) (.float .f64 y)) K := by
  have hg : ∀ w, (eqGuard op t ox oy (.float .f64 x) (.float .f64 y)).run P w = .ok () w := fun w => by cases op <;> simp [eqGuard]
  have key : ∀ {v : Value}, K (.sc v) → plain v = true → (binOp op t (.float .f64 x) (.float .f64 y)).run P w = .ok v w → BinDone P w (binRun op t ox oy (.float .f64 x) (.float .f64 y)) K := fun hk hp hr =>
    BinDone.mk hk (by simp only [binRun, Sem.run_bind, hg, Result.andThen_ok]; exact hr) (VR_self hp)
  have kn : ∀ {b : Nat}, K (.nan .f64) → (∃ s t, FloatKind.f64.format.read b = .nan s t) → (binOp op t (.float .f64 x) (.float .f64 y)).run P w = .ok (.float .f64 b) w.drew → BinDone P w (binRun op t ox oy (.float .f64 x) (.float .f64 y)) K := fun {b} hk hp hr =>
    ⟨_, _, w.drew, hk, by simp only [binRun, Sem.run_bind, hg, Result.andThen_ok]; exact hr, .inr rfl, fun Y => by simp only [VR]; exact ⟨b, rfl, hp⟩⟩
  cases op <;> simp only [fop] at h
  case add =>
    split at h
    · rename_i r hr; injection hr with hr; exact key h rfl (by simp [binOp, Op.floatArith, hr])
    · rename_i hr; injection hr with hr; exact kn h (nan_drawn (w.tape w.drawn (.nanBits .f64 x y))) (by simp [binOp, Op.floatArith, hr, Question.forced, Question.cut])
    · rename_i hr; cases hr
  case sub =>
    split at h
    · rename_i r hr; injection hr with hr; exact key h rfl (by simp [binOp, Op.floatArith, hr])
    · rename_i hr; injection hr with hr; exact kn h (nan_drawn (w.tape w.drawn (.nanBits .f64 x y))) (by simp [binOp, Op.floatArith, hr, Question.forced, Question.cut])
    · rename_i hr; cases hr
  case mul =>
    split at h
    · rename_i r hr; injection hr with hr; exact key h rfl (by simp [binOp, Op.floatArith, hr])
    · rename_i hr; injection hr with hr; exact kn h (nan_drawn (w.tape w.drawn (.nanBits .f64 x y))) (by simp [binOp, Op.floatArith, hr, Question.forced, Question.cut])
    · rename_i hr; cases hr
  case quo =>
    split at h
    · rename_i r hr; injection hr with hr; exact key h rfl (by simp [binOp, Op.floatArith, hr])
    · rename_i hr; injection hr with hr; exact kn h (nan_drawn (w.tape w.drawn (.nanBits .f64 x y))) (by simp [binOp, Op.floatArith, hr, Question.forced, Question.cut])
    · rename_i hr; cases hr
  all_goals
    simp only [fcmpK, fcmp, ordr_eq] at h
    try exact key h rfl (by simp [binOp, Op.floatCmp])
theorem nan_run {op : BinOp} {t : TypeId} {ox oy : Operand} {x y : Nat} {K : AV → Prop} (w : World) (hn : (∃ s t, FloatKind.f64.format.read x = .nan s t) ∨ ∃ s t, FloatKind.f64.format.read y = .nan s t)
    (h : match nanCmp op, fop op .f64 0 0 with | some b, _ => K (.sc (.bool b)) | none, some _ => K (.nan .f64) | _, _ => False) : BinDone P w (binRun op t ox oy (.float .f64 x) (.float .f64 y)) K := by
  have ho : FloatKind.f64.format.order x y = none := by rcases hn with hn | hn <;> first | exact order_nan_left hn | exact order_nan_right hn
  obtain ⟨h1, h2, h3, h4⟩ := arith_nan hn
  refine float_run w ?_
  cases op
  all_goals
    simp only [nanCmp, fop] at h
    try simp only [fop, fcmpK, fcmp, ordr_eq, h1, h2, h3, h4, ho]
    try exact h
theorem isNilConst_eq {o : Operand} (h : isNilConst o = true) : o = .const .nilIface := by
  cases o with
  | const v => cases v <;> first | rfl | cases h
  | _ => cases h
theorem eq_nil_nil {t e : TypeId} (hu : P.underlying t = some (.pointer e)) (d : Nat) (w : World) : (Op.equalIn (d + 1) t (.pointer none) (.pointer none)).run P w = .ok true w := by
  simp only [Op.equalIn, Sem.run_bind, run_underlying hu, Result.andThen_ok]
  rfl
theorem eq_ptr_nil {t e : TypeId} (hu : P.underlying t = some (.pointer e)) (a : Addr) (d : Nat) (w : World) : (Op.equalIn (d + 1) t (.pointer (some a)) (.pointer none)).run P w = .ok false w := by
  simp only [Op.equalIn, Sem.run_bind, run_underlying hu, Result.andThen_ok]
  rfl
theorem eq_nil_ptr {t e : TypeId} (hu : P.underlying t = some (.pointer e)) (a : Addr) (d : Nat) (w : World) : (Op.equalIn (d + 1) t (.pointer none) (.pointer (some a))).run P w = .ok false w := by
  simp only [Op.equalIn, Sem.run_bind, run_underlying hu, Result.andThen_ok]
  rfl
theorem eq_nilI {t : TypeId} {ms : Array (String × TypeId)} (hu : P.underlying t = some (.interface ms)) (d : Nat) (w : World) : (Op.equalIn (d + 1) t .nilIface .nilIface).run P w = .ok true w := by
  simp only [Op.equalIn, Sem.run_bind, run_underlying hu, Result.andThen_ok]
  rfl
theorem eq_I_nil {t u : TypeId} {v : Value} {ms : Array (String × TypeId)} (hu : P.underlying t = some (.interface ms)) (d : Nat) (w : World) : (Op.equalIn (d + 1) t (.iface u v) .nilIface).run P w = .ok false w := by
  simp only [Op.equalIn, Sem.run_bind, run_underlying hu, Result.andThen_ok]
  rfl
/-- '==' and '!=' of values that are no numbers and no texts. -/
theorem eqs_of {t : TypeId} {x y : Value} {r : Bool} {w : World} (e : (Op.equalIn 10000 t x y).run P w = .ok r w)
    (h1 : binOp .eql t x y = (do pure (.bool (← Op.equal t x y)))) (h2 : binOp .neq t x y = (do pure (.bool (!(← Op.equal t x y))))) :
    (binOp .eql t x y).run P w = .ok (.bool r) w ∧ (binOp .neq t x y).run P w = .ok (.bool (!r)) w := by
  rw [h1, h2]
  unfold Op.equal Op.maxDepth
  simp [e]
theorem binA_run (hT : TOk P T) {op : BinOp} {t : TypeId} {ox oy : Operand} {a b : AV} {x y : Value} {K : AV → Prop} (w : World) (h : binA T op t ox oy a b K) (ha : VR X a x) (hb : VR X b y) :
    BinDone P w (binRun op t ox oy x y) K := by
  unfold binA at h
  split at h
  · rw [VR_int] at ha hb; subst ha hb; exact binI_run w h
  · rw [VR_string] at ha hb; subst ha hb; exact binStr_run w h
  · rw [VR_float] at ha hb; subst ha hb
    split at h
    · exact float_run w h
    · exact h.elim
  · rw [VR_float] at hb; subst hb
    simp only [VR] at ha
    obtain ⟨bx, rfl, hn⟩ := ha
    exact nan_run w (.inl hn) h
  · rw [VR_float] at ha; subst ha
    simp only [VR] at hb
    obtain ⟨bx, rfl, hn⟩ := hb
    exact nan_run w (.inr hn) h
  · simp only [VR] at ha hb
    obtain ⟨bx, rfl, hn⟩ := ha
    obtain ⟨by_, rfl, hm⟩ := hb
    exact nan_run w (.inl hn) h
  · rename_i x' y'
    rw [VR_bool] at ha hb; subst ha hb
    split at h
    · rename_i i hti
      have hu := und_bool (hT t _ hti) rfl
      refine eqlB_run w h (by cases op <;> simp [eqGuard]) fun _ => ?_
      exact eqs_of (run_equalIn_bool' w 9999 t x' y' hu) rfl rfl
    · exact h.elim
  · rw [VR_nil] at ha hb; subst ha hb
    split at h
    · rename_i i hti
      have hu := und_ptr (hT t _ hti) rfl
      refine eqlB_run w h (by cases op <;> simp [eqGuard]) fun _ => ?_
      exact eqs_of (eq_nil_nil hu 9999 w) rfl rfl
    · exact h.elim
  · rw [VR_nil] at hb; subst hb
    simp only [VR] at ha
    obtain ⟨ad, _, rfl⟩ := ha
    split at h
    · rename_i i hti
      have hu := und_ptr (hT t _ hti) rfl
      refine eqlB_run w h (by cases op <;> simp [eqGuard]) fun _ => ?_
      exact eqs_of (eq_ptr_nil hu _ 9999 w) rfl rfl
    · exact h.elim
  · rw [VR_nil] at ha; subst ha
    simp only [VR] at hb
    obtain ⟨ad, _, rfl⟩ := hb
    split at h
    · rename_i i hti
      have hu := und_ptr (hT t _ hti) rfl
      refine eqlB_run w h (by cases op <;> simp [eqGuard]) fun _ => ?_
      exact eqs_of (eq_nil_ptr hu _ 9999 w) rfl rfl
    · exact h.elim
  · rw [VR_nilIface] at ha hb; subst ha hb
    split at h
    · rename_i i hti
      obtain ⟨ms, hu⟩ := und_iface (hT t _ hti) rfl
      cases hc : isNilConst ox || isNilConst oy with
      | false => simp [hc] at h
      | true =>
        simp only [hc, cond_true] at h
        have hg : (eqGuard op t ox oy .nilIface .nilIface).run P w = .ok () w := by
          rcases Bool.or_eq_true_iff.1 hc with h1 | h1
          · obtain rfl := isNilConst_eq h1
            cases op <;> simp [eqGuard]
          · obtain rfl := isNilConst_eq h1
            cases op <;> simp [eqGuard]
        refine eqlB_run w h hg fun _ => ?_
        exact eqs_of (eq_nilI hu 9999 w) rfl rfl
    · exact h.elim
  · rw [VR_nilIface] at hb; subst hb
    obtain ⟨rfl, hp⟩ := VR_iface ha
    split at h
    · rename_i i hti
      obtain ⟨ms, hu⟩ := und_iface (hT t _ hti) rfl
      refine eqlB_run w h (by cases op <;> simp [eqGuard]) fun _ => ?_
      exact eqs_of (eq_I_nil hu 9999 w) rfl rfl
    · exact h.elim
  · rename_i xs ys
    split at h
    · rename_i r hr
      have hr0 := hr
      have e := (eqT_run (X := X) hT 8).1 t (.agg xs) (.agg ys) x y r hr ha hb 10000 w (by omega)
      have hq : ∃ i, T t = some i ∧ i.eqOk = true := by
        unfold eqT at hr0
        cases hti : T t with
        | none => simp [hti] at hr0
        | some i =>
          refine ⟨i, rfl, ?_⟩
          simp only [hti] at hr0
          split at hr0 <;> simp_all
          cases hq : i.eqOk with
          | true => rfl
          | false => simp [hq] at hr0
      obtain ⟨i, hti, hq⟩ := hq
      simp only [VR] at ha hb
      obtain ⟨cs, rfl, hx⟩ := ha
      obtain ⟨ds, rfl, hy⟩ := hb
      refine eqlB_run w h (run_eqGuard_agg w op t ox oy cs ds ((hT t i hti).eqs hq).2) fun _ => ?_
      rw [run_eql_struct, run_neq_struct, e]
      exact ⟨rfl, rfl⟩
    · exact h.elim
  · exact h.elim

theorem read_neg {b : Nat} (h : ∃ s t, FloatKind.f64.format.read b = .nan s t) : ∃ s t, FloatKind.f64.format.read (Op.negFloat .f64 b) = .nan s t := by
  obtain ⟨s, t, h⟩ := h
  have hw : FloatKind.f64.format.signWeight = 2 ^ 63 := by decide
  have hx : Op.negFloat .f64 b = b ^^^ 2 ^ 63 := rfl
  have hm : (b ^^^ 2 ^ 63) % 2 ^ 63 = b % 2 ^ 63 := by
    rw [Nat.xor_mod_two_pow]
    simp
  unfold Ieee.Format.read at h ⊢
  simp only [hw] at h ⊢
  rw [hx, hm]
  split at h
  · cases h
  · split at h
    · cases h
    · split at h
      · cases h
      · rename_i h1 h2 h3
        rw [if_neg h1, if_neg h2, if_neg h3]
        exact ⟨_, _, rfl⟩
theorem unA_run {op : UnOp} {a : AV} {x : Value} {K : AV → Prop} (w : World) (h : unA op a K) (ha : VR X a x) : BinDone P w (Op.unary op x) K := by
  unfold unA at h
  simp only [wrp_eq] at h
  split at h
  · rw [VR_bool] at ha; subst ha; exact BinDone.mk h (by simp [Op.unary]) (VR_self rfl)
  · rw [VR_int] at ha; subst ha; exact BinDone.mk h (by simp [Op.unary, Op.intArith]) (VR_self rfl)
  · rw [VR_int] at ha; subst ha; exact BinDone.mk h (by simp [Op.unary, Op.intBits]) (VR_self rfl)
  · rw [VR_float] at ha; subst ha; exact BinDone.mk h (by simp [Op.unary]) (VR_self rfl)
  · simp only [VR] at ha
    obtain ⟨b, rfl, hn⟩ := ha
    exact BinDone.mk h (v := .float .f64 (Op.negFloat .f64 b)) (by simp [Op.unary]) fun Y => by simp only [VR]; exact ⟨_, rfl, read_neg hn⟩
  · exact h.elim
theorem convA_run (hT : TOk P T) {src dst : TypeId} {a : AV} {x : Value} {K : AV → Prop} (w : World) (h : convA T src dst a K) (ha : VR X a x) : BinDone P w (convert src dst x) K := by
  unfold convA at h
  split at h
  · rename_i i k j n hs hd
    rw [VR_int] at ha; subst ha
    obtain ⟨ds, us, _⟩ := (hT _ _ hs).und
    exact BinDone.mk h (by simp [convert, run_underlying us, run_underlying (und_int (hT _ _ hd) rfl), Conv.intToInt, wrp_eq]) (VR_self rfl)
  · rename_i hs hd
    rw [VR_int] at ha; subst ha
    obtain ⟨ds, us, _⟩ := (hT _ _ hs).und
    exact BinDone.mk h (by simp [convert, run_underlying us, run_underlying (und_float (hT _ _ hd) rfl), Conv.intToFloat]) (VR_self rfl)
  · rename_i hs hd
    rw [VR_string] at ha; subst ha
    obtain ⟨ds, us, _⟩ := (hT _ _ hs).und
    exact BinDone.mk h (by simp [convert, run_underlying us, run_underlying (und_str (hT _ _ hd) rfl)]) (VR_self rfl)
  · rename_i hs hd
    rw [VR_float] at ha; subst ha
    exact BinDone.mk h (by simp [convert, run_underlying (und_float (hT _ _ hs) rfl), run_underlying (und_float (hT _ _ hd) rfl), Conv.floatToFloat]) (VR_self rfl)
  · rename_i hs hd
    rw [VR_float] at ha; subst ha
    obtain ⟨n, hn, ⟨hr, hk⟩⟩ := optK_elim h
    rw [toI_eq] at hn
    exact BinDone.mk hk (by simp [convert, run_underlying (und_float (hT _ _ hs) rfl), run_underlying (und_int (hT _ _ hd) rfl), Conv.floatToInt, hn, hr]) (VR_self rfl)
  · exact h.elim
end
end Go.Proofs.Ytpjjfcgmckpboaa.A
