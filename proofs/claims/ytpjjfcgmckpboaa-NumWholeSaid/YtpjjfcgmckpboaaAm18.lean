/- Handles: how a function ends, how one that is told by values alone is called. No condition. -/
import Derived.Test.YtpjjfcgmckpboaaAm17
import Derived.Laws.Externs
namespace Go.Proofs.Ytpjjfcgmckpboaa.A
open Go
set_option linter.unusedVariables false
set_option linter.unusedSimpArgs false

theorem endR {T : Tab} {rs : List ResultVar} {n0 : Nat} {K : AV → Heap → Prop} {s : St} (H' : Heap) {vs : List AV} {v : AV} (hd : s.ds = []) (hv : resV T s rs = some vs) (hf : frz s.H H'.length 8 (mkR vs) = some v)
    (hp : PreH H' s.H) (hl : n0 ≤ H'.length) (hb : belowH H'.length H' = true) (hR : K v H') : s.ds = [] ∧ ∃ H' v, EndV T rs n0 s H' v ∧ K v H' :=
  ⟨hd, H', v, ⟨⟨vs, hv, hf⟩, hp, hl, hb⟩, hR⟩
/-- It returns v, and leaves nothing. -/
def Ret (v : AV) : AEnd → Heap → Prop := fun E H => E = .ret v ∧ H = []
/-- The end of a function that is told by values alone. -/
theorem end0 {T : Tab} {rs : List ResultVar} {u : AV} {s : St} {vs : List AV} {v : AV} (hd : s.ds = []) (hv : resV T s rs = some vs) (hf : frz s.H 0 8 (mkR vs) = some v) (hR : v = u) : endK T rs 0 (Ret u) .ret s :=
  ⟨hd, [], v, ⟨⟨vs, hv, hf⟩, True.intro, Nat.zero_le _, rfl⟩, by rw [hR], rfl⟩
theorem callP {P : Program} {g : FuncId} {as args : List AV} {v : AV} {H : Heap} {K : AV → Heap → Prop} {Kp : Value → Heap → Prop} (h : ACalls P g as [] (Ret v)) (ha : args = renL (rn [] H.length) as) (hv : ren (rn [] H.length) v = v) (k : K v H) :
    ACalls P g args H (panK K Kp) := by
  subst ha
  refine callS h [] True.intro rfl ?_
  rintro E Hs' ⟨rfl, rfl⟩ _
  refine ⟨_, _, rfl, rfl, ?_⟩
  simp only [renE, hv, renH, merge, setMany, List.drop_nil, List.append_nil]
  exact k
/-- A call that is told at the objects is alone, and has one outcome. -/
theorem callH {P : Program} {g : FuncId} {as args : List AV} {v v' : AV} {Hs Hs' H H' : Heap} {K : AV → Heap → Prop} {Kp : Value → Heap → Prop} (h : ACalls P g as Hs (fun E G => E = .ret v ∧ G = Hs')) (is : List Nat) (ha : args = renL (rn is H.length) as)
    (hsel : Sel H (rn is H.length) is Hs) (hn : noDup is = true) (hv : ren (rn is H.length) v = v') (hm : merge H is (renH (rn is H.length) Hs') = H') (k : K v' H') : ACalls P g args H (panK K Kp) := by
  subst ha
  refine callS h is hsel hn ?_
  rintro E G ⟨rfl, rfl⟩ _
  refine ⟨_, _, rfl, hm, ?_⟩
  simp only [renE, hv]
  exact k
theorem rdN_all {H : Heap} {p n : Nat} {cs : List AV} (h : nth H p = some (.row cs)) (hl : n = cs.length) : rdN H p 0 n = some cs := by
  unfold rdN
  rw [h]
  have : Nat.ble (0 + n) cs.length = true := by rw [Nat.ble_eq]; omega
  simp only [this, cond_true, List.drop_zero]
  rw [List.take_of_length_le (by omega)]
/-- A loop whose rounds are told by x; m x rounds are left, and the last look. -/
theorem loopI {α : Type} {P : Program} {T : Tab} {n0 : Nat} {c : Code} {Q : AX → St → Prop} {s : St} (L : α → List (Nat × AV)) (Hh : α → Heap) (m : α → Nat) (x0 : α) (is : List Nat) (hw : Weak n0 s is (L x0) (Hh x0))
    (step : ∀ (x : α) (K : St → Prop), (∀ (y : α) (is' : List Nat) (s' : St), m x = m y + 1 → Weak n0 s' is' (L y) (Hh y) → K s') → awp P T n0 c (nextX K Q) ⟨frL (L x), Hh x, []⟩) : awp P T n0 (.loop c) Q s := by
  refine ⟨m x0 + 1, ?_⟩
  have key : ∀ (k : Nat) (x : α) (s : St) (is : List Nat), m x = k → Weak n0 s is (L x) (Hh x) → roundsA (awp P T n0 c) n0 Q (k + 1) s := by
    intro k
    induction k with
    | zero =>
      intro x s is hm hw
      exact ⟨is, L x, Hh x, hw, step x _ fun y is' s' he _ => by omega⟩
    | succ k ih =>
      intro x s is hm hw
      exact ⟨is, L x, Hh x, hw, step x _ fun y is' s' he hw' => ih y s' is' (by omega) hw'⟩
  exact key _ x0 s is rfl hw
theorem round1 {F : (AX → St → Prop) → St → Prop} {n0 n : Nat} {Q : AX → St → Prop} {s : St} (is : List Nat) (L : List (Nat × AV)) (H' : Heap) (hf : AllRen (rn is s.H.length) s.fr L) (hs : Sel s.H (rn is s.H.length) is H') (hd : noDup is = true) (hp : idPre n0 0 is = true) (hds : s.ds = [])
    (h : F (nextX (roundsA F n0 Q n) Q) ⟨frL L, H', []⟩) : roundsA F n0 Q (n + 1) s := ⟨is, L, H', ⟨hf, hs, hd, hp, hds⟩, h⟩
theorem wr_eq {H : Heap} {p off : Nat} {l cs : List AV} (h : nth H p = some (.row cs)) (hl : off + l.length ≤ cs.length) : wr H p off l = some (H.set p (.row (setAll cs off l))) := by
  unfold wr
  rw [h]
  have : Nat.ble (off + l.length) cs.length = true := (by rw [Nat.ble_eq]; exact hl)
  simp only [this, cond_true]
theorem rdN_eq {H : Heap} {p off n : Nat} {cs : List AV} (h : nth H p = some (.row cs)) (hl : off + n ≤ cs.length) : rdN H p off n = some ((cs.drop off).take n) := by
  unfold rdN
  rw [h]
  have : Nat.ble (off + n) cs.length = true := (by rw [Nat.ble_eq]; exact hl)
  simp only [this, cond_true]
theorem wrpE (k : IntKind) (n : Int) : wrp k n = k.wrap n := by rw [wrp_eq]
theorem wi64 (n : Int) : IntKind.i64.wrap n = (n + 9223372036854775808) % 18446744073709551616 - 9223372036854775808 := by
  unfold IntKind.wrap
  simp [IntKind.signed, IntKind.bits]
  omega
theorem wu64 (n : Int) : IntKind.u64.wrap n = n % 18446744073709551616 := by simp [IntKind.wrap, IntKind.bits, IntKind.signed]
theorem wu8 (n : Int) : IntKind.u8.wrap n = n % 256 := by simp [IntKind.wrap, IntKind.bits, IntKind.signed]
theorem wi32 (n : Int) : IntKind.i32.wrap n = (n + 2147483648) % 4294967296 - 2147483648 := by
  unfold IntKind.wrap
  simp [IntKind.signed, IntKind.bits]
  omega
theorem strEq_eq (x y : ByteArray) : strEq x y = (x.data.toList == y.data.toList) := by rw [strEq, ByteArray.toList_eq, ByteArray.toList_eq]
theorem strEq_iff {x y : ByteArray} : strEq x y = true ↔ x = y := by
  rw [strEq_eq, beq_iff_eq]
  constructor
  · intro h
    cases x
    cases y
    simpa using h
  · intro h
    rw [h]
theorem strEq_false {x y : ByteArray} : strEq x y = false ↔ x ≠ y := by
  rw [← Bool.not_eq_true, strEq_iff]
theorem ext_calls {P : Program} {f : FuncId} {fn : Func} {e : Array Value → Sem Value} (hf : P.funcs[f]? = some fn) (hname : (fn.name == "runtime.NumGoroutine") = false)
    (hb : fn.body.isNone = true) (hn : Extern.findNext fn = none) (he : Extern.find fn = some e) {args : List AV} {H : Heap} {R : AEnd → Heap → Prop}
    (h : ∀ (X : Ctx) (as : Array Value), HR X H → VL X args as.toList → ∃ u v, (e as).run P X.w = .ok u X.w ∧ VR X v u ∧ R (.ret v) H) : ACalls P f args H R := by
  intro X as hr hv
  right
  obtain ⟨u, v, h1, h2, h3⟩ := h X as hr hv
  refine ⟨u, X.w, by rw [run_callFunc_extern hf hname hb hn he, h1]; rfl, .ret v, H, X, h3, rfl, h2, hr, Ext.refl _ _, fun _ _ => rfl, Nat.le_refl _⟩
theorem VL_one {X : Ctx} {a : AV} {as : Array Value} (h : VL X [a] as.toList) : ∃ v, as = #[v] ∧ VR X a v := by
  have hl := h.length
  match hq : as.toList, h, hl with
  | [v], h, _ => exact ⟨v, by rw [← Array.toArray_toList (xs := as), hq], by simpa [VL] using h⟩
  | [], _, hl => simp at hl
  | _ :: _ :: _, _, hl => simp at hl
theorem VR_sc_float {X : Ctx} {k : FloatKind} {b : Nat} {v : Value} : VR X (.sc (.float k b)) v ↔ v = .float k b := by
  simp [VR, ScR, plain, plainS]
theorem VR_sc_int {X : Ctx} {k : IntKind} {n : Int} {v : Value} : VR X (.sc (.int k n)) v ↔ v = .int k n := VR_int
end Go.Proofs.Ytpjjfcgmckpboaa.A
