/- expr: two numbers into one; what is above nought; floors. No condition. -/
import Derived.Test.YtdjpcmlnhkiokaaEa
namespace Go.Proofs.Ytdjpcmlnhkiokaa.A
open Go
set_option linter.unusedVariables false
set_option maxRecDepth 100000
set_option pp.maxSteps 1500

theorem word_lt (s : Bool) (r : Nat) (h : r < 9223372036854775808) : Ieee.double.word s r < 18446744073709551616 := by
  have hs : Ieee.double.signWeight = 9223372036854775808 := rfl
  unfold Ieee.Format.word
  rw [hs]
  split <;> omega
theorem write_lt (d : Ieee.Datum) : Ieee.double.write d < 18446744073709551616 := by
  have hi : Ieee.double.infRung = 9218868437227405312 := rfl
  have hb : Ieee.double.binade = 4503599627370496 := rfl
  cases d with
  | number s m e =>
    show Ieee.double.nearest s m e < _
    unfold Ieee.Format.nearest
    split
    · exact word_lt _ _ (by decide)
    · exact word_lt _ _ (by rw [hi]; omega)
  | infinity s => exact word_lt _ _ (by rw [hi]; decide)
  | nan s t => exact word_lt _ _ (by rw [hi, hb]; omega)
theorem map_lt {o : Option Ieee.Datum} {r : Nat} (h : o.map Ieee.double.write = some r) : r < 18446744073709551616 := by
  cases o with
  | none => cases h
  | some d => exact Option.some.inj h ▸ write_lt d
theorem fari_lt {op : BinOp} {a b r : Nat} (h : fari op .f64 a b = some r) : r < 18446744073709551616 := by
  rw [fari_eq] at h
  cases op <;> first | exact map_lt h | cases h
noncomputable def twoO (op : Int) (a b : Nat) : Option Nat :=
  if op = 3 then fari .add .f64 a b else if op = 4 then fari .sub .f64 a b else if op = 5 then fari .mul .f64 a b else if op = 6 then fari .quo .f64 a b
  else if op = 7 then (if placeB a ≤ placeB b then some a else some b) else if placeB a ≤ placeB b then some b else some a
theorem twoO_lt {op : Int} {a b : Nat} (ha : a < 18446744073709551616) (hb : b < 18446744073709551616) : ∀ r, twoO op a b = some r → r < 18446744073709551616 := by
  intro r h
  unfold twoO at h
  repeat' split at h
  all_goals first | exact fari_lt h | exact Option.some.inj h ▸ ha | exact Option.some.inj h ▸ hb
theorem two_ok (op : Int) (a b : Nat) (h3 : 3 ≤ op) (h8 : op ≤ 8) (ha : a < 18446744073709551616) (hb : b < 18446744073709551616) : ACalls Try.prog 37 [i64 op, fl a, fl b] [] (Ret (flo (twoO op a b))) := by
  have hc : op = 3 ∨ op = 4 ∨ op = 5 ∨ op = 6 ∨ op = 7 ∨ op = 8 := by omega
  rcases hc with rfl | rfl | rfl | rfl | rfl | rfl
  · have e : twoO 3 a b = fari .add .f64 a b := rfl
    rw [e]
    refine acalls_of_awp hT mixed Try.func37 rfl (by kernel_rfl) (by kernel_rfl) (Nat.le_of_ble_eq_true rfl) ?_
    refine forO (fun h => ?_) (fun r h => ?_) <;> rw [h] <;> refine end0 rfl rfl rfl rfl
  · have e : twoO 4 a b = fari .sub .f64 a b := rfl
    rw [e]
    refine acalls_of_awp hT mixed Try.func37 rfl (by kernel_rfl) (by kernel_rfl) (Nat.le_of_ble_eq_true rfl) ?_
    refine forO (fun h => ?_) (fun r h => ?_) <;> rw [h] <;> refine end0 rfl rfl rfl rfl
  · have e : twoO 5 a b = fari .mul .f64 a b := rfl
    rw [e]
    refine acalls_of_awp hT mixed Try.func37 rfl (by kernel_rfl) (by kernel_rfl) (Nat.le_of_ble_eq_true rfl) ?_
    refine forO (fun h => ?_) (fun r h => ?_) <;> rw [h] <;> refine end0 rfl rfl rfl rfl
  · have e : twoO 6 a b = fari .quo .f64 a b := rfl
    rw [e]
    refine acalls_of_awp hT mixed Try.func37 rfl (by kernel_rfl) (by kernel_rfl) (Nat.le_of_ble_eq_true rfl) ?_
    refine forO (fun h => ?_) (fun r h => ?_) <;> rw [h] <;> refine end0 rfl rfl rfl rfl
  · have e : twoO 7 a b = if placeB a ≤ placeB b then some a else some b := rfl
    rw [e]
    have ho := order_ok a b ha hb
    by_cases h : placeB a ≤ placeB b
    · rw [if_pos h]
      have hq : cmpI (placeB a) (placeB b) = -1 ∨ cmpI (placeB a) (placeB b) = 0 := by unfold cmpI; split; exact .inl rfl; rw [if_neg (by omega)]; exact .inr rfl
      rcases hq with hq | hq <;> rw [hq] at ho
      · refine acalls_of_awp hT mixed Try.func37 rfl (by kernel_rfl) (by kernel_rfl) (Nat.le_of_ble_eq_true rfl) ?_
        refine callP ho rfl rfl ?_
        refine end0 rfl rfl rfl rfl
      · refine acalls_of_awp hT mixed Try.func37 rfl (by kernel_rfl) (by kernel_rfl) (Nat.le_of_ble_eq_true rfl) ?_
        refine callP ho rfl rfl ?_
        refine end0 rfl rfl rfl rfl
    · rw [if_neg h]
      have hq : cmpI (placeB a) (placeB b) = 1 := by unfold cmpI; rw [if_neg (by omega), if_pos (by omega)]
      rw [hq] at ho
      refine acalls_of_awp hT mixed Try.func37 rfl (by kernel_rfl) (by kernel_rfl) (Nat.le_of_ble_eq_true rfl) ?_
      refine callP ho rfl rfl ?_
      refine end0 rfl rfl rfl rfl
  · have e : twoO 8 a b = if placeB a ≤ placeB b then some b else some a := rfl
    rw [e]
    have ho := order_ok a b ha hb
    by_cases h : placeB a ≤ placeB b
    · rw [if_pos h]
      have hq : cmpI (placeB a) (placeB b) = -1 ∨ cmpI (placeB a) (placeB b) = 0 := by unfold cmpI; split; exact .inl rfl; rw [if_neg (by omega)]; exact .inr rfl
      rcases hq with hq | hq <;> rw [hq] at ho
      · refine acalls_of_awp hT mixed Try.func37 rfl (by kernel_rfl) (by kernel_rfl) (Nat.le_of_ble_eq_true rfl) ?_
        refine callP ho rfl rfl ?_
        refine end0 rfl rfl rfl rfl
      · refine acalls_of_awp hT mixed Try.func37 rfl (by kernel_rfl) (by kernel_rfl) (Nat.le_of_ble_eq_true rfl) ?_
        refine callP ho rfl rfl ?_
        refine end0 rfl rfl rfl rfl
    · rw [if_neg h]
      have hq : cmpI (placeB a) (placeB b) = 1 := by unfold cmpI; rw [if_neg (by omega), if_pos (by omega)]
      rw [hq] at ho
      refine acalls_of_awp hT mixed Try.func37 rfl (by kernel_rfl) (by kernel_rfl) (Nat.le_of_ble_eq_true rfl) ?_
      refine callP ho rfl rfl ?_
      refine end0 rfl rfl rfl rfl
theorem above_ok (b : Nat) (hb : b < 18446744073709551616) : ACalls Try.prog 41 [fl b] [] (Ret (bo (decide (5 < classB b)))) := by
  have h := class_ok b hb
  generalize classB b = k at *
  refine acalls_of_awp hT mixed Try.func41 rfl (by kernel_rfl) (by kernel_rfl) (Nat.le_of_ble_eq_true rfl) ?_
  refine callP h rfl rfl ?_
  refine forkD (fun h => ?_) (fun h => ?_)
  · refine end0 rfl rfl rfl (congrArg bo (decide_eq_true h).symm)
  · refine end0 rfl rfl rfl (congrArg bo (decide_eq_false h).symm)
theorem abs_ok (b : Nat) (hb : b < 18446744073709551616) : ACalls Try.prog 38 [fl b] [] (Ret (fl (b % 9223372036854775808))) := by
  have hw := andNot_sign' _ hb
  refine acalls_of_awp hT mixed Try.func38 rfl (by kernel_rfl) (by kernel_rfl) (Nat.le_of_ble_eq_true rfl) ?_
  refine callP (float64bits_ok b) rfl rfl ?_
  refine callP (float64frombits_ok _) rfl rfl ?_
  refine end0 rfl rfl rfl ?_
  rw [hw, Int.toNat_natCast]
  rfl
/-- The greatest whole number that isn't above. -/
def floorB (b : Nat) : Nat := if nanB b = true then b else FloatKind.f64.encode ((FloatKind.f64.decode b).integral .down)
theorem archFloor_ok (b : Nat) (hc : nanB b = true → b = nanW) : ACalls Try.prog 43 [fl b] [] (Ret (fl (floorB b))) := by
  refine ext_calls (e := Extern.MathFloor.toIntegral "math.archFloor" .down) (show Try.prog.funcs[43]? = some Try.f43 from Try.func43) (by kernel_rfl) rfl (by kernel_rfl) (by kernel_rfl) ?_
  intro X vs hr hv
  obtain ⟨v, rfl, hw⟩ := VL_one hv
  rw [fl, VR_sc_float] at hw
  subst hw
  refine ⟨_, fl (floorB b), ?_, VR_sc_float.2 rfl, rfl, rfl⟩
  cases hn : nanB b with
  | true =>
    rw [hc hn]
    rfl
  | false =>
    have hf : floorB b = FloatKind.f64.encode ((FloatKind.f64.decode b).integral .down) := by unfold floorB; rw [if_neg (by rw [hn]; decide)]
    rw [hf]
    have hd : ∀ s t, FloatKind.f64.decode b ≠ .nan s t := fun s t h => by
      have := nan_read ⟨s, t, h⟩
      rw [hn] at this
      cases this
    obtain ⟨F, hF, h1, h2⟩ : ∃ F : Ieee.Datum → Sem Value, Extern.MathFloor.toIntegral "math.archFloor" .down #[.float .f64 b] = F (FloatKind.f64.decode b) ∧ (∀ s m e, F (.number s m e) = pure (.float .f64 (FloatKind.f64.encode ((Ieee.Datum.number s m e).integral .down)))) ∧ ∀ s, F (.infinity s) = pure (.float .f64 (FloatKind.f64.encode ((Ieee.Datum.infinity s).integral .down))) :=
      ⟨fun d => Extern.MathFloor.toIntegral.match_1 (fun _ => Sem Value) d _ _, rfl, fun _ _ _ => rfl, fun _ => rfl⟩
    rw [hF]
    cases hq : FloatKind.f64.decode b with
    | number s m e => rw [h1]; rfl
    | infinity s => rw [h2]; rfl
    | nan s t => exact absurd hq (hd s t)
theorem floor_ok (b : Nat) (hc : nanB b = true → b = nanW) : ACalls Try.prog 39 [fl b] [] (Ret (fl (floorB b))) := by
  refine acalls_of_awp hT mixed Try.func39 rfl (by kernel_rfl) (by kernel_rfl) (Nat.le_of_ble_eq_true rfl) ?_
  refine callP (archFloor_ok b hc) rfl rfl ?_
  refine end0 rfl rfl rfl rfl
theorem floorB_lt {b : Nat} (hb : b < 18446744073709551616) : floorB b < 18446744073709551616 := by
  unfold floorB
  split
  · exact hb
  · exact write_lt _
/-- Is it infinite? -/
def infB (b : Nat) : Bool := decide (b % 9223372036854775808 = 9218868437227405312)
theorem isInf_ok (b : Nat) (hb : b < 18446744073709551616) (hn : nanB b = false) : ACalls Try.prog 40 [fl b, i64 0] [] (Ret (bo (infB b))) := by
  have hf : (ordr .f64 (b % 9223372036854775808) 9218868437227405311 == some .gt) = infB b := by
    rw [ordr_eq, order_sg (by unfold nanB at hn ⊢; rw [Nat.mod_mod]; exact hn) (by decide)]
    have hg : sgB 9218868437227405311 = 9218868437227405311 := by decide
    have hg2 : sgB (b % 9223372036854775808) = ((b % 9223372036854775808 : Nat) : Int) := by
      rcases sg_cases (b % 9223372036854775808) with ⟨h1, h2⟩ | ⟨h1, h2⟩
      · exfalso
        simp [negB] at h1
      · rw [h2, Nat.mod_mod]
    rw [hg, hg2]
    have hq : b % 9223372036854775808 ≤ 9218868437227405312 := by
      have := of_decide_eq_false hn
      omega
    unfold infB
    rw [Bool.eq_iff_iff, decide_eq_true_eq]
    simp only [beq_iff_eq, Option.some.injEq, Int.compare_eq_gt]
    omega
  refine acalls_of_awp hT mixed Try.func40 rfl (by kernel_rfl) (by kernel_rfl) (Nat.le_of_ble_eq_true rfl) ?_
  refine callP (abs_ok b hb) rfl rfl ?_
  refine fork (fun h => ?_) (fun h => ?_)
  · rw [hf] at h
    refine end0 rfl rfl rfl (congrArg bo h.symm)
  · rw [hf] at h
    refine end0 rfl rfl rfl (congrArg bo h.symm)
end Go.Proofs.Ytdjpcmlnhkiokaa.A
