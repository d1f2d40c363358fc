/- The document's tallies; the law AggTells. No condition. -/
import Derived.Test.YtdjpcmlnhkiokaaGc
namespace Go.Proofs.Ytdjpcmlnhkiokaa.A
open Go
set_option linter.unusedVariables false
set_option maxRecDepth 100000
set_option pp.maxSteps 1500

def i64n (n : Nat) : AV := i64 n
/-! ### By the document -/
def NanW (v : AV) : Prop := ∃ b : Nat, nanB b = true ∧ v = u64 b
theorem fbits_nan : ACalls Try.prog 11 [.nan .f64] [] (fun E G => ∃ v, NanW v ∧ E = .ret v ∧ G = []) := by
  refine ext_calls (e := Extern.MathFloatBits.float64bits) (show Try.prog.funcs[11]? = some Try.f11 from Try.func11) (by kernel_rfl) rfl (by kernel_rfl) (by kernel_rfl) ?_
  intro X vs hr hv
  obtain ⟨v, rfl, hw⟩ := VL_one hv
  simp only [VR] at hw
  obtain ⟨b, rfl, hb⟩ := hw
  exact ⟨_, u64 b, rfl, VR_sc_int.2 rfl, _, ⟨b, nan_read hb, rfl⟩, rfl, rfl⟩
def PartW (v : AV) : Prop := ∃ b : Nat, nanB b = true ∧ v = .tup [bo (decide (9223372036854775808 ≤ b)), u64 (b / 4503599627370496 % 2048 : Nat), u64 (b % 4503599627370496 : Nat)]
theorem parts_nan : ACalls Try.prog 23 [.nan .f64] [] (fun E G => ∃ v, PartW v ∧ E = .ret v ∧ G = []) := by
  refine acalls_of_awp hT mixed Try.func23 rfl (by kernel_rfl) (by kernel_rfl) (Nat.le_of_ble_eq_true rfl) ?_
  refine callE fbits_nan rfl (fun v hv => by obtain ⟨b, _, rfl⟩ := hv; rfl) ?_
  rintro v ⟨b, hb, rfl⟩
  have e1 : hd ((wrp .u64 ((b : Int).tdiv 4503599627370496)).tmod 2048) = ((b / 4503599627370496 % 2048 : Nat) : Int) := by
    have : (b : Int).tdiv 4503599627370496 = ((b / 4503599627370496 : Nat) : Int) := rfl
    rw [this, wrpE, wu64, hd_eq]
    have h2 : ((b / 4503599627370496 : Nat) : Int) % 18446744073709551616 = ((b / 4503599627370496 % 18446744073709551616 : Nat) : Int) := rfl
    rw [h2]
    show ((b / 4503599627370496 % 18446744073709551616 % 2048 : Nat) : Int) = _
    omega
  have e2 : hd ((b : Int).tmod 4503599627370496) = ((b % 4503599627370496 : Nat) : Int) := tmod_u _ 4503599627370496
  refine forkD (fun h => ?_) (fun h => ?_)
  · refine Ob.intro (by decide) ?_
    refine Ob.intro (by decide) ?_
    refine Ob.intro (by decide) ?_
    refine endE rfl rfl rfl ⟨b, hb, ?_⟩
    rw [← e1, ← e2, show decide (9223372036854775808 ≤ b) = true from decide_eq_true (by omega)]
    rfl
  · refine Ob.intro (by decide) ?_
    refine Ob.intro (by decide) ?_
    refine Ob.intro (by decide) ?_
    refine endE rfl rfl rfl ⟨b, hb, ?_⟩
    rw [← e1, ← e2, show decide (9223372036854775808 ≤ b) = false from decide_eq_false (by omega)]
    rfl
theorem rNaN_nan : ACalls Try.prog 21 [.nan .f64] [] (Ret (bo true)) := by
  refine acalls_of_awp hT mixed Try.func21 rfl (by kernel_rfl) (by kernel_rfl) (Nat.le_of_ble_eq_true rfl) ?_
  refine callE parts_nan rfl (fun v hv => by obtain ⟨b, _, rfl⟩ := hv; rfl) ?_
  rintro v ⟨b, hb, rfl⟩
  have hn := of_decide_eq_true hb
  have h1 : b / 4503599627370496 % 2048 = 2047 := by omega
  have h2 : 0 < b % 4503599627370496 := by omega
  generalize b / 4503599627370496 % 2048 = e at *
  generalize b % 4503599627370496 = f at *
  refine fork (fun h0 => ?_) (fun h0 => ?_) <;>
  · refine fork (fun g => ?_) (fun g => by rw [h1] at g; cases g)
    refine forkD (fun g2 => ?_) (fun g2 => by omega)
    refine end0 rfl rfl rfl rfl
theorem parts_any (b : Nat) : ACalls Try.prog 23 [fl b] [] (Ret (.tup [bo (decide (9223372036854775808 ≤ b)), u64 (b / 4503599627370496 % 2048 : Nat), u64 (b % 4503599627370496 : Nat)])) := by
  refine acalls_of_awp hT mixed Try.func23 rfl (by kernel_rfl) (by kernel_rfl) (Nat.le_of_ble_eq_true rfl) ?_
  refine callP (float64bits_ok b) rfl rfl ?_
  have e1 : hd ((wrp .u64 ((b : Int).tdiv 4503599627370496)).tmod 2048) = ((b / 4503599627370496 % 2048 : Nat) : Int) := by
    have : (b : Int).tdiv 4503599627370496 = ((b / 4503599627370496 : Nat) : Int) := rfl
    rw [this, wrpE, wu64, hd_eq]
    have h2 : ((b / 4503599627370496 : Nat) : Int) % 18446744073709551616 = ((b / 4503599627370496 % 18446744073709551616 : Nat) : Int) := rfl
    rw [h2]
    show ((b / 4503599627370496 % 18446744073709551616 % 2048 : Nat) : Int) = _
    omega
  have e2 : hd ((b : Int).tmod 4503599627370496) = ((b % 4503599627370496 : Nat) : Int) := tmod_u _ 4503599627370496
  refine forkD (fun h => ?_) (fun h => ?_)
  · refine Ob.intro (by decide) ?_
    refine Ob.intro (by decide) ?_
    refine Ob.intro (by decide) ?_
    refine end0 rfl rfl rfl ?_
    rw [← e1, ← e2, show decide (9223372036854775808 ≤ b) = true from decide_eq_true (by omega)]
    rfl
  · refine Ob.intro (by decide) ?_
    refine Ob.intro (by decide) ?_
    refine Ob.intro (by decide) ?_
    refine end0 rfl rfl rfl ?_
    rw [← e1, ← e2, show decide (9223372036854775808 ≤ b) = false from decide_eq_false (by omega)]
    rfl
theorem rNaN_any (b : Nat) : ACalls Try.prog 21 [fl b] [] (Ret (bo (nanB b))) := by
  refine acalls_of_awp hT mixed Try.func21 rfl (by kernel_rfl) (by kernel_rfl) (Nat.le_of_ble_eq_true rfl) ?_
  refine callP (parts_any b) rfl rfl ?_
  have hn : nanB b = decide (b / 4503599627370496 % 2048 = 2047 ∧ 0 < b % 4503599627370496) := by
    unfold nanB
    rw [decide_eq_decide]
    omega
  rw [hn]
  generalize b / 4503599627370496 % 2048 = e at *
  generalize b % 4503599627370496 = f at *
  refine fork (fun h0 => ?_) (fun h0 => ?_) <;>
  · refine fork (fun g => ?_) (fun g => ?_)
    · have g1 : (e : Int) = 2047 := by simpa using g
      refine forkD (fun g2 => ?_) (fun g2 => ?_)
      · refine end0 rfl rfl rfl (congrArg bo (decide_eq_true ?_).symm)
        omega
      · refine end0 rfl rfl rfl (congrArg bo (decide_eq_false ?_).symm)
        omega
    · have g1 : ¬ (e : Int) = 2047 := by simpa using g
      refine end0 rfl rfl rfl (congrArg bo (decide_eq_false ?_).symm)
      omega
theorem rBits_any (b : Nat) : ACalls Try.prog 9 [fl b] [] (Ret (u64 (bitsB b))) := by
  refine acalls_of_awp hT mixed Try.func9 rfl (by kernel_rfl) (by kernel_rfl) (Nat.le_of_ble_eq_true rfl) ?_
  refine callP (rNaN_any b) rfl rfl ?_
  refine fork (fun h => ?_) (fun h => ?_)
  · refine end0 rfl rfl rfl (congrArg u64 ?_)
    simp [bitsB, h]
  · refine callP (float64bits_ok b) rfl rfl ?_
    refine end0 rfl rfl rfl (congrArg u64 ?_)
    rw [bitsB_eq h]
theorem rBits_nan : ACalls Try.prog 9 [.nan .f64] [] (Ret (u64 nanW)) := by
  refine acalls_of_awp hT mixed Try.func9 rfl (by kernel_rfl) (by kernel_rfl) (Nat.le_of_ble_eq_true rfl) ?_
  refine callP rNaN_nan rfl rfl ?_
  refine end0 rfl rfl rfl rfl
theorem rBitsO_ok (s : Option Nat) : ACalls Try.prog 9 [flo s] [] (Ret (u64 (bitsO s))) := by
  cases s with
  | none => exact rBits_nan
  | some b => exact rBits_any b
end Go.Proofs.Ytdjpcmlnhkiokaa.A
