/- The functions of num, by bits. No condition. -/
import Derived.Test.YthebddjpnkimjaaNa
namespace Go.Proofs.Ythebddjpnkimjaa.A
open Go
set_option linter.unusedVariables false
set_option maxRecDepth 100000

theorem and_sign' (b : Nat) (h : b < 18446744073709551616) : wrp .u64 ((BitVec.ofInt IntKind.u64.bits (b : Int) &&& BitVec.ofInt IntKind.u64.bits 9223372036854775808).toNat : Int) = if 9223372036854775808 ≤ b then 9223372036854775808 else 0 := by rw [wrpE]; exact and_sign b h
theorem andNot_sign' (b : Nat) (h : b < 18446744073709551616) : wrp .u64 ((BitVec.ofInt IntKind.u64.bits (b : Int) &&& ~~~ BitVec.ofInt IntKind.u64.bits 9223372036854775808).toNat : Int) = ((b % 9223372036854775808 : Nat) : Int) := by rw [wrpE]; exact andNot_sign b h
/-- Is it a NaN's word? -/
def nanB (b : Nat) : Bool := decide (9218868437227405312 < b % 9223372036854775808)
theorem order_self (b : Nat) : FloatKind.f64.format.order b b = if nanB b = true then none else some .eq := by
  have hs : Ieee.double.signWeight = 9223372036854775808 := rfl
  have hi : Ieee.double.infRung = 9218868437227405312 := rfl
  have hb : Ieee.double.binade = 4503599627370496 := rfl
  show (Ieee.double.read b).order (Ieee.double.read b) = _
  unfold Ieee.Format.read nanB
  simp only [hs, hi, hb, decide_eq_true_eq]
  split
  · rw [if_neg (by omega)]
    simp [Ieee.Datum.order]
  · split
    · rw [if_neg (by omega)]
      simp [Ieee.Datum.order]
    · split
      · rw [if_neg (by omega)]
        simp [Ieee.Datum.order]
      · rw [if_pos (by omega)]
        rfl
theorem isNaN_ok (b : Nat) : ACalls Try.prog 56 [fl b] [] (Ret (bo (nanB b))) := by
  refine acalls_of_awp hT mixed Try.func56 rfl (by kernel_rfl) (by kernel_rfl) (Nat.le_of_ble_eq_true rfl) ?_
  refine fork (fun h => ?_) (fun h => ?_)
  · refine end0 rfl rfl rfl ?_
    rw [ordr_eq, order_self] at h
    cases hn : nanB b
    · rw [hn] at h; cases h
    · rfl
  · refine end0 rfl rfl rfl ?_
    rw [ordr_eq, order_self] at h
    cases hn : nanB b
    · rfl
    · rw [hn] at h; cases h
/-- Its bits; one NaN's. -/
def bitsB (b : Nat) : Nat := if nanB b = true then 9221120237041090561 else b
theorem bits_ok (b : Nat) : ACalls Try.prog 39 [fl b] [] (Ret (u64 (bitsB b))) := by
  refine acalls_of_awp hT mixed Try.func39 rfl (by kernel_rfl) (by kernel_rfl) (Nat.le_of_ble_eq_true rfl) ?_
  refine callP (isNaN_ok b) rfl rfl ?_
  refine fork (fun h => ?_) (fun h => ?_)
  · refine end0 rfl rfl rfl ?_
    simp only [bitsB, h, if_true]
    rfl
  · refine callP (float64bits_ok b) rfl rfl ?_
    refine end0 rfl rfl rfl (congrArg u64 ?_)
    simp only [bitsB, h, Bool.false_eq_true, if_false]
theorem bitsB_lt {b : Nat} (h : b < 18446744073709551616) : bitsB b < 18446744073709551616 := by
  unfold bitsB
  split <;> omega
theorem from_ok (n : Nat) : ACalls Try.prog 38 [u64 n] [] (Ret (fl (bitsB n))) := by
  refine acalls_of_awp hT mixed Try.func38 rfl (by kernel_rfl) (by kernel_rfl) (Nat.le_of_ble_eq_true rfl) ?_
  refine callP (float64frombits_ok n) rfl rfl ?_
  refine callP (bits_ok (Int.toNat n)) rfl rfl ?_
  refine callP (float64frombits_ok _) rfl rfl ?_
  refine end0 rfl rfl rfl (congrArg fl ?_)
  simp
def placeB (b : Nat) : Nat :=
  if nanB b = true then 18437736874454810626 else if 9223372036854775808 ≤ b then 9218868437227405312 - b % 9223372036854775808 else 9218868437227405313 + b
theorem place_ok (b : Nat) (hb : b < 18446744073709551616) : ACalls Try.prog 58 [fl b] [] (Ret (u64 (placeB b))) := by
  refine acalls_of_awp hT mixed Try.func58 rfl (by kernel_rfl) (by kernel_rfl) (Nat.le_of_ble_eq_true rfl) ?_
  refine callP (bits_ok b) rfl rfl ?_
  refine fork (fun h => ?_) (fun h => ?_)
  · refine end0 rfl rfl rfl (congrArg u64 ?_)
    have h1 : nanB b = true := by
      unfold bitsB at h
      unfold nanB at h ⊢
      simp only [decide_eq_true_eq, beq_iff_eq] at h ⊢
      split at h <;> omega
    simp [placeB, h1]
  · refine fork (fun h2 => ?_) (fun h2 => ?_)
    · refine end0 rfl rfl rfl (congrArg u64 ?_)
      have h1 : nanB b = false := by
        cases hn : nanB b
        · rfl
        · simp [bitsB, hn] at h
      have hbits : bitsB b = b := by simp [bitsB, h1]
      simp only [nanB, decide_eq_false_iff_not] at h1
      rw [hbits] at h2 ⊢
      change (wrp .u64 _ != 0) = true at h2
      rw [and_sign' b hb] at h2
      change wrp .u64 (_ - wrp .u64 _) = _
      rw [andNot_sign' b hb, wrpE, IntKind.wrap_u64]
      simp only [placeB, nanB, decide_eq_true_eq]
      rw [if_neg h1]
      split at h2
      · rw [if_pos (by assumption)]
        omega
      · simp at h2
    · refine end0 rfl rfl rfl (congrArg u64 ?_)
      have h1 : nanB b = false := by
        cases hn : nanB b
        · rfl
        · simp [bitsB, hn] at h
      have hbits : bitsB b = b := by simp [bitsB, h1]
      simp only [nanB, decide_eq_false_iff_not] at h1
      rw [hbits] at h2 ⊢
      change (wrp .u64 _ != 0) = false at h2
      rw [and_sign' b hb] at h2
      change wrp .u64 (9218868437227405313 + (b : Int)) = _
      rw [wrpE, IntKind.wrap_u64]
      simp only [placeB, nanB, decide_eq_true_eq]
      rw [if_neg h1]
      split at h2
      · simp at h2
      · rw [if_neg (by assumption)]
        omega
theorem placeB_lt {b : Nat} (hb : b < 18446744073709551616) : placeB b ≤ 18437736874454810626 := by
  unfold placeB nanB
  simp only [decide_eq_true_eq]
  split
  · omega
  · split <;> omega
def atB (p : Nat) : Nat :=
  if 18437736874454810626 < p then 0 else if p = 18437736874454810626 then 9221120237041090561 else if 9218868437227405313 ≤ p then p - 9218868437227405313 else 9223372036854775808 + (9218868437227405312 - p)
def atE (p : Nat) : Int := if 18437736874454810626 < p then 1 else 0
theorem or_sign (x : Nat) (h : x < 9223372036854775808) : wrp .u64 ((BitVec.ofInt 64 (x : Int) ||| BitVec.ofInt 64 9223372036854775808).toNat : Int) = ((9223372036854775808 + x : Nat) : Int) := by
  have e1 : (BitVec.ofInt 64 (x : Int)).toNat = x := by rw [BitVec.toNat_ofInt]; omega
  have e2 : (BitVec.ofInt 64 (9223372036854775808 : Int)).toNat = 2 ^ 63 := rfl
  rw [BitVec.toNat_or, e1, e2, Nat.or_comm, show (2 : Nat) ^ 63 = 2 ^ 63 * 1 from rfl, ← Nat.two_pow_add_eq_or_of_lt h, wrpE, IntKind.wrap_u64]
  omega
theorem at_ok (p : Nat) (hp : p < 18446744073709551616) : ACalls Try.prog 60 [u64 p] [] (Ret (.tup [fl (atB p), i64 (atE p)])) := by
  refine acalls_of_awp hT mixed Try.func60 rfl (by kernel_rfl) (by kernel_rfl) (Nat.le_of_ble_eq_true rfl) ?_
  refine forkD (fun h => ?_) (fun h => ?_)
  · refine end0 rfl rfl rfl ?_
    have h' : 18437736874454810626 < p := by omega
    simp only [atB, atE, h', if_true]
    rfl
  · have h' : ¬ 18437736874454810626 < p := by omega
    refine fork (fun h2 => ?_) (fun h2 => ?_)
    · have h2' : p = 18437736874454810626 := by
        have : (p : Int) = 18437736874454810626 := by simpa using h2
        omega
      subst h2'
      refine callP (from_ok _) rfl rfl ?_
      refine end0 rfl rfl rfl ?_
      rfl
    · have h2' : ¬ p = 18437736874454810626 := by
        have : ¬ (p : Int) = 18437736874454810626 := by simpa using h2
        omega
      refine forkD (fun h3 => ?_) (fun h3 => ?_)
      · have h3' : 9218868437227405313 ≤ p := by omega
        refine callP (float64frombits_ok _) rfl rfl ?_
        refine end0 rfl rfl rfl ?_
        have : (wrp .u64 ((p : Int) - 9218868437227405313)).toNat = p - 9218868437227405313 := by rw [wrpE, IntKind.wrap_u64]; omega
        simp only [atB, atE, h', h2', h3', if_true, if_false]
        rw [← this]
        rfl
      · have h3' : ¬ 9218868437227405313 ≤ p := by omega
        refine callP (float64frombits_ok _) rfl rfl ?_
        refine end0 rfl rfl rfl ?_
        have e0 : wrp .u64 (9218868437227405312 - (p : Int)) = ((9218868437227405312 - p : Nat) : Int) := by rw [wrpE, IntKind.wrap_u64]; omega
        have : (wrp .u64 ((BitVec.ofInt 64 (wrp .u64 (9218868437227405312 - (p : Int))) ||| BitVec.ofInt 64 9223372036854775808).toNat : Int)).toNat = 9223372036854775808 + (9218868437227405312 - p) := by
          rw [e0, or_sign _ (by omega)]
          omega
        simp only [atB, atE, h', h2', h3', if_false]
        rw [← this]
        rfl
end Go.Proofs.Ythebddjpnkimjaa.A
