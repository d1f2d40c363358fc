/- The functions of num that are told by values alone. No condition. -/
import Derived.Test.YtgchhmfobkcnfaaBb
import Derived.Laws.Bits64
namespace Go.Proofs.Ytgchhmfobkcnfaa.A
open Go
set_option linter.unusedVariables false
set_option maxRecDepth 100000

theorem float64frombits_ok (n : Int) : ACalls Try.prog 56 [u64 n] [] (Ret (fl n.toNat)) := by
  refine ext_calls (e := Extern.MathFloatBits.float64frombits) (show Try.prog.funcs[56]? = some Try.f56 from Try.func56) (by kernel_rfl) rfl (by kernel_rfl) (by kernel_rfl) ?_
  intro X vs hr hv
  obtain ⟨v, rfl, hw⟩ := VL_one hv
  rw [u64, VR_sc_int] at hw
  subst hw
  exact ⟨_, fl n.toNat, rfl, VR_sc_float.2 rfl, rfl, rfl⟩
theorem float64bits_ok (n : Nat) : ACalls Try.prog 83 [fl n] [] (Ret (u64 n)) := by
  refine ext_calls (e := Extern.MathFloatBits.float64bits) (show Try.prog.funcs[83]? = some Try.f83 from Try.func83) (by kernel_rfl) rfl (by kernel_rfl) (by kernel_rfl) ?_
  intro X vs hr hv
  obtain ⟨v, rfl, hw⟩ := VL_one hv
  rw [fl, VR_sc_float] at hw
  subst hw
  exact ⟨_, u64 n, rfl, VR_sc_int.2 rfl, rfl, rfl⟩
/-! ### Words of 64 bits -/
theorem and_sign (b : Nat) (h : b < 18446744073709551616) : IntKind.u64.wrap ((BitVec.ofInt 64 (b : Int) &&& BitVec.ofInt 64 9223372036854775808).toNat : Int) = if 9223372036854775808 ≤ b then 9223372036854775808 else 0 := by
  have e : (BitVec.ofInt 64 (b : Int) &&& BitVec.ofInt 64 9223372036854775808).toNat = if 9223372036854775808 ≤ b then 9223372036854775808 else 0 := by
    have e1 : (BitVec.ofInt 64 (b : Int)).toNat = b := by rw [BitVec.toNat_ofInt]; omega
    have e2 : (BitVec.ofInt 64 (9223372036854775808 : Int)).toNat = 2 ^ 63 := rfl
    rw [BitVec.toNat_and, e1, e2]
    have h63 : b.testBit 63 = decide (9223372036854775808 ≤ b) := by
      rw [Nat.testBit_eq_decide_div_mod_eq]
      congr 1
      apply propext
      omega
    apply Nat.eq_of_testBit_eq
    intro i
    rw [Nat.testBit_and, Nat.testBit_two_pow]
    by_cases hi : 63 = i
    · subst hi
      rw [h63]
      split
      · rename_i hb
        simp only [hb, decide_true, Bool.true_and]
        rfl
      · rename_i hb
        simp [hb]
    · simp only [hi, decide_false, Bool.and_false]
      split
      · rw [show 9223372036854775808 = 2 ^ 63 from rfl, Nat.testBit_two_pow]
        simp [hi]
      · simp
  rw [e]
  split <;> rfl
theorem andNot_sign (b : Nat) (h : b < 18446744073709551616) : IntKind.u64.wrap ((BitVec.ofInt 64 (b : Int) &&& ~~~ BitVec.ofInt 64 9223372036854775808).toNat : Int) = ((b % 9223372036854775808 : Nat) : Int) := by
  have e : (BitVec.ofInt 64 (b : Int) &&& ~~~ BitVec.ofInt 64 9223372036854775808).toNat = b % 9223372036854775808 := by
    have e1 : (BitVec.ofInt 64 (b : Int)).toNat = b := by rw [BitVec.toNat_ofInt]; omega
    have e2 : (~~~ BitVec.ofInt 64 (9223372036854775808 : Int)).toNat = 2 ^ 63 - 1 := rfl
    rw [BitVec.toNat_and, e1, e2, Nat.and_two_pow_sub_one_eq_mod]
  rw [e, IntKind.wrap_u64]
  omega
end Go.Proofs.Ytgchhmfobkcnfaa.A

namespace Go.Proofs.Ytgchhmfobkcnfaa.A
open Go
set_option linter.unusedVariables false
set_option maxRecDepth 100000

theorem and_sign' (b : Nat) (h : b < 18446744073709551616) : wrp .u64 ((BitVec.ofInt IntKind.u64.bits (b : Int) &&& BitVec.ofInt IntKind.u64.bits 9223372036854775808).toNat : Int) = if 9223372036854775808 ≤ b then 9223372036854775808 else 0 := by rw [wrpE]; exact and_sign b h
theorem andNot_sign' (b : Nat) (h : b < 18446744073709551616) : wrp .u64 ((BitVec.ofInt IntKind.u64.bits (b : Int) &&& ~~~ BitVec.ofInt IntKind.u64.bits 9223372036854775808).toNat : Int) = ((b % 9223372036854775808 : Nat) : Int) := by rw [wrpE]; exact andNot_sign b h
/-- Is it a NaN's word? -/
def nanB (b : Nat) : Bool := decide (9218868437227405312 < b % 9223372036854775808)
theorem order_self (b : Nat) : FloatKind.f64.format.order b b = if nanB b = true then none else some .eq := by
  have hs : Ieee.double.signWeight = 9223372036854775808 := rfl
  have hi : Ieee.double.infRung = 9218868437227405312 := rfl
  have hb : Ieee.double.binade = 4503599627370496 := rfl
  show (Ieee.double.read b).order (Ieee.double.read b) = _
  unfold Ieee.Format.read nanB
  simp only [hs, hi, hb, decide_eq_true_eq]
  split
  · rw [if_neg (by omega)]
    simp [Ieee.Datum.order]
  · split
    · rw [if_neg (by omega)]
      simp [Ieee.Datum.order]
    · split
      · rw [if_neg (by omega)]
        simp [Ieee.Datum.order]
      · rw [if_pos (by omega)]
        rfl
theorem isNaN_ok (b : Nat) : ACalls Try.prog 97 [fl b] [] (Ret (bo (nanB b))) := by
  refine acalls_of_awp hT mixed Try.func97 rfl (by kernel_rfl) (by kernel_rfl) (Nat.le_of_ble_eq_true rfl) ?_
  refine fork (fun h => ?_) (fun h => ?_)
  · refine end0 rfl rfl rfl ?_
    rw [ordr_eq, order_self] at h
    cases hn : nanB b
    · rw [hn] at h; cases h
    · rfl
  · refine end0 rfl rfl rfl ?_
    rw [ordr_eq, order_self] at h
    cases hn : nanB b
    · rfl
    · rw [hn] at h; cases h
/-- Its bits; one NaN's. -/
def bitsB (b : Nat) : Nat := if nanB b = true then 9221120237041090561 else b
theorem bits_ok (b : Nat) : ACalls Try.prog 79 [fl b] [] (Ret (u64 (bitsB b))) := by
  refine acalls_of_awp hT mixed Try.func79 rfl (by kernel_rfl) (by kernel_rfl) (Nat.le_of_ble_eq_true rfl) ?_
  refine callP (isNaN_ok b) rfl rfl ?_
  refine fork (fun h => ?_) (fun h => ?_)
  · refine end0 rfl rfl rfl ?_
    simp only [bitsB, h, if_true]
    rfl
  · refine callP (float64bits_ok b) rfl rfl ?_
    refine end0 rfl rfl rfl (congrArg u64 ?_)
    simp only [bitsB, h, Bool.false_eq_true, if_false]
theorem bitsB_lt {b : Nat} (h : b < 18446744073709551616) : bitsB b < 18446744073709551616 := by
  unfold bitsB
  split <;> omega
theorem from_ok (n : Nat) : ACalls Try.prog 80 [u64 n] [] (Ret (fl (bitsB n))) := by
  refine acalls_of_awp hT mixed Try.func80 rfl (by kernel_rfl) (by kernel_rfl) (Nat.le_of_ble_eq_true rfl) ?_
  refine callP (float64frombits_ok n) rfl rfl ?_
  refine callP (bits_ok (Int.toNat n)) rfl rfl ?_
  refine callP (float64frombits_ok _) rfl rfl ?_
  refine end0 rfl rfl rfl (congrArg fl ?_)
  simp
def placeB (b : Nat) : Nat :=
  if nanB b = true then 18437736874454810626 else if 9223372036854775808 ≤ b then 9218868437227405312 - b % 9223372036854775808 else 9218868437227405313 + b
theorem place_ok (b : Nat) (hb : b < 18446744073709551616) : ACalls Try.prog 102 [fl b] [] (Ret (u64 (placeB b))) := by
  refine acalls_of_awp hT mixed Try.func102 rfl (by kernel_rfl) (by kernel_rfl) (Nat.le_of_ble_eq_true rfl) ?_
  refine callP (bits_ok b) rfl rfl ?_
  refine fork (fun h => ?_) (fun h => ?_)
  · refine end0 rfl rfl rfl (congrArg u64 ?_)
    have h1 : nanB b = true := by
      unfold bitsB at h
      unfold nanB at h ⊢
      simp only [decide_eq_true_eq, beq_iff_eq] at h ⊢
      split at h <;> omega
    simp [placeB, h1]
  · refine fork (fun h2 => ?_) (fun h2 => ?_)
    · refine end0 rfl rfl rfl (congrArg u64 ?_)
      have h1 : nanB b = false := by
        cases hn : nanB b
        · rfl
        · simp [bitsB, hn] at h
      have hbits : bitsB b = b := by simp [bitsB, h1]
      simp only [nanB, decide_eq_false_iff_not] at h1
      rw [hbits] at h2 ⊢
      change (wrp .u64 _ != 0) = true at h2
      rw [and_sign' b hb] at h2
      change wrp .u64 (_ - wrp .u64 _) = _
      rw [andNot_sign' b hb, wrpE, IntKind.wrap_u64]
      simp only [placeB, nanB, decide_eq_true_eq]
      rw [if_neg h1]
      split at h2
      · rw [if_pos (by assumption)]
        omega
      · simp at h2
    · refine end0 rfl rfl rfl (congrArg u64 ?_)
      have h1 : nanB b = false := by
        cases hn : nanB b
        · rfl
        · simp [bitsB, hn] at h
      have hbits : bitsB b = b := by simp [bitsB, h1]
      simp only [nanB, decide_eq_false_iff_not] at h1
      rw [hbits] at h2 ⊢
      change (wrp .u64 _ != 0) = false at h2
      rw [and_sign' b hb] at h2
      change wrp .u64 (9218868437227405313 + (b : Int)) = _
      rw [wrpE, IntKind.wrap_u64]
      simp only [placeB, nanB, decide_eq_true_eq]
      rw [if_neg h1]
      split at h2
      · simp at h2
      · rw [if_neg (by assumption)]
        omega
theorem placeB_lt {b : Nat} (hb : b < 18446744073709551616) : placeB b ≤ 18437736874454810626 := by
  unfold placeB nanB
  simp only [decide_eq_true_eq]
  split
  · omega
  · split <;> omega
def atB (p : Nat) : Nat :=
  if 18437736874454810626 < p then 0 else if p = 18437736874454810626 then 9221120237041090561 else if 9218868437227405313 ≤ p then p - 9218868437227405313 else 9223372036854775808 + (9218868437227405312 - p)
def atE (p : Nat) : Int := if 18437736874454810626 < p then 1 else 0
theorem or_sign (x : Nat) (h : x < 9223372036854775808) : wrp .u64 ((BitVec.ofInt 64 (x : Int) ||| BitVec.ofInt 64 9223372036854775808).toNat : Int) = ((9223372036854775808 + x : Nat) : Int) := by
  have e1 : (BitVec.ofInt 64 (x : Int)).toNat = x := by rw [BitVec.toNat_ofInt]; omega
  have e2 : (BitVec.ofInt 64 (9223372036854775808 : Int)).toNat = 2 ^ 63 := rfl
  rw [BitVec.toNat_or, e1, e2, Nat.or_comm, show (2 : Nat) ^ 63 = 2 ^ 63 * 1 from rfl, ← Nat.two_pow_add_eq_or_of_lt h, wrpE, IntKind.wrap_u64]
  omega
theorem at_ok (p : Nat) (hp : p < 18446744073709551616) : ACalls Try.prog 112 [u64 p] [] (Ret (.tup [fl (atB p), i64 (atE p)])) := by
  refine acalls_of_awp hT mixed Try.func112 rfl (by kernel_rfl) (by kernel_rfl) (Nat.le_of_ble_eq_true rfl) ?_
  refine forkD (fun h => ?_) (fun h => ?_)
  · refine end0 rfl rfl rfl ?_
    have h' : 18437736874454810626 < p := by omega
    simp only [atB, atE, h', if_true]
    rfl
  · have h' : ¬ 18437736874454810626 < p := by omega
    refine fork (fun h2 => ?_) (fun h2 => ?_)
    · have h2' : p = 18437736874454810626 := by
        have : (p : Int) = 18437736874454810626 := by simpa using h2
        omega
      subst h2'
      refine callP (from_ok _) rfl rfl ?_
      refine end0 rfl rfl rfl ?_
      rfl
    · have h2' : ¬ p = 18437736874454810626 := by
        have : ¬ (p : Int) = 18437736874454810626 := by simpa using h2
        omega
      refine forkD (fun h3 => ?_) (fun h3 => ?_)
      · have h3' : 9218868437227405313 ≤ p := by omega
        refine callP (float64frombits_ok _) rfl rfl ?_
        refine end0 rfl rfl rfl ?_
        have : (wrp .u64 ((p : Int) - 9218868437227405313)).toNat = p - 9218868437227405313 := by rw [wrpE, IntKind.wrap_u64]; omega
        simp only [atB, atE, h', h2', h3', if_true, if_false]
        rw [← this]
        rfl
      · have h3' : ¬ 9218868437227405313 ≤ p := by omega
        refine callP (float64frombits_ok _) rfl rfl ?_
        refine end0 rfl rfl rfl ?_
        have e0 : wrp .u64 (9218868437227405312 - (p : Int)) = ((9218868437227405312 - p : Nat) : Int) := by rw [wrpE, IntKind.wrap_u64]; omega
        have : (wrp .u64 ((BitVec.ofInt 64 (wrp .u64 (9218868437227405312 - (p : Int))) ||| BitVec.ofInt 64 9223372036854775808).toNat : Int)).toNat = 9223372036854775808 + (9218868437227405312 - p) := by
          rw [e0, or_sign _ (by omega)]
          omega
        simp only [atB, atE, h', h2', h3', if_false]
        rw [← this]
        rfl
end Go.Proofs.Ytgchhmfobkcnfaa.A

namespace Go.Proofs.Ytgchhmfobkcnfaa.A
open Go
set_option linter.unusedVariables false
set_option maxRecDepth 100000

def u8 (n : Int) : AV := .sc (.int .u8 n)
def kc (p i : Nat) : List AV := [u8 (if 0 < i then p / 72057594037927936 % 256 else 0), u8 (if 1 < i then p / 281474976710656 % 256 else 0), u8 (if 2 < i then p / 1099511627776 % 256 else 0), u8 (if 3 < i then p / 4294967296 % 256 else 0),
  u8 (if 4 < i then p / 16777216 % 256 else 0), u8 (if 5 < i then p / 65536 % 256 else 0), u8 (if 6 < i then p / 256 % 256 else 0), u8 (if 7 < i then p % 256 else 0)]
set_option pp.maxSteps 1500
theorem kc_set (p i : Nat) (hi : i < 8) : setAll (kc p i) (0 + ((i : Int).toNat * 1)) [u8 (wrp .u8 (hd ((p : Int).fdiv (2 ^ min (wrp .i64 (8 * wrp .i64 (7 - (i : Int)))).toNat IntKind.u64.bits))))] = kc p (i + 1) := by
  have e : IntKind.u64.bits = 64 := rfl
  match i, hi with
  | 0, _ => simp [wrpE, hd_eq, wi64, wu8, e, kc, setAll, Int.fdiv_eq_ediv]
  | 1, _ => simp [wrpE, hd_eq, wi64, wu8, e, kc, setAll, Int.fdiv_eq_ediv]
  | 2, _ => simp [wrpE, hd_eq, wi64, wu8, e, kc, setAll, Int.fdiv_eq_ediv]
  | 3, _ => simp [wrpE, hd_eq, wi64, wu8, e, kc, setAll, Int.fdiv_eq_ediv]
  | 4, _ => simp [wrpE, hd_eq, wi64, wu8, e, kc, setAll, Int.fdiv_eq_ediv]
  | 5, _ => simp [wrpE, hd_eq, wi64, wu8, e, kc, setAll, Int.fdiv_eq_ediv]
  | 6, _ => simp [wrpE, hd_eq, wi64, wu8, e, kc, setAll, Int.fdiv_eq_ediv]
  | 7, _ => simp [wrpE, hd_eq, wi64, wu8, e, kc, setAll, Int.fdiv_eq_ediv]
def keyL (p : Nat) : List UInt8 := [UInt8.ofNat (p / 72057594037927936 % 256), UInt8.ofNat (p / 281474976710656 % 256), UInt8.ofNat (p / 1099511627776 % 256), UInt8.ofNat (p / 4294967296 % 256), UInt8.ofNat (p / 16777216 % 256), UInt8.ofNat (p / 65536 % 256), UInt8.ofNat (p / 256 % 256), UInt8.ofNat (p % 256)]
theorem kc_text (p : Nat) : textA (kc p 8) = some (keyL p) := by
  have h : ∀ c : Nat, ((p : Int) / (c : Int) % 256).toNat = p / c % 256 := fun c => by
    have : ((p : Int) / (c : Int) % 256) = ((p / c % 256 : Nat) : Int) := by simp
    rw [this]
    rfl
  have h1 := h 72057594037927936
  have h2 := h 281474976710656
  have h3 := h 1099511627776
  have h4 := h 4294967296
  have h5 := h 16777216
  have h6 := h 65536
  have h7 := h 256
  have h8 : ((p : Int) % 256).toNat = p % 256 := by omega
  simp only [kc, u8, textA, keyL, Option.map_some, Nat.reduceLT, if_true]
  have c1 : ((72057594037927936 : Nat) : Int) = 72057594037927936 := rfl
  have c2 : ((281474976710656 : Nat) : Int) = 281474976710656 := rfl
  have c3 : ((1099511627776 : Nat) : Int) = 1099511627776 := rfl
  have c4 : ((4294967296 : Nat) : Int) = 4294967296 := rfl
  have c5 : ((16777216 : Nat) : Int) = 16777216 := rfl
  have c6 : ((65536 : Nat) : Int) = 65536 := rfl
  have c7 : ((256 : Nat) : Int) = 256 := rfl
  rw [c1] at h1; rw [c2] at h2; rw [c3] at h3; rw [c4] at h4; rw [c5] at h5; rw [c6] at h6; rw [c7] at h7
  rw [h1, h2, h3, h4, h5, h6, h7, h8]
theorem key_ok (b : Nat) (hb : b < 18446744073709551616) : ACalls Try.prog 91 [fl b] [] (Ret (.sc (.string ⟨(keyL (placeB b)).toArray⟩))) := by
  have hp := placeB_lt hb
  refine acalls_of_awp hT mixed Try.func91 rfl (by kernel_rfl) (by kernel_rfl) (Nat.le_of_ble_eq_true rfl) ?_
  refine callP (place_ok b hb) rfl rfl ?_
  refine loopI (fun i : Fin 9 => [(3, .ptr 0 0), (4, u64 (placeB b)), (8, i64 (i.val : Int))]) (fun i => [.row (kc (placeB b) i.val)]) (fun i => 8 - i.val) 0 [0] ⟨⟨rfl, rfl, rfl, True.intro⟩, ⟨.inl rfl, True.intro⟩, rfl, rfl, rfl⟩ ?_
  intro i K hK
  obtain ⟨i, hi⟩ := i
  refine forkD (fun h => ?_) (fun h => ?_)
  · have h' : i < 8 := by have : (i : Int) < 8 := h; omega
    refine Ob.intro (by simp only [wrpE, wi64]; omega) ?_
    refine Ob.intro (by simp only []; omega) ?_
    refine optK_intro (wr_eq rfl (show 0 + (i : Int).toNat * 1 + 1 ≤ 8 by omega)) ?_
    refine hK ⟨i + 1, by omega⟩ [0] _ ?_ ?_
    · show 8 - i = 8 - (i + 1) + 1
      omega
    · refine ⟨⟨rfl, rfl, congrArg i64 (?_ : wrp .i64 ((i : Int) + 1) = ((i + 1 : Nat) : Int)), True.intro⟩, ⟨.inl (congrArg (fun c => some (AObj.row c)) (kc_set (placeB b) i h')), True.intro⟩, rfl, rfl, rfl⟩
      rw [wrpE, wi64]
      omega
  · have h' : i = 8 := by have : ¬ (i : Int) < 8 := h; omega
    subst h'
    refine Ob.intro (by decide) ?_
    refine end0 rfl rfl rfl (congrArg (fun l : List UInt8 => AV.sc (.string ⟨l.toArray⟩)) (Option.some.inj (show some _ = some (keyL (placeB b)) from kc_text (placeB b))))
end Go.Proofs.Ytgchhmfobkcnfaa.A

namespace Go.Proofs.Ytgchhmfobkcnfaa.A
open Go
set_option linter.unusedVariables false
set_option maxRecDepth 100000
set_option pp.maxSteps 1500

theorem bitsB_eq {b : Nat} (h : nanB b = false) : bitsB b = b := by simp [bitsB, h]
end Go.Proofs.Ytgchhmfobkcnfaa.A

namespace Go.Proofs.Ytgchhmfobkcnfaa.A
open Go
set_option linter.unusedVariables false
set_option maxRecDepth 100000
set_option pp.maxSteps 1500

end Go.Proofs.Ytgchhmfobkcnfaa.A

namespace Go.Proofs.Ytgchhmfobkcnfaa.A
open Go
set_option linter.unusedVariables false
set_option maxRecDepth 100000
set_option pp.maxSteps 1500

theorem atB_place {b : Nat} (hb : b < 18446744073709551616) : atB (placeB b) = bitsB b := by
  unfold atB placeB bitsB
  cases hn : nanB b
  · simp only [nanB, decide_eq_false_iff_not] at hn
    simp only [Bool.false_eq_true, if_false]
    split
    · rw [if_neg (by omega), if_neg (by omega), if_neg (by omega)]
      omega
    · rw [if_neg (by omega), if_neg (by omega), if_pos (by omega)]
      omega
  · simp
theorem bitsB_bitsB (b : Nat) : bitsB (bitsB b) = bitsB b := by
  unfold bitsB
  cases hn : nanB b
  · simp [hn]
  · simp [nanB]
end Go.Proofs.Ytgchhmfobkcnfaa.A

namespace Go.Proofs.Ytgchhmfobkcnfaa.A
open Go
set_option linter.unusedVariables false
set_option maxRecDepth 100000
set_option pp.maxSteps 1500

/-- The number that bytes tell, the highest first. -/
def valL (l : List UInt8) : Nat := l.foldl (fun p c => p * 256 + c.toNat) 0
theorem valL_snoc (l : List UInt8) (c : UInt8) : valL (l ++ [c]) = valL l * 256 + c.toNat := by simp [valL]
theorem valL_lt : ∀ (l : List UInt8), valL l < 256 ^ l.length := by
  intro l
  generalize hk : l.length = k
  induction k generalizing l with
  | zero => rw [List.eq_nil_of_length_eq_zero hk]; decide
  | succ k ih =>
    have hne : l ≠ [] := fun h => by rw [h] at hk; simp at hk
    rw [← List.dropLast_concat_getLast hne, valL_snoc]
    have h1 := ih l.dropLast (by simp [hk])
    have h2 := (l.getLast hne).toNat_lt
    rw [Nat.pow_succ]
    omega
theorem take_snoc {l : List UInt8} {i : Nat} (h : i < l.length) : valL (l.take (i + 1)) = valL (l.take i) * 256 + (l.getD i 0).toNat := by
  rw [List.take_succ_eq_append_getElem h, valL_snoc, List.getD_eq_getElem?_getD, List.getElem?_eq_getElem h, Option.getD_some]
theorem or_byte (p : Nat) (c : UInt8) (h : p < 72057594037927936) : wrp .u64 ((BitVec.ofInt IntKind.u64.bits (wrp .u64 ((p : Int) * 2 ^ min (8 : Int).toNat IntKind.u64.bits)) ||| BitVec.ofInt IntKind.u64.bits (wrp .u64 (c.toNat : Int))).toNat : Int) = ((p * 256 + c.toNat : Nat) : Int) := by
  have hc := c.toNat_lt
  have e0 : wrp .u64 ((p : Int) * 2 ^ min (8 : Int).toNat IntKind.u64.bits) = ((2 ^ 8 * p : Nat) : Int) := by
    have : (2 : Int) ^ min (8 : Int).toNat IntKind.u64.bits = 256 := rfl
    rw [this, wrpE, wu64]
    omega
  have e1 : wrp .u64 (c.toNat : Int) = ((c.toNat : Nat) : Int) := by rw [wrpE, wu64]; omega
  have e2 : (BitVec.ofInt 64 ((2 ^ 8 * p : Nat) : Int)).toNat = 2 ^ 8 * p := by rw [BitVec.toNat_ofInt]; omega
  have e3 : (BitVec.ofInt 64 ((c.toNat : Nat) : Int)).toNat = c.toNat := by rw [BitVec.toNat_ofInt]; omega
  have e4 : (BitVec.ofInt IntKind.u64.bits ((2 ^ 8 * p : Nat) : Int) ||| BitVec.ofInt IntKind.u64.bits ((c.toNat : Nat) : Int)).toNat = 2 ^ 8 * p + c.toNat := by
    show (BitVec.ofInt 64 ((2 ^ 8 * p : Nat) : Int) ||| BitVec.ofInt 64 ((c.toNat : Nat) : Int)).toNat = _
    rw [BitVec.toNat_or, e2, e3, ← Nat.two_pow_add_eq_or_of_lt (by omega)]
  rw [e0, e1, e4, wrpE, wu64]
  omega
def ukE (s : ByteArray) : Int := if s.size ≠ 8 then 4 else if 18437736874454810626 < valL s.data.toList then 4 else 0
def ukB (s : ByteArray) : Nat := if ukE s = 0 then atB (valL s.data.toList) else 0
theorem unkey_ok (s : ByteArray) : ACalls Try.prog 104 [.sc (.string s)] [] (Ret (.tup [fl (ukB s), i64 (ukE s)])) := by
  refine acalls_of_awp hT mixed Try.func104 rfl (by kernel_rfl) (by kernel_rfl) (Nat.le_of_ble_eq_true rfl) ?_
  refine fork (fun h => ?_) (fun h => ?_)
  · have h' : s.size ≠ 8 := by
      intro he
      rw [he] at h
      cases h
    refine end0 rfl rfl rfl ?_
    have : ukE s = 4 := by simp [ukE, h']
    simp only [ukB, this]
    rfl
  · have h' : s.size = 8 := by
      have := bne_eq_false_iff_eq.1 h
      omega
    have hl : s.data.toList.length = 8 := by simpa using h'
    refine loopI (fun i : Fin 9 => [(0, .sc (.string s)), (4, u64 (valL (s.data.toList.take i.val) : Nat)), (11, i64 (i.val : Int))]) (fun i => []) (fun i => 8 - i.val) 0 [] ⟨⟨rfl, rfl, rfl, True.intro⟩, True.intro, rfl, rfl, rfl⟩ ?_
    intro i K hK
    obtain ⟨i, hi⟩ := i
    refine forkD (fun g => ?_) (fun g => ?_)
    · have g' : i < 8 := by have : (i : Int) < 8 := g; omega
      refine Ob.intro (by decide) ?_
      refine Ob.intro ⟨Int.natCast_nonneg _, by rw [h']; exact g⟩ ?_
      refine hK ⟨i + 1, by omega⟩ [] _ ?_ ?_
      · show 8 - i = 8 - (i + 1) + 1
        omega
      · refine ⟨⟨rfl, congrArg u64 ?_, congrArg i64 (?_ : wrp .i64 ((i : Int) + 1) = ((i + 1 : Nat) : Int)), True.intro⟩, True.intro, rfl, rfl, rfl⟩
        · have hlt := valL_lt (s.data.toList.take i)
          have hm : 256 ^ (s.data.toList.take i).length ≤ 256 ^ 7 := Nat.pow_le_pow_right (by decide) (by simp; omega)
          show _ = ((valL (s.data.toList.take (i + 1)) : Nat) : Int)
          rw [take_snoc (by omega)]
          exact or_byte (valL (s.data.toList.take i)) _ (by omega)
        · rw [wrpE, wi64]
          omega
    · have g' : i = 8 := by have : ¬ (i : Int) < 8 := g; omega
      subst g'
      have hv : valL s.data.toList < 18446744073709551616 := by
        have := valL_lt s.data.toList
        rw [hl] at this
        exact this
      have ht : s.data.toList.take 8 = s.data.toList := List.take_of_length_le (by omega)
      have hat := at_ok _ hv
      rw [← ht] at hat
      refine callP hat rfl rfl ?_
      refine fork (fun g2 => ?_) (fun g2 => ?_)
      · rw [ht] at g2
        have g3 : ukE s = 4 := by
          unfold atE at g2
          split at g2
          · rename_i h5
            simp [ukE, h', h5]
          · cases g2
        refine end0 rfl rfl rfl ?_
        simp only [ukB, g3]
        rfl
      · rw [ht] at g2
        have g3 : ukE s = 0 := by
          unfold atE at g2
          split at g2
          · cases g2
          · rename_i h5
            simp [ukE, h', h5]
        refine end0 rfl rfl rfl ?_
        simp only [ukB, g3, if_true]
        show AV.tup [fl (atB (valL (List.take 8 s.data.toList))), i64 0] = _
        rw [ht]
end Go.Proofs.Ytgchhmfobkcnfaa.A

namespace Go.Proofs.Ytgchhmfobkcnfaa.A
open Go
set_option linter.unusedVariables false
set_option maxRecDepth 100000
set_option pp.maxSteps 1500

def rukO (s : ByteArray) : Bool := decide (s.size = 8 ∧ valL s.data.toList ≤ 18437736874454810626)
theorem list8 {l : List UInt8} (h : l.length = 8) : ∃ c0 c1 c2 c3 c4 c5 c6 c7, l = [c0, c1, c2, c3, c4, c5, c6, c7] := by
  match l, h with
  | [c0, c1, c2, c3, c4, c5, c6, c7], _ => exact ⟨c0, c1, c2, c3, c4, c5, c6, c7, rfl⟩
theorem keyL_valL {l : List UInt8} (h : l.length = 8) : keyL (valL l) = l := by
  obtain ⟨c0, c1, c2, c3, c4, c5, c6, c7, rfl⟩ := list8 h
  have h0 := c0.toNat_lt
  have h1 := c1.toNat_lt
  have h2 := c2.toNat_lt
  have h3 := c3.toNat_lt
  have h4 := c4.toNat_lt
  have h5 := c5.toNat_lt
  have h6 := c6.toNat_lt
  have h7 := c7.toNat_lt
  have key : ∀ (n : Nat) (c : UInt8), n = c.toNat → UInt8.ofNat n = c := fun n c h => by rw [h]; exact UInt8.ofNat_toNat
  simp only [keyL, valL, List.foldl, Nat.zero_mul, Nat.zero_add]
  rw [key _ c0 (by omega), key _ c1 (by omega), key _ c2 (by omega), key _ c3 (by omega), key _ c4 (by omega), key _ c5 (by omega), key _ c6 (by omega), key _ c7 (by omega)]
theorem valL_keyL {p : Nat} (h : p < 18446744073709551616) : valL (keyL p) = p := by
  have key : ∀ n : Nat, (UInt8.ofNat (n % 256)).toNat = n % 256 := fun n => by simp
  have k0 : (UInt8.ofNat (p % 256)).toNat = p % 256 := key p
  simp only [keyL, valL, List.foldl, key]
  omega
theorem placeB_atB {p : Nat} (h : p ≤ 18437736874454810626) : placeB (atB p) = p := by
  unfold atB
  rw [if_neg (by omega)]
  split
  · subst_vars
    rfl
  · split
    · unfold placeB
      have hn : nanB (p - 9218868437227405313) = false := by simp only [nanB, decide_eq_false_iff_not]; omega
      simp only [hn, Bool.false_eq_true, if_false]
      rw [if_neg (by omega)]
      omega
    · unfold placeB
      have hn : nanB (9223372036854775808 + (9218868437227405312 - p)) = false := by simp only [nanB, decide_eq_false_iff_not]; omega
      simp only [hn, Bool.false_eq_true, if_false]
      rw [if_pos (by omega)]
      omega
theorem atB_lt (p : Nat) (hp : p < 18446744073709551616) : atB p < 18446744073709551616 := by
  unfold atB
  split
  · omega
  · split
    · omega
    · split <;> omega
end Go.Proofs.Ytgchhmfobkcnfaa.A
