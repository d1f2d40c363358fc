/- The functions of agg: tallies. No condition. -/
import Derived.Test.YtihjhigckomapaaGa
namespace Go.Proofs.Ytihjhigckomapaa.A
open Go
set_option linter.unusedVariables false
set_option maxRecDepth 100000
set_option pp.maxSteps 1500

def nanW : Nat := 9221120237041090561
def bitsO : Option Nat → Nat
  | none => nanW
  | some b => bitsB b
theorem isNaN_nan : ACalls Try.prog 33 [.nan .f64] [] (Ret (bo true)) := by
  refine acalls_of_awp hT mixed Try.func33 rfl (by kernel_rfl) (by kernel_rfl) (Nat.le_of_ble_eq_true rfl) ?_
  refine end0 rfl rfl rfl rfl
theorem bits_nan : ACalls Try.prog 24 [.nan .f64] [] (Ret (u64 nanW)) := by
  refine acalls_of_awp hT mixed Try.func24 rfl (by kernel_rfl) (by kernel_rfl) (Nat.le_of_ble_eq_true rfl) ?_
  refine callP isNaN_nan rfl rfl ?_
  refine end0 rfl rfl rfl rfl
theorem bitsO_ok (s : Option Nat) : ACalls Try.prog 24 [flo s] [] (Ret (u64 (bitsO s))) := by
  cases s with
  | none => exact bits_nan
  | some b => exact bits_ok b
/-- A word that is a NaN's. -/
def NanR (v : AV) : Prop := ∃ b : Nat, nanB b = true ∧ b < 18446744073709551616 ∧ v = u64 b
theorem nan_read {b : Nat} (h : ∃ s t, FloatKind.f64.format.read b = .nan s t) : nanB b = true := by
  obtain ⟨s, t, h⟩ := h
  have h : Ieee.double.read b = .nan s t := h
  cases hn : nanB b
  · exfalso
    simp only [nanB, decide_eq_false_iff_not] at hn
    rcases Nat.lt_or_ge (b % 9223372036854775808) 9218868437227405312 with h1 | h1
    · rw [read_fin h1] at h; cases h
    · rw [read_inf (by omega)] at h; cases h
  · rfl
noncomputable def meanS (s : Option Nat) (c : Nat) : Option Nat := s.bind fun y => fari .quo .f64 y (FloatKind.f64.nearest (c : Int))
def tal (c : Nat) (s lo hi m : Nat) : AV := .agg [i64 c, u64 s, u64 lo, u64 hi, u64 m]
theorem tally_ok (c : Nat) (s m : Option Nat) (lo hi : Nat) (hc : 0 < c) (hm : meanS s c = m) :
    ACalls Try.prog 11 [.ptr 0 0] [.row (adr c s lo hi)] (RetH (tal c (bitsO s) (bitsB lo) (bitsB hi) (bitsO m)) [.row (adr c s lo hi)]) := by
  have bs := bitsO_ok s
  have bl := bits_ok lo
  have bh := bits_ok hi
  have bm := bitsO_ok m
  generalize bitsO s = s' at *
  generalize bitsB lo = lo' at *
  generalize bitsB hi = hi' at *
  generalize bitsO m = m' at *
  have hc1 : ((c : Int) == 0) = false := by
    rw [beq_eq_false_iff_ne]; omega
  cases s with
  | none =>
    cases m with
    | none =>
      refine acalls_of_awp hT mixed Try.func11 rfl (by kernel_rfl) (by kernel_rfl) (Nat.le_of_ble_eq_true rfl) ?_
      refine fork (fun h1 => by rw [hc1] at h1; cases h1) (fun h1 => ?_)
      refine ⟨[0, 0, 0, 0, 0, 0, 0, 0, 1, 0, 0, 0, 0, 2, 0, 0, 0, 0, 3, 0, 0, 0, 0, 0, 0, 0, 0, 0, 0, 4, 4, 5], [[], [0], [0, 1], [0, 1, 2], [], [4], [4, 5], [4, 5, 6], [4, 5, 6, 7], [], [9], [9, 10], [9, 10, 11], [4, 5, 6, 7, 8, 9, 10, 11, 12], [], [14], [14, 15], [14, 15, 16], [4, 5, 6, 7, 8, 9, 10, 11, 12, 13, 14, 15, 16, 17], [], [19], [19, 20], [19, 20, 21], [], [23], [23, 24], [23, 24, 25], [23, 24, 25, 26], [19, 20, 21, 22, 23, 24, 25, 26, 27], [4, 5, 6, 7, 8, 9, 10, 11, 12, 13, 14, 15, 16, 17, 18, 19, 20, 21, 22, 23, 24, 25, 26, 27, 28], [0, 1, 2, 3, 4, 5, 6, 7, 8, 9, 10, 11, 12, 13, 14, 15, 16, 17, 18, 19, 20, 21, 22, 23, 24, 25, 26, 27, 28, 29], [0, 1, 2, 3, 4, 5, 6, 7, 8, 9, 10, 11, 12, 13, 14, 15, 16, 17, 18, 19, 20, 21, 22, 23, 24, 25, 26, 27, 28, 29, 30]], [0, 0, 0, 0, 0, 0, 0, 0, 0, 0, 0, 0, 0, 0, 0, 0, 0, 0, 0, 0, 0, 0, 0, 0, 0, 0, 0, 0, 0, 0, 0, 0], [8, 13, 18, 29, 31], [[0], [13], [14], [15], [0], [17], [18], [19], [20], [0], [22], [23], [24], [25], [0], [27], [28], [29], [30], [0], [32], [33], [34], [0], [36], [37], [38], [39], [35, 40], [41], [16, 21, 26, 31, 42], [2, 43]], Ob.intro (by kernel_rfl) ?_⟩
      repeat refine same ?_
      refine callP bs rfl rfl ?_
      repeat refine same ?_
      refine callP bl rfl rfl ?_
      repeat refine same ?_
      refine callP bh rfl rfl ?_
      repeat refine same ?_
      refine callP bm rfl rfl ?_
      repeat refine same ?_
      refine endH rfl rfl rfl ⟨.inl rfl, True.intro⟩ (Nat.le_refl 1) rfl rfl
    | some r => cases hm
  | some y =>
    replace hm : fari .quo .f64 y (FloatKind.f64.nearest (c : Int)) = m := hm
    cases m with
    | none =>
      refine acalls_of_awp hT mixed Try.func11 rfl (by kernel_rfl) (by kernel_rfl) (Nat.le_of_ble_eq_true rfl) ?_
      refine fork (fun h1 => by rw [hc1] at h1; cases h1) (fun h1 => ?_)
      refine ⟨[0, 0, 0, 0, 0, 0, 0, 0, 1, 0, 0, 0, 0, 2, 0, 0, 0, 0, 3, 0, 0, 0, 0, 0, 0, 0, 0, 0, 0, 4, 4, 5], [[], [0], [0, 1], [0, 1, 2], [], [4], [4, 5], [4, 5, 6], [4, 5, 6, 7], [], [9], [9, 10], [9, 10, 11], [4, 5, 6, 7, 8, 9, 10, 11, 12], [], [14], [14, 15], [14, 15, 16], [4, 5, 6, 7, 8, 9, 10, 11, 12, 13, 14, 15, 16, 17], [], [19], [19, 20], [19, 20, 21], [], [23], [23, 24], [23, 24, 25], [23, 24, 25, 26], [19, 20, 21, 22, 23, 24, 25, 26, 27], [4, 5, 6, 7, 8, 9, 10, 11, 12, 13, 14, 15, 16, 17, 18, 19, 20, 21, 22, 23, 24, 25, 26, 27, 28], [0, 1, 2, 3, 4, 5, 6, 7, 8, 9, 10, 11, 12, 13, 14, 15, 16, 17, 18, 19, 20, 21, 22, 23, 24, 25, 26, 27, 28, 29], [0, 1, 2, 3, 4, 5, 6, 7, 8, 9, 10, 11, 12, 13, 14, 15, 16, 17, 18, 19, 20, 21, 22, 23, 24, 25, 26, 27, 28, 29, 30]], [0, 0, 0, 0, 0, 0, 0, 0, 0, 0, 0, 0, 0, 0, 0, 0, 0, 0, 0, 0, 0, 0, 0, 0, 0, 0, 0, 0, 0, 0, 0, 0], [8, 13, 18, 29, 31], [[0], [13], [14], [15], [0], [17], [18], [19], [20], [0], [22], [23], [24], [25], [0], [27], [28], [29], [30], [0], [32], [33], [34], [0], [36], [37], [38], [39], [35, 40], [41], [16, 21, 26, 31, 42], [2, 43]], Ob.intro (by kernel_rfl) ?_⟩
      refine forO (fun hq => ?_) (fun r hq => by rw [hm] at hq; cases hq)
      repeat refine same ?_
      refine callP bs rfl rfl ?_
      repeat refine same ?_
      refine callP bl rfl rfl ?_
      repeat refine same ?_
      refine callP bh rfl rfl ?_
      repeat refine same ?_
      refine callP bm rfl rfl ?_
      repeat refine same ?_
      refine endH rfl rfl rfl ⟨.inl rfl, True.intro⟩ (Nat.le_refl 1) rfl rfl
    | some r =>
      refine acalls_of_awp hT mixed Try.func11 rfl (by kernel_rfl) (by kernel_rfl) (Nat.le_of_ble_eq_true rfl) ?_
      refine fork (fun h1 => by rw [hc1] at h1; cases h1) (fun h1 => ?_)
      refine ⟨[0, 0, 0, 0, 0, 0, 0, 0, 1, 0, 0, 0, 0, 2, 0, 0, 0, 0, 3, 0, 0, 0, 0, 0, 0, 0, 0, 0, 0, 4, 4, 5], [[], [0], [0, 1], [0, 1, 2], [], [4], [4, 5], [4, 5, 6], [4, 5, 6, 7], [], [9], [9, 10], [9, 10, 11], [4, 5, 6, 7, 8, 9, 10, 11, 12], [], [14], [14, 15], [14, 15, 16], [4, 5, 6, 7, 8, 9, 10, 11, 12, 13, 14, 15, 16, 17], [], [19], [19, 20], [19, 20, 21], [], [23], [23, 24], [23, 24, 25], [23, 24, 25, 26], [19, 20, 21, 22, 23, 24, 25, 26, 27], [4, 5, 6, 7, 8, 9, 10, 11, 12, 13, 14, 15, 16, 17, 18, 19, 20, 21, 22, 23, 24, 25, 26, 27, 28], [0, 1, 2, 3, 4, 5, 6, 7, 8, 9, 10, 11, 12, 13, 14, 15, 16, 17, 18, 19, 20, 21, 22, 23, 24, 25, 26, 27, 28, 29], [0, 1, 2, 3, 4, 5, 6, 7, 8, 9, 10, 11, 12, 13, 14, 15, 16, 17, 18, 19, 20, 21, 22, 23, 24, 25, 26, 27, 28, 29, 30]], [0, 0, 0, 0, 0, 0, 0, 0, 0, 0, 0, 0, 0, 0, 0, 0, 0, 0, 0, 0, 0, 0, 0, 0, 0, 0, 0, 0, 0, 0, 0, 0], [8, 13, 18, 29, 31], [[0], [13], [14], [15], [0], [17], [18], [19], [20], [0], [22], [23], [24], [25], [0], [27], [28], [29], [30], [0], [32], [33], [34], [0], [36], [37], [38], [39], [35, 40], [41], [16, 21, 26, 31, 42], [2, 43]], Ob.intro (by kernel_rfl) ?_⟩
      refine forO (fun hq => by rw [hm] at hq; cases hq) (fun r2 hq => ?_)
      obtain rfl : r = r2 := by rw [hm] at hq; exact Option.some.inj hq
      repeat refine same ?_
      refine callP bs rfl rfl ?_
      repeat refine same ?_
      refine callP bl rfl rfl ?_
      repeat refine same ?_
      refine callP bh rfl rfl ?_
      repeat refine same ?_
      refine callP bm rfl rfl ?_
      repeat refine same ?_
      refine endH rfl rfl rfl ⟨.inl rfl, True.intro⟩ (Nat.le_refl 1) rfl rfl
theorem tally0_ok (s : Option Nat) (lo hi : Nat) : ACalls Try.prog 11 [.ptr 0 0] [.row (adr 0 s lo hi)] (RetH (tal 0 0 0 0 0) [.row (adr 0 s lo hi)]) := by
  cases s with
  | none =>
    refine acalls_of_awp hT mixed Try.func11 rfl (by kernel_rfl) (by kernel_rfl) (Nat.le_of_ble_eq_true rfl) ?_
    refine endH rfl rfl rfl ⟨.inl rfl, True.intro⟩ (Nat.le_refl 1) rfl rfl
  | some y =>
    refine acalls_of_awp hT mixed Try.func11 rfl (by kernel_rfl) (by kernel_rfl) (Nat.le_of_ble_eq_true rfl) ?_
    refine endH rfl rfl rfl ⟨.inl rfl, True.intro⟩ (Nat.le_refl 1) rfl rfl
theorem tallyNil_ok : ACalls Try.prog 11 [.sc (.pointer none)] [] (Ret (tal 0 0 0 0 0)) := by
  refine acalls_of_awp hT mixed Try.func11 rfl (by kernel_rfl) (by kernel_rfl) (Nat.le_of_ble_eq_true rfl) ?_
  refine end0 rfl rfl rfl rfl
theorem addNil_ok (x : Nat) : ACalls Try.prog 12 [.sc (.pointer none), fl x] [] (Ret (i64 2)) := by
  refine acalls_of_awp hT mixed Try.func12 rfl (by kernel_rfl) (by kernel_rfl) (Nat.le_of_ble_eq_true rfl) ?_
  refine end0 rfl rfl rfl rfl
theorem new_ok : ACalls Try.prog 10 [] [] (RetH (.ptr 0 0) [.row (adr 0 (some 0) 0 0)]) := by
  refine acalls_of_awp hT mixed Try.func10 rfl (by kernel_rfl) (by kernel_rfl) (Nat.le_of_ble_eq_true rfl) ?_
  refine endH rfl rfl rfl ⟨.inl rfl, True.intro⟩ (Nat.zero_le 1) rfl rfl
theorem nanF_ok : ACalls Try.prog 21 [] [] (Ret (fl nanW)) := by
  refine acalls_of_awp hT mixed Try.func21 rfl (by kernel_rfl) (by kernel_rfl) (Nat.le_of_ble_eq_true rfl) ?_
  refine callP (float64frombits_ok 9221120237041090561) rfl rfl ?_
  refine end0 rfl rfl rfl rfl
end Go.Proofs.Ytihjhigckomapaa.A
