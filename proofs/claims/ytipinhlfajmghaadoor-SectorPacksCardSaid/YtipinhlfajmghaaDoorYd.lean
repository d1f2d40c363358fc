/- sector: Unpack. No condition. -/
import Derived.Test.YtipinhlfajmghaaDoorYc
namespace Go.Proofs.YtipinhlfajmghaaDoor.A
open Go
set_option linter.unusedVariables false
set_option maxRecDepth 100000
set_option pp.maxSteps 1500

def emp : ByteArray := ⟨#[]⟩
def stpZ : Stp := ⟨0, 0, 0, 0, 0⟩
theorem unpack_len (s : ByteArray) (h : s.size ≠ 64) : ACalls Tryd.prog 10 [str s] [] (Ret (.tup [stA stpZ, str emp, i64 4])) := by
  refine acalls_of_awp hT mixed Tryd.func10 rfl (by kernel_rfl) (by kernel_rfl) (Nat.le_of_ble_eq_true rfl) ?_
  refine fork (fun q => ?_) (fun q => ?_)
  · refine endG rfl rfl rfl (G := []) True.intro (Nat.zero_le _) rfl ⟨rfl, rfl⟩
  · exfalso
    have := bne_eq_false_iff_eq.1 q
    omega
theorem unpack_mark (s : ByteArray) (h64 : s.size = 64) (h0 : atL s 0 ≠ 193) : ACalls Tryd.prog 10 [str s] [] (Ret (.tup [stA stpZ, str emp, i64 4])) := by
  refine acalls_of_awp hT mixed Tryd.func10 rfl (by kernel_rfl) (by kernel_rfl) (Nat.le_of_ble_eq_true rfl) ?_
  refine fork (fun q => ?_) (fun q => ?_)
  · exfalso
    have := bne_iff_ne.1 q
    omega
  refine Ob.intro (show (0 : Int) ≤ 0 ∧ 0 < (s.size : Int) by omega) ?_
  refine fork (fun q2 => ?_) (fun q2 => ?_)
  · refine endG rfl rfl rfl (G := []) True.intro (Nat.zero_le _) rfl ⟨rfl, rfl⟩
  · exfalso
    have : ((atL s 0 : Nat) : Int) = 193 := bne_eq_false_iff_eq.1 q2
    omega
theorem unpack_bad (s : ByteArray) (h64 : s.size = 64) (h0 : atL s 0 = 193) (g1 g2 g3 g4 g5 n : Nat) (c1 : ACalls Tryd.prog 16 [str (s.extract 1 5)] [] (Ret (i64 (g1 : Nat)))) (c2 : ACalls Tryd.prog 16 [str (s.extract 5 7)] [] (Ret (i64 (g2 : Nat)))) (c3 : ACalls Tryd.prog 16 [str (s.extract 7 11)] [] (Ret (i64 (g3 : Nat)))) (c4 : ACalls Tryd.prog 16 [str (s.extract 11 12)] [] (Ret (i64 (g4 : Nat)))) (c5 : ACalls Tryd.prog 16 [str (s.extract 12 13)] [] (Ret (i64 (g5 : Nat)))) (c6 : ACalls Tryd.prog 16 [str (s.extract 13 14)] [] (Ret (i64 (n : Nat)))) (hR : ACalls Tryd.prog 8 [stA ⟨g1, g2, g3, g4, g5⟩] [] (Ret (bo false))) : ACalls Tryd.prog 10 [str s] [] (Ret (.tup [stA stpZ, str emp, i64 4])) := by
  refine acalls_of_awp hT mixed Tryd.func10 rfl (by kernel_rfl) (by kernel_rfl) (Nat.le_of_ble_eq_true rfl) ?_
  refine fork (fun q => ?_) (fun q => ?_)
  · exfalso
    have := bne_iff_ne.1 q
    omega
  refine Ob.intro (show (0 : Int) ≤ 0 ∧ 0 < (s.size : Int) by omega) ?_
  refine fork (fun q2 => ?_) (fun q2 => ?_)
  · exfalso
    have : ((atL s 0 : Nat) : Int) ≠ 193 := bne_iff_ne.1 q2
    omega
  have s1 : (0 : Int) ≤ 1 ∧ (1 : Int) ≤ 5 ∧ 5 ≤ (s.size : Int) := by omega
  have s2 : (0 : Int) ≤ 5 ∧ (5 : Int) ≤ 7 ∧ 7 ≤ (s.size : Int) := by omega
  have s3 : (0 : Int) ≤ 7 ∧ (7 : Int) ≤ 11 ∧ 11 ≤ (s.size : Int) := by omega
  have s4 : (0 : Int) ≤ 11 ∧ (11 : Int) ≤ 12 ∧ 12 ≤ (s.size : Int) := by omega
  have s5 : (0 : Int) ≤ 12 ∧ (12 : Int) ≤ 13 ∧ 13 ≤ (s.size : Int) := by omega
  refine ⟨[0, 0, 1, 0, 0, 2, 0, 0, 3, 0, 0, 4, 0, 0, 5, 5, 0, 6], [[], [0], [0, 1], [], [3], [0, 1, 2, 3, 4], [], [6], [0, 1, 2, 3, 4, 5, 6, 7], [], [9], [0, 1, 2, 3, 4, 5, 6, 7, 8, 9, 10], [], [12], [0, 1, 2, 3, 4, 5, 6, 7, 8, 9, 10, 11, 12, 13], [0, 1, 2, 3, 4, 5, 6, 7, 8, 9, 10, 11, 12, 13, 14], [], [0, 1, 2, 3, 4, 5, 6, 7, 8, 9, 10, 11, 12, 13, 14, 15, 16]], [0, 0, 0, 0, 0, 0, 0, 0, 0, 0, 0, 0, 0, 0, 0, 0, 0, 1], [2, 5, 8, 11, 14, 17], [[0], [16], [17], [0], [19], [20], [0], [22], [23], [0], [25], [26], [0], [28], [29], [18, 21, 24, 27, 30], [], [5, 31]], Ob.intro (by kernel_rfl) ?_⟩
  repeat first | refine same ?_ | refine Ob.intro s1 ?_ | refine Ob.intro s2 ?_ | refine Ob.intro s3 ?_ | refine Ob.intro s4 ?_ | refine Ob.intro s5 ?_
  refine callP c1 rfl rfl ?_
  repeat first | refine same ?_ | refine Ob.intro s1 ?_ | refine Ob.intro s2 ?_ | refine Ob.intro s3 ?_ | refine Ob.intro s4 ?_ | refine Ob.intro s5 ?_
  refine callP c2 rfl rfl ?_
  repeat first | refine same ?_ | refine Ob.intro s1 ?_ | refine Ob.intro s2 ?_ | refine Ob.intro s3 ?_ | refine Ob.intro s4 ?_ | refine Ob.intro s5 ?_
  refine callP c3 rfl rfl ?_
  repeat first | refine same ?_ | refine Ob.intro s1 ?_ | refine Ob.intro s2 ?_ | refine Ob.intro s3 ?_ | refine Ob.intro s4 ?_ | refine Ob.intro s5 ?_
  refine callP c4 rfl rfl ?_
  repeat first | refine same ?_ | refine Ob.intro s1 ?_ | refine Ob.intro s2 ?_ | refine Ob.intro s3 ?_ | refine Ob.intro s4 ?_ | refine Ob.intro s5 ?_
  refine callP c5 rfl rfl ?_
  repeat first | refine same ?_ | refine Ob.intro s1 ?_ | refine Ob.intro s2 ?_ | refine Ob.intro s3 ?_ | refine Ob.intro s4 ?_ | refine Ob.intro s5 ?_
  refine Ob.intro (show (0 : Int) ≤ 13 ∧ (13 : Int) ≤ 14 ∧ 14 ≤ (s.size : Int) by omega) ?_
  refine callP c6 rfl rfl ?_
  refine callP hR rfl rfl ?_
  refine endG rfl rfl rfl (G := []) True.intro (Nat.zero_le _) rfl ⟨rfl, rfl⟩
theorem unpack_long (s : ByteArray) (h64 : s.size = 64) (h0 : atL s 0 = 193) (g1 g2 g3 g4 g5 n : Nat) (c1 : ACalls Tryd.prog 16 [str (s.extract 1 5)] [] (Ret (i64 (g1 : Nat)))) (c2 : ACalls Tryd.prog 16 [str (s.extract 5 7)] [] (Ret (i64 (g2 : Nat)))) (c3 : ACalls Tryd.prog 16 [str (s.extract 7 11)] [] (Ret (i64 (g3 : Nat)))) (c4 : ACalls Tryd.prog 16 [str (s.extract 11 12)] [] (Ret (i64 (g4 : Nat)))) (c5 : ACalls Tryd.prog 16 [str (s.extract 12 13)] [] (Ret (i64 (g5 : Nat)))) (c6 : ACalls Tryd.prog 16 [str (s.extract 13 14)] [] (Ret (i64 (n : Nat)))) (hR : ACalls Tryd.prog 8 [stA ⟨g1, g2, g3, g4, g5⟩] [] (Ret (bo true))) (hn : 50 < n) : ACalls Tryd.prog 10 [str s] [] (Ret (.tup [stA stpZ, str emp, i64 4])) := by
  refine acalls_of_awp hT mixed Tryd.func10 rfl (by kernel_rfl) (by kernel_rfl) (Nat.le_of_ble_eq_true rfl) ?_
  refine fork (fun q => ?_) (fun q => ?_)
  · exfalso
    have := bne_iff_ne.1 q
    omega
  refine Ob.intro (show (0 : Int) ≤ 0 ∧ 0 < (s.size : Int) by omega) ?_
  refine fork (fun q2 => ?_) (fun q2 => ?_)
  · exfalso
    have : ((atL s 0 : Nat) : Int) ≠ 193 := bne_iff_ne.1 q2
    omega
  have s1 : (0 : Int) ≤ 1 ∧ (1 : Int) ≤ 5 ∧ 5 ≤ (s.size : Int) := by omega
  have s2 : (0 : Int) ≤ 5 ∧ (5 : Int) ≤ 7 ∧ 7 ≤ (s.size : Int) := by omega
  have s3 : (0 : Int) ≤ 7 ∧ (7 : Int) ≤ 11 ∧ 11 ≤ (s.size : Int) := by omega
  have s4 : (0 : Int) ≤ 11 ∧ (11 : Int) ≤ 12 ∧ 12 ≤ (s.size : Int) := by omega
  have s5 : (0 : Int) ≤ 12 ∧ (12 : Int) ≤ 13 ∧ 13 ≤ (s.size : Int) := by omega
  refine ⟨[0, 0, 1, 0, 0, 2, 0, 0, 3, 0, 0, 4, 0, 0, 5, 5, 0, 6], [[], [0], [0, 1], [], [3], [0, 1, 2, 3, 4], [], [6], [0, 1, 2, 3, 4, 5, 6, 7], [], [9], [0, 1, 2, 3, 4, 5, 6, 7, 8, 9, 10], [], [12], [0, 1, 2, 3, 4, 5, 6, 7, 8, 9, 10, 11, 12, 13], [0, 1, 2, 3, 4, 5, 6, 7, 8, 9, 10, 11, 12, 13, 14], [], [0, 1, 2, 3, 4, 5, 6, 7, 8, 9, 10, 11, 12, 13, 14, 15, 16]], [0, 0, 0, 0, 0, 0, 0, 0, 0, 0, 0, 0, 0, 0, 0, 0, 0, 1], [2, 5, 8, 11, 14, 17], [[0], [16], [17], [0], [19], [20], [0], [22], [23], [0], [25], [26], [0], [28], [29], [18, 21, 24, 27, 30], [], [5, 31]], Ob.intro (by kernel_rfl) ?_⟩
  repeat first | refine same ?_ | refine Ob.intro s1 ?_ | refine Ob.intro s2 ?_ | refine Ob.intro s3 ?_ | refine Ob.intro s4 ?_ | refine Ob.intro s5 ?_
  refine callP c1 rfl rfl ?_
  repeat first | refine same ?_ | refine Ob.intro s1 ?_ | refine Ob.intro s2 ?_ | refine Ob.intro s3 ?_ | refine Ob.intro s4 ?_ | refine Ob.intro s5 ?_
  refine callP c2 rfl rfl ?_
  repeat first | refine same ?_ | refine Ob.intro s1 ?_ | refine Ob.intro s2 ?_ | refine Ob.intro s3 ?_ | refine Ob.intro s4 ?_ | refine Ob.intro s5 ?_
  refine callP c3 rfl rfl ?_
  repeat first | refine same ?_ | refine Ob.intro s1 ?_ | refine Ob.intro s2 ?_ | refine Ob.intro s3 ?_ | refine Ob.intro s4 ?_ | refine Ob.intro s5 ?_
  refine callP c4 rfl rfl ?_
  repeat first | refine same ?_ | refine Ob.intro s1 ?_ | refine Ob.intro s2 ?_ | refine Ob.intro s3 ?_ | refine Ob.intro s4 ?_ | refine Ob.intro s5 ?_
  refine callP c5 rfl rfl ?_
  repeat first | refine same ?_ | refine Ob.intro s1 ?_ | refine Ob.intro s2 ?_ | refine Ob.intro s3 ?_ | refine Ob.intro s4 ?_ | refine Ob.intro s5 ?_
  refine Ob.intro (show (0 : Int) ≤ 13 ∧ (13 : Int) ≤ 14 ∧ 14 ≤ (s.size : Int) by omega) ?_
  refine callP c6 rfl rfl ?_
  refine callP hR rfl rfl ?_
  refine forkD (fun g => ?_) (fun g => absurd (show (50 : Int) < (n : Int) by omega) g)
  refine endG rfl rfl rfl (G := []) True.intro (Nat.zero_le _) rfl ⟨rfl, rfl⟩
theorem unpack_rest (s : ByteArray) (h64 : s.size = 64) (h0 : atL s 0 = 193) (g1 g2 g3 g4 g5 n : Nat) (c1 : ACalls Tryd.prog 16 [str (s.extract 1 5)] [] (Ret (i64 (g1 : Nat)))) (c2 : ACalls Tryd.prog 16 [str (s.extract 5 7)] [] (Ret (i64 (g2 : Nat)))) (c3 : ACalls Tryd.prog 16 [str (s.extract 7 11)] [] (Ret (i64 (g3 : Nat)))) (c4 : ACalls Tryd.prog 16 [str (s.extract 11 12)] [] (Ret (i64 (g4 : Nat)))) (c5 : ACalls Tryd.prog 16 [str (s.extract 12 13)] [] (Ret (i64 (g5 : Nat)))) (c6 : ACalls Tryd.prog 16 [str (s.extract 13 14)] [] (Ret (i64 (n : Nat)))) (hR : ACalls Tryd.prog 8 [stA ⟨g1, g2, g3, g4, g5⟩] [] (Ret (bo true))) (hn : n ≤ 50) (hz : ¬ ∀ i, i < (s.extract (14 + n) 64).size → atL (s.extract (14 + n) 64) i = 0) : ACalls Tryd.prog 10 [str s] [] (Ret (.tup [stA stpZ, str emp, i64 4])) := by
  refine acalls_of_awp hT mixed Tryd.func10 rfl (by kernel_rfl) (by kernel_rfl) (Nat.le_of_ble_eq_true rfl) ?_
  refine fork (fun q => ?_) (fun q => ?_)
  · exfalso
    have := bne_iff_ne.1 q
    omega
  refine Ob.intro (show (0 : Int) ≤ 0 ∧ 0 < (s.size : Int) by omega) ?_
  refine fork (fun q2 => ?_) (fun q2 => ?_)
  · exfalso
    have : ((atL s 0 : Nat) : Int) ≠ 193 := bne_iff_ne.1 q2
    omega
  have s1 : (0 : Int) ≤ 1 ∧ (1 : Int) ≤ 5 ∧ 5 ≤ (s.size : Int) := by omega
  have s2 : (0 : Int) ≤ 5 ∧ (5 : Int) ≤ 7 ∧ 7 ≤ (s.size : Int) := by omega
  have s3 : (0 : Int) ≤ 7 ∧ (7 : Int) ≤ 11 ∧ 11 ≤ (s.size : Int) := by omega
  have s4 : (0 : Int) ≤ 11 ∧ (11 : Int) ≤ 12 ∧ 12 ≤ (s.size : Int) := by omega
  have s5 : (0 : Int) ≤ 12 ∧ (12 : Int) ≤ 13 ∧ 13 ≤ (s.size : Int) := by omega
  refine ⟨[0, 0, 1, 0, 0, 2, 0, 0, 3, 0, 0, 4, 0, 0, 5, 5, 0, 6], [[], [0], [0, 1], [], [3], [0, 1, 2, 3, 4], [], [6], [0, 1, 2, 3, 4, 5, 6, 7], [], [9], [0, 1, 2, 3, 4, 5, 6, 7, 8, 9, 10], [], [12], [0, 1, 2, 3, 4, 5, 6, 7, 8, 9, 10, 11, 12, 13], [0, 1, 2, 3, 4, 5, 6, 7, 8, 9, 10, 11, 12, 13, 14], [], [0, 1, 2, 3, 4, 5, 6, 7, 8, 9, 10, 11, 12, 13, 14, 15, 16]], [0, 0, 0, 0, 0, 0, 0, 0, 0, 0, 0, 0, 0, 0, 0, 0, 0, 1], [2, 5, 8, 11, 14, 17], [[0], [16], [17], [0], [19], [20], [0], [22], [23], [0], [25], [26], [0], [28], [29], [18, 21, 24, 27, 30], [], [5, 31]], Ob.intro (by kernel_rfl) ?_⟩
  repeat first | refine same ?_ | refine Ob.intro s1 ?_ | refine Ob.intro s2 ?_ | refine Ob.intro s3 ?_ | refine Ob.intro s4 ?_ | refine Ob.intro s5 ?_
  refine callP c1 rfl rfl ?_
  repeat first | refine same ?_ | refine Ob.intro s1 ?_ | refine Ob.intro s2 ?_ | refine Ob.intro s3 ?_ | refine Ob.intro s4 ?_ | refine Ob.intro s5 ?_
  refine callP c2 rfl rfl ?_
  repeat first | refine same ?_ | refine Ob.intro s1 ?_ | refine Ob.intro s2 ?_ | refine Ob.intro s3 ?_ | refine Ob.intro s4 ?_ | refine Ob.intro s5 ?_
  refine callP c3 rfl rfl ?_
  repeat first | refine same ?_ | refine Ob.intro s1 ?_ | refine Ob.intro s2 ?_ | refine Ob.intro s3 ?_ | refine Ob.intro s4 ?_ | refine Ob.intro s5 ?_
  refine callP c4 rfl rfl ?_
  repeat first | refine same ?_ | refine Ob.intro s1 ?_ | refine Ob.intro s2 ?_ | refine Ob.intro s3 ?_ | refine Ob.intro s4 ?_ | refine Ob.intro s5 ?_
  refine callP c5 rfl rfl ?_
  repeat first | refine same ?_ | refine Ob.intro s1 ?_ | refine Ob.intro s2 ?_ | refine Ob.intro s3 ?_ | refine Ob.intro s4 ?_ | refine Ob.intro s5 ?_
  refine Ob.intro (show (0 : Int) ≤ 13 ∧ (13 : Int) ≤ 14 ∧ 14 ≤ (s.size : Int) by omega) ?_
  refine callP c6 rfl rfl ?_
  refine callP hR rfl rfl ?_
  refine forkD (fun g => absurd (show (50 : Int) < (n : Int) from g) (by omega)) (fun g => ?_)
  have hw : wrp .i64 (14 + (n : Int)) = ((14 + n : Nat) : Int) := by rw [wrpE, wi64]; omega
  refine Ob.intro (show (0 : Int) ≤ wrp .i64 (14 + (n : Int)) ∧ wrp .i64 (14 + (n : Int)) ≤ (s.size : Int) ∧ (s.size : Int) ≤ (s.size : Int) by rw [hw]; omega) ?_
  have hx : s.extract (wrp .i64 (14 + (n : Int))).toNat (s.size : Int).toNat = s.extract (14 + n) 64 := by rw [hw, h64]; rfl
  have tt := trim_ok (s.extract (wrp .i64 (14 + (n : Int))).toNat (s.size : Int).toNat) (by rw [hx, ByteArray.size_extract]; omega)
  refine callE tt rfl (fun v hv => by obtain ⟨r, rfl, _⟩ := hv; rfl) ?_
  rintro v ⟨r, rfl, hr⟩
  rw [hx] at hr
  refine fork (fun q => ?_) (fun q => ?_)
  · refine endG rfl rfl rfl (G := []) True.intro (Nat.zero_le _) rfl ⟨rfl, rfl⟩
  · exfalso
    have : (!(strEq r ⟨#[]⟩)) = false := q
    rw [strEq_nilB] at this
    have : decide (r.size = 0) = true := by cases hd : decide (r.size = 0) <;> first | rfl | (rw [hd] at this; cases this)
    exact hz (hr.1 (of_decide_eq_true this))
theorem unpack_yes (s : ByteArray) (h64 : s.size = 64) (h0 : atL s 0 = 193) (g1 g2 g3 g4 g5 n : Nat) (c1 : ACalls Tryd.prog 16 [str (s.extract 1 5)] [] (Ret (i64 (g1 : Nat)))) (c2 : ACalls Tryd.prog 16 [str (s.extract 5 7)] [] (Ret (i64 (g2 : Nat)))) (c3 : ACalls Tryd.prog 16 [str (s.extract 7 11)] [] (Ret (i64 (g3 : Nat)))) (c4 : ACalls Tryd.prog 16 [str (s.extract 11 12)] [] (Ret (i64 (g4 : Nat)))) (c5 : ACalls Tryd.prog 16 [str (s.extract 12 13)] [] (Ret (i64 (g5 : Nat)))) (c6 : ACalls Tryd.prog 16 [str (s.extract 13 14)] [] (Ret (i64 (n : Nat)))) (hR : ACalls Tryd.prog 8 [stA ⟨g1, g2, g3, g4, g5⟩] [] (Ret (bo true))) (hn : n ≤ 50) (hz : ∀ i, i < (s.extract (14 + n) 64).size → atL (s.extract (14 + n) 64) i = 0) :
    ACalls Tryd.prog 10 [str s] [] (Ret (.tup [stA ⟨g1, g2, g3, g4, g5⟩, str (s.extract 14 (14 + n)), i64 0])) := by
  refine acalls_of_awp hT mixed Tryd.func10 rfl (by kernel_rfl) (by kernel_rfl) (Nat.le_of_ble_eq_true rfl) ?_
  refine fork (fun q => ?_) (fun q => ?_)
  · exfalso
    have := bne_iff_ne.1 q
    omega
  refine Ob.intro (show (0 : Int) ≤ 0 ∧ 0 < (s.size : Int) by omega) ?_
  refine fork (fun q2 => ?_) (fun q2 => ?_)
  · exfalso
    have : ((atL s 0 : Nat) : Int) ≠ 193 := bne_iff_ne.1 q2
    omega
  have s1 : (0 : Int) ≤ 1 ∧ (1 : Int) ≤ 5 ∧ 5 ≤ (s.size : Int) := by omega
  have s2 : (0 : Int) ≤ 5 ∧ (5 : Int) ≤ 7 ∧ 7 ≤ (s.size : Int) := by omega
  have s3 : (0 : Int) ≤ 7 ∧ (7 : Int) ≤ 11 ∧ 11 ≤ (s.size : Int) := by omega
  have s4 : (0 : Int) ≤ 11 ∧ (11 : Int) ≤ 12 ∧ 12 ≤ (s.size : Int) := by omega
  have s5 : (0 : Int) ≤ 12 ∧ (12 : Int) ≤ 13 ∧ 13 ≤ (s.size : Int) := by omega
  refine ⟨[0, 0, 1, 0, 0, 2, 0, 0, 3, 0, 0, 4, 0, 0, 5, 5, 0, 6], [[], [0], [0, 1], [], [3], [0, 1, 2, 3, 4], [], [6], [0, 1, 2, 3, 4, 5, 6, 7], [], [9], [0, 1, 2, 3, 4, 5, 6, 7, 8, 9, 10], [], [12], [0, 1, 2, 3, 4, 5, 6, 7, 8, 9, 10, 11, 12, 13], [0, 1, 2, 3, 4, 5, 6, 7, 8, 9, 10, 11, 12, 13, 14], [], [0, 1, 2, 3, 4, 5, 6, 7, 8, 9, 10, 11, 12, 13, 14, 15, 16]], [0, 0, 0, 0, 0, 0, 0, 0, 0, 0, 0, 0, 0, 0, 0, 0, 0, 1], [2, 5, 8, 11, 14, 17], [[0], [16], [17], [0], [19], [20], [0], [22], [23], [0], [25], [26], [0], [28], [29], [18, 21, 24, 27, 30], [], [5, 31]], Ob.intro (by kernel_rfl) ?_⟩
  repeat first | refine same ?_ | refine Ob.intro s1 ?_ | refine Ob.intro s2 ?_ | refine Ob.intro s3 ?_ | refine Ob.intro s4 ?_ | refine Ob.intro s5 ?_
  refine callP c1 rfl rfl ?_
  repeat first | refine same ?_ | refine Ob.intro s1 ?_ | refine Ob.intro s2 ?_ | refine Ob.intro s3 ?_ | refine Ob.intro s4 ?_ | refine Ob.intro s5 ?_
  refine callP c2 rfl rfl ?_
  repeat first | refine same ?_ | refine Ob.intro s1 ?_ | refine Ob.intro s2 ?_ | refine Ob.intro s3 ?_ | refine Ob.intro s4 ?_ | refine Ob.intro s5 ?_
  refine callP c3 rfl rfl ?_
  repeat first | refine same ?_ | refine Ob.intro s1 ?_ | refine Ob.intro s2 ?_ | refine Ob.intro s3 ?_ | refine Ob.intro s4 ?_ | refine Ob.intro s5 ?_
  refine callP c4 rfl rfl ?_
  repeat first | refine same ?_ | refine Ob.intro s1 ?_ | refine Ob.intro s2 ?_ | refine Ob.intro s3 ?_ | refine Ob.intro s4 ?_ | refine Ob.intro s5 ?_
  refine callP c5 rfl rfl ?_
  repeat first | refine same ?_ | refine Ob.intro s1 ?_ | refine Ob.intro s2 ?_ | refine Ob.intro s3 ?_ | refine Ob.intro s4 ?_ | refine Ob.intro s5 ?_
  refine Ob.intro (show (0 : Int) ≤ 13 ∧ (13 : Int) ≤ 14 ∧ 14 ≤ (s.size : Int) by omega) ?_
  refine callP c6 rfl rfl ?_
  refine callP hR rfl rfl ?_
  refine forkD (fun g => absurd (show (50 : Int) < (n : Int) from g) (by omega)) (fun g => ?_)
  have hw : wrp .i64 (14 + (n : Int)) = ((14 + n : Nat) : Int) := by rw [wrpE, wi64]; omega
  refine Ob.intro (show (0 : Int) ≤ wrp .i64 (14 + (n : Int)) ∧ wrp .i64 (14 + (n : Int)) ≤ (s.size : Int) ∧ (s.size : Int) ≤ (s.size : Int) by rw [hw]; omega) ?_
  have hx : s.extract (wrp .i64 (14 + (n : Int))).toNat (s.size : Int).toNat = s.extract (14 + n) 64 := by rw [hw, h64]; rfl
  have tt := trim_ok (s.extract (wrp .i64 (14 + (n : Int))).toNat (s.size : Int).toNat) (by rw [hx, ByteArray.size_extract]; omega)
  refine callE tt rfl (fun v hv => by obtain ⟨r, rfl, _⟩ := hv; rfl) ?_
  rintro v ⟨r, rfl, hr⟩
  rw [hx] at hr
  refine fork (fun q => ?_) (fun q => ?_)
  · exfalso
    have : (!(strEq r ⟨#[]⟩)) = true := q
    rw [strEq_nilB, decide_eq_true (hr.2 hz)] at this
    cases this
  · refine ⟨[0, 0, 0, 0, 0, 1, 1, 1], [[], [], [], [2], [1, 2, 3], [0], [0, 1, 2, 3, 4, 5], [0, 1, 2, 3, 4, 5, 6]], [0, 0, 0, 0, 0, 0, 0, 0], [5], [[5], [0], [6], [53], [52, 54], [2, 51], [55], []], Ob.intro (by kernel_rfl) ?_⟩
    have s6 : (0 : Int) ≤ 14 ∧ 14 ≤ wrp .i64 (14 + (n : Int)) ∧ wrp .i64 (14 + (n : Int)) ≤ (s.size : Int) := by rw [hw]; omega
    repeat first | refine same ?_ | refine Ob.intro s6 ?_
    refine endG rfl rfl rfl (G := []) True.intro (Nat.zero_le _) rfl ⟨?_, rfl⟩
    show AEnd.ret (.tup [stA ⟨g1, g2, g3, g4, g5⟩, str (s.extract (14 : Int).toNat (wrp .i64 (14 + (n : Int))).toNat), i64 0]) = _
    rw [hw]
    rfl
end Go.Proofs.YtipinhlfajmghaaDoor.A
