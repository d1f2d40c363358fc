/- sector: Unpack by the document. No condition. -/
import Derived.Test.YtipinhlfajmghaaDoorYj
namespace Go.Proofs.YtipinhlfajmghaaDoor.A
open Go
set_option linter.unusedVariables false
set_option maxRecDepth 100000
set_option pp.maxSteps 1500

def rowZ : AObj := .row (stC stpZ)
theorem rUnpack_len (s : ByteArray) (h : s.size ≠ 64) : ACalls Tryd.prog 12 [str s] [] (Ret (.tup [stA stpZ, str emp, bo false])) := by
  refine acalls_of_awp hT mixed Tryd.func12 rfl (by kernel_rfl) (by kernel_rfl) (Nat.le_of_ble_eq_true rfl) ?_
  refine fork (fun q => ?_) (fun q => ?_)
  · refine endG rfl rfl rfl (G := []) True.intro (Nat.zero_le _) rfl ⟨rfl, rfl⟩
  · exfalso
    have := bne_eq_false_iff_eq.1 q
    omega
theorem rUnpack_mark (s : ByteArray) (h64 : s.size = 64) (h0 : atL s 0 ≠ 193) : ACalls Tryd.prog 12 [str s] [] (Ret (.tup [stA stpZ, str emp, bo false])) := by
  refine acalls_of_awp hT mixed Tryd.func12 rfl (by kernel_rfl) (by kernel_rfl) (Nat.le_of_ble_eq_true rfl) ?_
  refine fork (fun q => ?_) (fun q => ?_)
  · exfalso
    have := bne_iff_ne.1 q
    omega
  refine Ob.intro (show (0 : Int) ≤ 0 ∧ 0 < (s.size : Int) by omega) ?_
  refine fork (fun q2 => ?_) (fun q2 => ?_)
  · refine endG rfl rfl rfl (G := []) True.intro (Nat.zero_le _) rfl ⟨rfl, rfl⟩
  · exfalso
    have : ((atL s 0 : Nat) : Int) = 193 := bne_eq_false_iff_eq.1 q2
    omega
theorem rUnpack_long (s : ByteArray) (h64 : s.size = 64) (h0 : atL s 0 = 193) (hn : 50 < atL s 13) : ACalls Tryd.prog 12 [str s] [] (Ret (.tup [stA stpZ, str emp, bo false])) := by
  refine acalls_of_awp hT mixed Tryd.func12 rfl (by kernel_rfl) (by kernel_rfl) (Nat.le_of_ble_eq_true rfl) ?_
  refine fork (fun q => ?_) (fun q => ?_)
  · exfalso
    have := bne_iff_ne.1 q
    omega
  refine Ob.intro (show (0 : Int) ≤ 0 ∧ 0 < (s.size : Int) by omega) ?_
  refine fork (fun q2 => ?_) (fun q2 => ?_)
  · exfalso
    have : ((atL s 0 : Nat) : Int) ≠ 193 := bne_iff_ne.1 q2
    omega
  refine Ob.intro (show (0 : Int) ≤ 13 ∧ 13 < (s.size : Int) by omega) ?_
  refine forkD (fun q3 => ?_) (fun q3 => absurd (show (50 : Int) < ((atL s 13 : Nat) : Int) by omega) q3)
  refine endG rfl rfl rfl (G := []) True.intro (Nat.zero_le _) rfl ⟨rfl, rfl⟩
theorem ext_at {s : ByteArray} {i j k : Nat} (h : k < j - i) : ((s.extract i j).data.toList.getD k 0).toNat = atL s (i + k) := by
  unfold atL
  rw [exlB, List.getD_eq_getElem?_getD, List.getD_eq_getElem?_getD, List.getElem?_take_of_lt h, List.getElem?_drop]
def v4 (s : ByteArray) (i j : Nat) : Nat := valL ((s.extract i (i + 4)).data.toList.take j)
theorem v4_succ (s : ByteArray) (i j : Nat) (h64 : s.size = 64) (hi : i ≤ 60) (hj : j < 4) : v4 s i (j + 1) = v4 s i j * 256 + atL s (i + j) := by
  unfold v4
  rw [take_snoc8 (by rw [lenB, ByteArray.size_extract]; omega), ext_at (by omega)]
theorem v4_lt (s : ByteArray) (i j : Nat) (hj : j < 4) : v4 s i j < 16777216 := by
  have h := valL_lt ((s.extract i (i + 4)).data.toList.take j)
  have hm : 256 ^ ((s.extract i (i + 4)).data.toList.take j).length ≤ 256 ^ 3 := Nat.pow_le_pow_right (by decide) (by rw [List.length_take]; omega)
  unfold v4
  omega
theorem atL_lt (s : ByteArray) (i : Nat) : atL s i < 256 := (s.data.toList.getD i 0).toNat_lt
theorem g2_eq (s : ByteArray) (h64 : s.size = 64) : gU s 5 7 = atL s 5 * 256 + atL s 6 := by
  have hl : (s.extract 5 7).data.toList.length = 2 := by rw [lenB, ByteArray.size_extract]; omega
  unfold gU
  rw [← List.take_of_length_le (Nat.le_of_eq hl), take_snoc8 (by omega), ext_at (by decide), take_snoc8 (by omega), ext_at (by decide), List.take_zero]
  show (0 * 256 + atL s 5) * 256 + atL s 6 = _
  omega
theorem g1_eq (s : ByteArray) (i : Nat) (h64 : s.size = 64) (hi : i < 64) : gU s i (i + 1) = atL s i := by
  have hl : (s.extract i (i + 1)).data.toList.length = 1 := by rw [lenB, ByteArray.size_extract]; omega
  unfold gU
  rw [← List.take_of_length_le (Nat.le_of_eq hl), take_snoc8 (by omega), ext_at (by omega), List.take_zero]
  show 0 * 256 + _ = _
  rw [Nat.zero_mul, Nat.zero_add]
  rfl
theorem g4_eq (s : ByteArray) (i : Nat) (h64 : s.size = 64) (hi : i ≤ 60) : gU s i (i + 4) = v4 s i 4 := by
  have hl : (s.extract i (i + 4)).data.toList.length = 4 := by rw [lenB, ByteArray.size_extract]; omega
  unfold gU v4
  rw [List.take_of_length_le (Nat.le_of_eq hl)]
theorem one_byte (a : Nat) (h : a < 256) : wrp .i64 (a : Int) = (a : Int) := by rw [wrpE, wi64]; omega
theorem step_byte (v a : Nat) (hv : v < 16777216) (ha : a < 256) : wrp .i64 (wrp .i64 ((v : Int) * 256) + wrp .i64 (a : Int)) = ((v * 256 + a : Nat) : Int) := by
  rw [one_byte a ha]
  have e : wrp .i64 ((v : Int) * 256) = ((v * 256 : Nat) : Int) := by rw [wrpE, wi64]; omega
  rw [e, wrpE, wi64]
  omega
def stU (s : ByteArray) : Stp := ⟨gU s 1 5, gU s 5 7, gU s 7 11, gU s 11 12, gU s 12 13⟩
theorem two_bytes (a b : Nat) (ha : a < 256) (hb : b < 256) : wrp .i64 (wrp .i64 (wrp .i64 (a : Int) * 256) + wrp .i64 (b : Int)) = ((a * 256 + b : Nat) : Int) := by
  rw [one_byte a ha, one_byte b hb]
  have e : wrp .i64 ((a : Int) * 256) = ((a * 256 : Nat) : Int) := by rw [wrpE, wi64]; omega
  rw [e, wrpE, wi64]
  omega
theorem row_eq (s : ByteArray) (h64 : s.size = 64) : AObj.row [i64 (v4 s 1 4 : Nat), i64 (wrp .i64 (wrp .i64 (wrp .i64 (atL s 5 : Nat) * 256) + wrp .i64 (atL s 6 : Nat))), i64 (v4 s 7 4 : Nat), i64 (wrp .i64 (atL s 11 : Nat)), i64 (wrp .i64 (atL s 12 : Nat))] = .row (stC (stU s)) := by
  have e1 := g4_eq s 1 h64 (by decide)
  have e2 := g2_eq s h64
  have e3 := g4_eq s 7 h64 (by decide)
  have e4 := g1_eq s 11 h64 (by decide)
  have e5 := g1_eq s 12 h64 (by decide)
  have w2 : wrp .i64 (wrp .i64 (wrp .i64 (atL s 5 : Nat) * 256) + wrp .i64 (atL s 6 : Nat)) = ((gU s 5 7 : Nat) : Int) := by
    rw [e2]
    exact two_bytes _ _ (atL_lt s 5) (atL_lt s 6)
  have w4 : wrp .i64 (atL s 11 : Nat) = ((gU s 11 12 : Nat) : Int) := by
    rw [e4]
    exact one_byte _ (atL_lt s 11)
  have w5 : wrp .i64 (atL s 12 : Nat) = ((gU s 12 13 : Nat) : Int) := by
    rw [e5]
    exact one_byte _ (atL_lt s 12)
  rw [w2, w4, w5, ← e1, ← e3]
  exact congrArg AObj.row rfl
structure ScanSt (s : ByteArray) (n : Nat) where
  i : Nat
  h1 : 14 + n ≤ i
  h2 : i ≤ 64
  h3 : ∀ k, 14 + n ≤ k → k < i → atL s k = 0
theorem zeros_iff (s : ByteArray) (n : Nat) (h64 : s.size = 64) (hn : n ≤ 50) : (∀ i, i < (s.extract (14 + n) 64).size → atL (s.extract (14 + n) 64) i = 0) ↔ ∀ k, 14 + n ≤ k → k < 64 → atL s k = 0 := by
  have hsz : (s.extract (14 + n) 64).size = 50 - n := by rw [ByteArray.size_extract]; omega
  have hat : ∀ i, i < 50 - n → atL (s.extract (14 + n) 64) i = atL s (14 + n + i) := fun i hi => ext_at (by omega)
  rw [hsz]
  refine ⟨fun h k h1 h2 => ?_, fun h i hi => ?_⟩
  · have := h (k - (14 + n)) (by omega)
    rw [hat _ (by omega), show 14 + n + (k - (14 + n)) = k by omega] at this
    exact this
  · rw [hat i hi]
    exact h _ (by omega) (by omega)
theorem add14 (a : Nat) (h : a ≤ 50) : wrp .i64 (14 + (a : Int)) = ((14 + a : Nat) : Int) := by rw [wrpE, wi64]; omega
theorem rUnpack_no (s : ByteArray) (h64 : s.size = 64) (h0 : atL s 0 = 193) (hn : atL s 13 ≤ 50) (hno : ¬ ∃ m, OkU s m) : ACalls Tryd.prog 12 [str s] [] (Ret (.tup [stA stpZ, str emp, bo false])) := by
  have hrs := rsRight_ok (stU s)
  have hdec : (∀ k, 14 + atL s 13 ≤ k → k < 64 → atL s k = 0) → decide (okS (stU s)) = false := fun hall => decide_eq_false fun hR => hno ⟨atL s 13, h64, h0, hR, (g1_eq s 13 h64 (by decide)).symm, hn, (zeros_iff s (atL s 13) h64 hn).2 hall⟩
  refine acalls_of_awp hT mixed Tryd.func12 rfl (by kernel_rfl) (by kernel_rfl) (Nat.le_of_ble_eq_true rfl) ?_
  refine fork (fun q => ?_) (fun q => ?_)
  · exfalso
    have := bne_iff_ne.1 q
    omega
  refine Ob.intro (show (0 : Int) ≤ 0 ∧ 0 < (s.size : Int) by omega) ?_
  refine fork (fun q2 => ?_) (fun q2 => ?_)
  · exfalso
    have : ((atL s 0 : Nat) : Int) ≠ 193 := bne_iff_ne.1 q2
    omega
  refine Ob.intro (show (0 : Int) ≤ 13 ∧ 13 < (s.size : Int) by omega) ?_
  refine forkD (fun q3 => absurd (show (50 : Int) < ((atL s 13 : Nat) : Int) from q3) (by omega)) (fun q3 => ?_)
  refine loopI (α := { j : Nat // j ≤ 4 }) (fun j => [(0, str s), (2, .ptr 0 0), (5, i64 (v4 s 1 j.val : Nat)), (6, i64 (v4 s 7 j.val : Nat)), (7, i64 (j.val : Nat))]) (fun _ => [rowZ]) (fun j => 4 - j.val) ⟨0, Nat.zero_le _⟩ [0] ⟨⟨rfl, rfl, rfl, rfl, rfl, True.intro⟩, ⟨.inl rfl, True.intro⟩, rfl, rfl, rfl⟩ ?_
  rintro ⟨j, hj⟩ K hK
  have hj2 : j ≤ 4 := hj
  have hinc : wrp .i64 ((j : Int) + 1) = ((j + 1 : Nat) : Int) := by rw [wrpE, wi64]; omega
  refine forkD (fun g => ?_) (fun g => ?_)
  · have g' : j < 4 := by have : (j : Int) < 4 := g; omega
    have w1 : wrp .i64 (1 + (j : Int)) = ((1 + j : Nat) : Int) := by rw [wrpE, wi64]; omega
    have w7 : wrp .i64 (7 + (j : Int)) = ((7 + j : Nat) : Int) := by rw [wrpE, wi64]; omega
    have b1 := v4_lt s 1 j g'
    have b7 := v4_lt s 7 j g'
    have a1 := atL_lt s (1 + j)
    have a7 := atL_lt s (7 + j)
    refine Ob.intro (show (0 : Int) ≤ wrp .i64 (1 + (j : Int)) ∧ wrp .i64 (1 + (j : Int)) < (s.size : Int) by rw [w1]; omega) ?_
    refine Ob.intro (show (0 : Int) ≤ wrp .i64 (7 + (j : Int)) ∧ wrp .i64 (7 + (j : Int)) < (s.size : Int) by rw [w7]; omega) ?_
    refine hK ⟨j + 1, g'⟩ [0] _ (show 4 - j = 4 - (j + 1) + 1 by omega) ⟨⟨rfl, rfl, congrArg i64 ?_, congrArg i64 ?_, congrArg i64 hinc, True.intro⟩, ⟨.inl rfl, True.intro⟩, rfl, rfl, rfl⟩
    · show wrp .i64 (wrp .i64 (((v4 s 1 j : Nat) : Int) * 256) + wrp .i64 ((s.data.toList.getD (wrp .i64 (1 + (j : Int))).toNat 0).toNat : Nat)) = ((v4 s 1 (j + 1) : Nat) : Int)
      rw [w1, Int.toNat_natCast, v4_succ s 1 j h64 (by decide) g', show (s.data.toList.getD (1 + j) 0).toNat = atL s (1 + j) from rfl]
      exact step_byte _ _ b1 a1
    · show wrp .i64 (wrp .i64 (((v4 s 7 j : Nat) : Int) * 256) + wrp .i64 ((s.data.toList.getD (wrp .i64 (7 + (j : Int))).toNat 0).toNat : Nat)) = ((v4 s 7 (j + 1) : Nat) : Int)
      rw [w7, Int.toNat_natCast, v4_succ s 7 j h64 (by decide) g', show (s.data.toList.getD (7 + j) 0).toNat = atL s (7 + j) from rfl]
      exact step_byte _ _ b7 a7
  have hj4 : j = 4 := by have : ¬ (j : Int) < 4 := g; omega
  subst hj4
  have i5 : (0 : Int) ≤ 5 ∧ 5 < (s.size : Int) := by omega
  have i6 : (0 : Int) ≤ 6 ∧ 6 < (s.size : Int) := by omega
  have i11 : (0 : Int) ≤ 11 ∧ 11 < (s.size : Int) := by omega
  have i12 : (0 : Int) ≤ 12 ∧ 12 < (s.size : Int) := by omega
  refine ⟨[0, 0, 0, 0, 0, 0, 0, 0, 0, 0, 0, 0, 0, 0, 0, 0, 0, 0, 1], [[], [], [1], [1, 2], [1, 2, 3], [], [5], [5, 6], [1, 2, 3, 4, 5, 6, 7], [], [], [10], [10, 11], [], [13], [13, 14], [0, 1, 2, 3, 4, 5, 6, 7, 8, 9, 10, 11, 12, 13, 14, 15], [], [0, 1, 2, 3, 4, 5, 6, 7, 8, 9, 10, 11, 12, 13, 14, 15, 16, 17]], [0, 0, 0, 0, 0, 0, 0, 0, 0, 0, 0, 0, 0, 0, 0, 0, 0, 0, 1], [18], [[5], [0], [46], [47], [48], [0], [50], [51], [49, 52], [6], [0], [55], [56], [0], [58], [59], [45, 53, 54, 57, 60], [], [8, 61]], Ob.intro (by kernel_rfl) ?_⟩
  repeat first | refine same ?_ | refine Ob.intro i5 ?_ | refine Ob.intro i6 ?_ | refine Ob.intro i11 ?_ | refine Ob.intro i12 ?_
  refine Ob.intro (show (0 : Int) ≤ 13 ∧ 13 < (s.size : Int) by omega) ?_
  have hw9 : wrp .i64 (atL s 13 : Nat) = ((atL s 13 : Nat) : Int) := one_byte _ (atL_lt s 13)
  have hw10 : wrp .i64 (14 + wrp .i64 (atL s 13 : Nat)) = ((14 + atL s 13 : Nat) : Int) := by rw [hw9]; exact add14 _ hn
  have hrow := row_eq s h64
  refine loopI (α := ScanSt s (atL s 13)) (fun z => [(0, str s), (2, .ptr 0 0), (8, .ptr 1 0), (9, i64 (atL s 13 : Nat)), (10, i64 (z.i : Nat))]) (fun _ => [rowZ, .row (stC (stU s))]) (fun z => 64 - z.i) ⟨14 + atL s 13, Nat.le_refl _, by omega, fun k h1 h2 => by omega⟩ [0, 1]
    ⟨⟨rfl, rfl, rfl, congrArg i64 hw9, congrArg i64 hw10, True.intro⟩, ⟨.inl rfl, .inl (congrArg some hrow), True.intro⟩, rfl, rfl, rfl⟩ ?_
  rintro ⟨i, j1, j2, j3⟩ K hK
  have hinc : wrp .i64 ((i : Int) + 1) = ((i + 1 : Nat) : Int) := by rw [wrpE, wi64]; omega
  refine forkD (fun g => ?_) (fun g => ?_)
  · have g' : i < 64 := by have : (i : Int) < 64 := g; omega
    refine Ob.intro (show (0 : Int) ≤ (i : Nat) ∧ ((i : Nat) : Int) < (s.size : Int) by omega) ?_
    refine fork (fun z => ?_) (fun z => ?_)
    · have z' : atL s i ≠ 0 := by
        have : ((atL s i : Nat) : Int) ≠ 0 := bne_iff_ne.1 z
        omega
      refine endG rfl rfl rfl (G := []) True.intro (Nat.zero_le _) rfl ⟨rfl, rfl⟩
    · have z' : atL s i = 0 := by
        have : ((atL s i : Nat) : Int) = 0 := bne_eq_false_iff_eq.1 z
        omega
      refine hK ⟨i + 1, by omega, g', fun k k1 k2 => ?_⟩ [0, 1] _ (show 64 - i = 64 - (i + 1) + 1 by omega) ⟨⟨rfl, rfl, rfl, rfl, congrArg i64 hinc, True.intro⟩, ⟨.inl rfl, .inl rfl, True.intro⟩, rfl, rfl, rfl⟩
      by_cases hk : k = i
      · rw [hk]; exact z'
      · exact j3 k k1 (by omega)
  have hi64 : i = 64 := by have : ¬ (i : Int) < 64 := g; omega
  subst hi64
  rw [hdec j3] at hrs
  refine callP hrs rfl rfl ?_
  refine endG rfl rfl rfl (G := []) True.intro (Nat.zero_le _) rfl ⟨rfl, rfl⟩
theorem rUnpack_yes (s : ByteArray) (h64 : s.size = 64) (h0 : atL s 0 = 193) (hn : atL s 13 ≤ 50) (m : Nat) (o : OkU s m) : ACalls Tryd.prog 12 [str s] [] (Ret (.tup [stA (stU s), str (s.extract 14 (14 + m)), bo true])) := by
  have hrs := rsRight_ok (stU s)
  have hn13 : gU s 13 14 = atL s 13 := g1_eq s 13 h64 (by decide)
  have hm : m = atL s 13 := o.hm.trans hn13
  subst hm
  have hall := (zeros_iff s (atL s 13) h64 hn).1 o.hz
  rw [decide_eq_true (show okS (stU s) from o.hR)] at hrs
  clear hn13 o
  refine acalls_of_awp hT mixed Tryd.func12 rfl (by kernel_rfl) (by kernel_rfl) (Nat.le_of_ble_eq_true rfl) ?_
  refine fork (fun q => ?_) (fun q => ?_)
  · exfalso
    have := bne_iff_ne.1 q
    omega
  refine Ob.intro (show (0 : Int) ≤ 0 ∧ 0 < (s.size : Int) by omega) ?_
  refine fork (fun q2 => ?_) (fun q2 => ?_)
  · exfalso
    have : ((atL s 0 : Nat) : Int) ≠ 193 := bne_iff_ne.1 q2
    omega
  refine Ob.intro (show (0 : Int) ≤ 13 ∧ 13 < (s.size : Int) by omega) ?_
  refine forkD (fun q3 => absurd (show (50 : Int) < ((atL s 13 : Nat) : Int) from q3) (by omega)) (fun q3 => ?_)
  refine loopI (α := { j : Nat // j ≤ 4 }) (fun j => [(0, str s), (2, .ptr 0 0), (5, i64 (v4 s 1 j.val : Nat)), (6, i64 (v4 s 7 j.val : Nat)), (7, i64 (j.val : Nat))]) (fun _ => [rowZ]) (fun j => 4 - j.val) ⟨0, Nat.zero_le _⟩ [0] ⟨⟨rfl, rfl, rfl, rfl, rfl, True.intro⟩, ⟨.inl rfl, True.intro⟩, rfl, rfl, rfl⟩ ?_
  rintro ⟨j, hj⟩ K hK
  have hj2 : j ≤ 4 := hj
  have hinc : wrp .i64 ((j : Int) + 1) = ((j + 1 : Nat) : Int) := by rw [wrpE, wi64]; omega
  refine forkD (fun g => ?_) (fun g => ?_)
  · have g' : j < 4 := by have : (j : Int) < 4 := g; omega
    have w1 : wrp .i64 (1 + (j : Int)) = ((1 + j : Nat) : Int) := by rw [wrpE, wi64]; omega
    have w7 : wrp .i64 (7 + (j : Int)) = ((7 + j : Nat) : Int) := by rw [wrpE, wi64]; omega
    have b1 := v4_lt s 1 j g'
    have b7 := v4_lt s 7 j g'
    have a1 := atL_lt s (1 + j)
    have a7 := atL_lt s (7 + j)
    refine Ob.intro (show (0 : Int) ≤ wrp .i64 (1 + (j : Int)) ∧ wrp .i64 (1 + (j : Int)) < (s.size : Int) by rw [w1]; omega) ?_
    refine Ob.intro (show (0 : Int) ≤ wrp .i64 (7 + (j : Int)) ∧ wrp .i64 (7 + (j : Int)) < (s.size : Int) by rw [w7]; omega) ?_
    refine hK ⟨j + 1, g'⟩ [0] _ (show 4 - j = 4 - (j + 1) + 1 by omega) ⟨⟨rfl, rfl, congrArg i64 ?_, congrArg i64 ?_, congrArg i64 hinc, True.intro⟩, ⟨.inl rfl, True.intro⟩, rfl, rfl, rfl⟩
    · show wrp .i64 (wrp .i64 (((v4 s 1 j : Nat) : Int) * 256) + wrp .i64 ((s.data.toList.getD (wrp .i64 (1 + (j : Int))).toNat 0).toNat : Nat)) = ((v4 s 1 (j + 1) : Nat) : Int)
      rw [w1, Int.toNat_natCast, v4_succ s 1 j h64 (by decide) g', show (s.data.toList.getD (1 + j) 0).toNat = atL s (1 + j) from rfl]
      exact step_byte _ _ b1 a1
    · show wrp .i64 (wrp .i64 (((v4 s 7 j : Nat) : Int) * 256) + wrp .i64 ((s.data.toList.getD (wrp .i64 (7 + (j : Int))).toNat 0).toNat : Nat)) = ((v4 s 7 (j + 1) : Nat) : Int)
      rw [w7, Int.toNat_natCast, v4_succ s 7 j h64 (by decide) g', show (s.data.toList.getD (7 + j) 0).toNat = atL s (7 + j) from rfl]
      exact step_byte _ _ b7 a7
  have hj4 : j = 4 := by have : ¬ (j : Int) < 4 := g; omega
  subst hj4
  have i5 : (0 : Int) ≤ 5 ∧ 5 < (s.size : Int) := by omega
  have i6 : (0 : Int) ≤ 6 ∧ 6 < (s.size : Int) := by omega
  have i11 : (0 : Int) ≤ 11 ∧ 11 < (s.size : Int) := by omega
  have i12 : (0 : Int) ≤ 12 ∧ 12 < (s.size : Int) := by omega
  refine ⟨[0, 0, 0, 0, 0, 0, 0, 0, 0, 0, 0, 0, 0, 0, 0, 0, 0, 0, 1], [[], [], [1], [1, 2], [1, 2, 3], [], [5], [5, 6], [1, 2, 3, 4, 5, 6, 7], [], [], [10], [10, 11], [], [13], [13, 14], [0, 1, 2, 3, 4, 5, 6, 7, 8, 9, 10, 11, 12, 13, 14, 15], [], [0, 1, 2, 3, 4, 5, 6, 7, 8, 9, 10, 11, 12, 13, 14, 15, 16, 17]], [0, 0, 0, 0, 0, 0, 0, 0, 0, 0, 0, 0, 0, 0, 0, 0, 0, 0, 1], [18], [[5], [0], [46], [47], [48], [0], [50], [51], [49, 52], [6], [0], [55], [56], [0], [58], [59], [45, 53, 54, 57, 60], [], [8, 61]], Ob.intro (by kernel_rfl) ?_⟩
  repeat first | refine same ?_ | refine Ob.intro i5 ?_ | refine Ob.intro i6 ?_ | refine Ob.intro i11 ?_ | refine Ob.intro i12 ?_
  refine Ob.intro (show (0 : Int) ≤ 13 ∧ 13 < (s.size : Int) by omega) ?_
  have hw9 : wrp .i64 (atL s 13 : Nat) = ((atL s 13 : Nat) : Int) := one_byte _ (atL_lt s 13)
  have hw10 : wrp .i64 (14 + wrp .i64 (atL s 13 : Nat)) = ((14 + atL s 13 : Nat) : Int) := by rw [hw9]; exact add14 _ hn
  have hrow := row_eq s h64
  refine loopI (α := ScanSt s (atL s 13)) (fun z => [(0, str s), (2, .ptr 0 0), (8, .ptr 1 0), (9, i64 (atL s 13 : Nat)), (10, i64 (z.i : Nat))]) (fun _ => [rowZ, .row (stC (stU s))]) (fun z => 64 - z.i) ⟨14 + atL s 13, Nat.le_refl _, by omega, fun k h1 h2 => by omega⟩ [0, 1]
    ⟨⟨rfl, rfl, rfl, congrArg i64 hw9, congrArg i64 hw10, True.intro⟩, ⟨.inl rfl, .inl (congrArg some hrow), True.intro⟩, rfl, rfl, rfl⟩ ?_
  rintro ⟨i, j1, j2, j3⟩ K hK
  have hinc : wrp .i64 ((i : Int) + 1) = ((i + 1 : Nat) : Int) := by rw [wrpE, wi64]; omega
  refine forkD (fun g => ?_) (fun g => ?_)
  · have g' : i < 64 := by have : (i : Int) < 64 := g; omega
    refine Ob.intro (show (0 : Int) ≤ (i : Nat) ∧ ((i : Nat) : Int) < (s.size : Int) by omega) ?_
    refine fork (fun z => ?_) (fun z => ?_)
    · have z' : atL s i ≠ 0 := by
        have : ((atL s i : Nat) : Int) ≠ 0 := bne_iff_ne.1 z
        omega
      exact absurd (hall i j1 g') z'
    · have z' : atL s i = 0 := by
        have : ((atL s i : Nat) : Int) = 0 := bne_eq_false_iff_eq.1 z
        omega
      refine hK ⟨i + 1, by omega, g', fun k k1 k2 => ?_⟩ [0, 1] _ (show 64 - i = 64 - (i + 1) + 1 by omega) ⟨⟨rfl, rfl, rfl, rfl, congrArg i64 hinc, True.intro⟩, ⟨.inl rfl, .inl rfl, True.intro⟩, rfl, rfl, rfl⟩
      by_cases hk : k = i
      · rw [hk]; exact z'
      · exact j3 k k1 (by omega)
  have hi64 : i = 64 := by have : ¬ (i : Int) < 64 := g; omega
  subst hi64
  refine callP hrs rfl rfl ?_
  have hw : wrp .i64 (14 + ((atL s 13 : Nat) : Int)) = ((14 + atL s 13 : Nat) : Int) := by rw [wrpE, wi64]; omega
  have s6 : (0 : Int) ≤ 14 ∧ 14 ≤ wrp .i64 (14 + ((atL s 13 : Nat) : Int)) ∧ wrp .i64 (14 + ((atL s 13 : Nat) : Int)) ≤ (s.size : Int) := by rw [hw]; omega
  refine ⟨[0, 0, 0, 0, 0, 1, 1, 1], [[], [], [], [2], [1, 2, 3], [0], [0, 1, 2, 3, 4, 5], [0, 1, 2, 3, 4, 5, 6]], [0, 0, 0, 0, 0, 0, 0, 0], [5], [[8], [0], [9], [82], [81, 83], [2, 80], [84], []], Ob.intro (by kernel_rfl) ?_⟩
  repeat first | refine same ?_ | refine Ob.intro s6 ?_
  refine endG rfl rfl rfl (G := []) True.intro (Nat.zero_le _) rfl ⟨?_, rfl⟩
  show AEnd.ret (.tup [stA (stU s), str (s.extract (14 : Int).toNat (wrp .i64 (14 + ((atL s 13 : Nat) : Int))).toNat), bo true]) = _
  rw [hw]
  rfl
theorem rUnpackU (s : ByteArray) : (∀ m, OkU s m → ACalls Tryd.prog 12 [str s] [] (Ret (.tup [stA (stU s), str (s.extract 14 (14 + m)), bo true]))) ∧ ((¬ ∃ m, OkU s m) → ACalls Tryd.prog 12 [str s] [] (Ret (.tup [stA stpZ, str emp, bo false]))) := by
  refine ⟨fun m o => ?_, fun hno => ?_⟩
  · have hn : atL s 13 ≤ 50 := by
      have := o.hn
      have := o.hm
      rw [g1_eq s 13 o.h64 (by decide)] at this
      omega
    exact rUnpack_yes s o.h64 o.h0 hn m o
  · by_cases h64 : s.size = 64
    · by_cases h0 : atL s 0 = 193
      · by_cases hn : atL s 13 ≤ 50
        · exact rUnpack_no s h64 h0 hn hno
        · exact rUnpack_long s h64 h0 (by omega)
      · exact rUnpack_mark s h64 h0
    · exact rUnpack_len s h64
end Go.Proofs.YtipinhlfajmghaaDoor.A
