/- sector: bytes as numbers, trims. No condition. -/
import Derived.Test.YthbncljlclcecaaDoorBb
namespace Go.Proofs.YthbncljlclcecaaDoor.A
open Go
set_option linter.unusedVariables false
set_option maxRecDepth 100000
set_option pp.maxSteps 1500

abbrev dlYd1a : List Nat := [0, 0, 1, 0, 0, 2, 0, 0, 3, 0, 0, 4, 0, 0, 5, 5, 0, 6]
abbrev dlYd1b : List (List Nat) := [[], [0], [0, 1], [], [3], [0, 1, 2, 3, 4], [], [6], [0, 1, 2, 3, 4, 5, 6, 7], [], [9], [0, 1, 2, 3, 4, 5, 6, 7, 8, 9, 10], [], [12], [0, 1, 2, 3, 4, 5, 6, 7, 8, 9, 10, 11, 12, 13], [0, 1, 2, 3, 4, 5, 6, 7, 8, 9, 10, 11, 12, 13, 14], [], [0, 1, 2, 3, 4, 5, 6, 7, 8, 9, 10, 11, 12, 13, 14, 15, 16]]
abbrev dlYd1c : List Nat := [0, 0, 0, 0, 0, 0, 0, 0, 0, 0, 0, 0, 0, 0, 0, 0, 0, 1]
abbrev dlYd1d : List Nat := [2, 5, 8, 11, 14, 17]
abbrev dlYd1e : List (List Nat) := [[0], [16], [17], [0], [19], [20], [0], [22], [23], [0], [25], [26], [0], [28], [29], [18, 21, 24, 27, 30], [], [5, 31]]
/-- The number that bytes tell, the highest first. -/
def valL (l : List UInt8) : Nat := l.foldl (fun p c => p * 256 + c.toNat) 0
theorem valL_snoc (l : List UInt8) (c : UInt8) : valL (l ++ [c]) = valL l * 256 + c.toNat := by simp [valL]
theorem valL_lt : ∀ (l : List UInt8), valL l < 256 ^ l.length := by
  intro l
  generalize hk : l.length = k
  induction k generalizing l with
  | zero => rw [List.eq_nil_of_length_eq_zero hk]; decide
  | succ k ih =>
    have hne : l ≠ [] := fun h => by rw [h] at hk; simp at hk
    rw [← List.dropLast_concat_getLast hne, valL_snoc]
    have h1 := ih l.dropLast (by simp [hk])
    have h2 := (l.getLast hne).toNat_lt
    rw [Nat.pow_succ]
    omega
theorem take_snoc8 {l : List UInt8} {i : Nat} (h : i < l.length) : valL (l.take (i + 1)) = valL (l.take i) * 256 + (l.getD i 0).toNat := by
  rw [List.take_succ_eq_append_getElem h, valL_snoc, List.getD_eq_getElem?_getD, List.getElem?_eq_getElem h, Option.getD_some]
theorem or_byteI (p : Nat) (c : UInt8) (h : p < 4294967296) : wrp .i64 ((BitVec.ofInt IntKind.i64.bits (wrp .i64 ((p : Int) * 2 ^ min (8 : Int).toNat IntKind.i64.bits)) ||| BitVec.ofInt IntKind.i64.bits (wrp .i64 (c.toNat : Int))).toNat : Int) = ((p * 256 + c.toNat : Nat) : Int) := by
  have hc := c.toNat_lt
  have e0 : wrp .i64 ((p : Int) * 2 ^ min (8 : Int).toNat IntKind.i64.bits) = ((2 ^ 8 * p : Nat) : Int) := by
    have : (2 : Int) ^ min (8 : Int).toNat IntKind.i64.bits = 256 := rfl
    rw [this, wrpE, wi64]
    omega
  have e1 : wrp .i64 (c.toNat : Int) = ((c.toNat : Nat) : Int) := by rw [wrpE, wi64]; omega
  have e2 : (BitVec.ofInt 64 ((2 ^ 8 * p : Nat) : Int)).toNat = 2 ^ 8 * p := by rw [BitVec.toNat_ofInt]; omega
  have e3 : (BitVec.ofInt 64 ((c.toNat : Nat) : Int)).toNat = c.toNat := by rw [BitVec.toNat_ofInt]; omega
  have e4 : (BitVec.ofInt IntKind.i64.bits ((2 ^ 8 * p : Nat) : Int) ||| BitVec.ofInt IntKind.i64.bits ((c.toNat : Nat) : Int)).toNat = 2 ^ 8 * p + c.toNat := by
    show (BitVec.ofInt 64 ((2 ^ 8 * p : Nat) : Int) ||| BitVec.ofInt 64 ((c.toNat : Nat) : Int)).toNat = _
    rw [BitVec.toNat_or, e2, e3, ← Nat.two_pow_add_eq_or_of_lt (by omega)]
  rw [e0, e1, e4, wrpE, wi64]
  omega
theorem get_ok (s : ByteArray) (hs : s.size ≤ 4) : ACalls Tryd.prog 60 [str s] [] (Ret (i64 (valL s.data.toList : Nat))) := by
  have hl : s.data.toList.length = s.size := by simp
  refine acalls_of_awp hT mixed Tryd.func60 rfl (by kernel_rfl) (by kernel_rfl) (Nat.le_of_ble_eq_true rfl) ?_
  refine loopI (α := { i : Nat // i ≤ s.size }) (fun i => [(0, str s), (3, i64 (valL (s.data.toList.take i.val) : Nat)), (6, i64 s.size), (7, i64 (i.val : Int))]) (fun i => []) (fun i => s.size - i.val) ⟨0, Nat.zero_le _⟩ [] ⟨⟨rfl, rfl, rfl, rfl, True.intro⟩, True.intro, rfl, rfl, rfl⟩ ?_
  rintro ⟨i, hi⟩ K hK
  have hinc : wrp .i64 ((i : Int) + 1) = ((i + 1 : Nat) : Int) := by rw [wrpE, wi64]; omega
  refine forkD (fun g => ?_) (fun g => ?_)
  · have g' : i < s.size := by have : (i : Int) < (s.size : Int) := g; omega
    refine Ob.intro (by decide) ?_
    refine Ob.intro (show (0 : Int) ≤ (i : Nat) ∧ ((i : Nat) : Int) < (s.size : Nat) by omega) ?_
    have hlt := valL_lt (s.data.toList.take i)
    have hm : 256 ^ (s.data.toList.take i).length ≤ 256 ^ 3 := Nat.pow_le_pow_right (by decide) (by rw [List.length_take]; omega)
    refine hK ⟨i + 1, g'⟩ [] _ (show s.size - i = s.size - (i + 1) + 1 by omega) ⟨⟨rfl, congrArg i64 ?_, rfl, congrArg i64 hinc, True.intro⟩, True.intro, rfl, rfl, rfl⟩
    show _ = ((valL (s.data.toList.take (i + 1)) : Nat) : Int)
    rw [take_snoc8 (by omega)]
    exact or_byteI (valL (s.data.toList.take i)) _ (by omega)
  · have g' : i = s.size := by have : ¬ (i : Int) < (s.size : Int) := g; omega
    refine end0 rfl rfl rfl ?_
    show i64 (valL (s.data.toList.take i) : Nat) = _
    rw [List.take_of_length_le (by omega)]
theorem within_ok (n a b : Int) : ACalls Tryd.prog 68 [i64 n, i64 a, i64 b] [] (Ret (bo (decide (a ≤ n ∧ n ≤ b)))) := by
  refine acalls_of_awp hT mixed Tryd.func68 rfl (by kernel_rfl) (by kernel_rfl) (Nat.le_of_ble_eq_true rfl) ?_
  refine forkD (fun h => ?_) (fun h => ?_)
  · have h' : a ≤ n := h
    refine forkD (fun g => ?_) (fun g => ?_)
    · have g' : n ≤ b := g
      refine end0 rfl rfl rfl (congrArg bo (decide_eq_true ⟨h', g'⟩).symm)
    · have g' : ¬ n ≤ b := g
      refine end0 rfl rfl rfl (congrArg bo (decide_eq_false (fun hh => g' hh.2)).symm)
  · have h' : ¬ a ≤ n := h
    refine end0 rfl rfl rfl (congrArg bo (decide_eq_false (fun hh => h' hh.1)).symm)
end Go.Proofs.YthbncljlclcecaaDoor.A

namespace Go.Proofs.YthbncljlclcecaaDoor.A
open Go
set_option linter.unusedVariables false
set_option maxRecDepth 100000
set_option pp.maxSteps 1500

theorem exlB (s : ByteArray) (i j : Nat) : (s.extract i j).data.toList = (s.data.toList.drop i).take (j - i) := by
  rw [ByteArray.data_extract, Array.toList_extract, List.extract_eq_take_drop]
theorem lenB (s : ByteArray) : s.data.toList.length = s.size := by simp
def atL (s : ByteArray) (i : Nat) : Nat := (s.data.toList.getD i 0).toNat
def u8 (c : Nat) : AV := .sc (.int .u8 c)
def RTrim (c : Nat) (s : ByteArray) (v : AV) : Prop := ∃ r : ByteArray, v = str r ∧ r.size ≤ s.size ∧ r.data.toList = s.data.toList.take r.size ∧ (∀ i, r.size ≤ i → i < s.size → atL s i = c) ∧ (0 < r.size → atL s (r.size - 1) ≠ c)
theorem trimRight_ok (s : ByteArray) (c : Nat) (hs : s.size ≤ 4611686018427387904) : ACalls Tryd.prog 70 [str s, u8 c] [] (fun E G => ∃ v, RTrim c s v ∧ E = .ret v ∧ G = []) := by
  refine acalls_of_awp hT mixed Tryd.func70 rfl (by kernel_rfl) (by kernel_rfl) (Nat.le_of_ble_eq_true rfl) ?_
  refine loopI (α := { r : ByteArray // r.size ≤ s.size ∧ r.data.toList = s.data.toList.take r.size ∧ ∀ i, r.size ≤ i → i < s.size → atL s i = c }) (fun r => [(0, str r.val), (1, u8 c)]) (fun i => []) (fun r => r.val.size) ⟨s, Nat.le_refl _, by rw [← lenB, List.take_length], fun i h1 h2 => by omega⟩ [] ⟨⟨rfl, rfl, True.intro⟩, True.intro, rfl, rfl, rfl⟩ ?_
  rintro ⟨r, h1, h2, h3⟩ K hK
  replace h1 : r.size ≤ s.size := h1
  refine forkD (fun g => ?_) (fun g => ?_)
  · have g' : 0 < r.size := by have : (0 : Int) < (r.size : Int) := g; omega
    have hw : wrp .i64 ((r.size : Int) - 1) = ((r.size - 1 : Nat) : Int) := by rw [wrpE, wi64]; omega
    have hat : (r.data.toList.getD (r.size - 1) 0).toNat = atL s (r.size - 1) := by
      unfold atL
      rw [h2, List.getD_eq_getElem?_getD, List.getD_eq_getElem?_getD, List.getElem?_take_of_lt (by omega)]
    refine Ob.intro (show (0 : Int) ≤ wrp .i64 ((r.size : Int) - 1) ∧ wrp .i64 ((r.size : Int) - 1) < (r.size : Int) by rw [hw]; omega) ?_
    refine fork (fun q => ?_) (fun q => ?_)
    · have q' : atL s (r.size - 1) = c := by
        have := beq_iff_eq.1 q
        rw [hw, Int.toNat_natCast, hat] at this
        omega
      refine Ob.intro (show (0 : Int) ≤ 0 ∧ 0 ≤ wrp .i64 ((r.size : Int) - 1) ∧ wrp .i64 ((r.size : Int) - 1) ≤ (r.size : Int) by rw [hw]; omega) ?_
      have hsz : (r.extract 0 (r.size - 1)).size = r.size - 1 := by rw [ByteArray.size_extract]; omega
      refine hK ⟨r.extract 0 (r.size - 1), ?_, ?_, ?_⟩ [] _ (show r.size = (r.extract 0 (r.size - 1)).size + 1 by omega) ⟨⟨?_, rfl, True.intro⟩, True.intro, rfl, rfl, rfl⟩
      · rw [hsz]; omega
      · rw [exlB, hsz, h2, List.drop_zero, List.take_take]
        congr 1
        omega
      · rw [hsz]
        intro i g1 g2
        by_cases he : i = r.size - 1
        · rw [he]; exact q'
        · exact h3 i (by omega) g2
      · show str (r.extract (0 : Int).toNat (wrp .i64 ((r.size : Int) - 1)).toNat) = str (r.extract 0 (r.size - 1))
        rw [hw]
        rfl
    · have q' : atL s (r.size - 1) ≠ c := fun hh => by
        have := beq_eq_false_iff_ne.1 q
        rw [hw, Int.toNat_natCast, hat, hh] at this
        exact this rfl
      exact endE rfl rfl rfl ⟨r, rfl, h1, h2, h3, fun _ => q'⟩
  · have g' : r.size = 0 := by have : ¬ (0 : Int) < (r.size : Int) := g; omega
    exact endE rfl rfl rfl ⟨r, rfl, h1, h2, h3, fun h => by omega⟩
def LTrim (c : Nat) (s : ByteArray) (v : AV) : Prop := ∃ r : ByteArray, v = str r ∧ r.size ≤ s.size ∧ (r.size = 0 → ∀ i, i < s.size → atL s i = c)
theorem trimLeft_ok (s : ByteArray) (c : Nat) (hs : s.size ≤ 4611686018427387904) : ACalls Tryd.prog 69 [str s, u8 c] [] (fun E G => ∃ v, LTrim c s v ∧ E = .ret v ∧ G = []) := by
  refine acalls_of_awp hT mixed Tryd.func69 rfl (by kernel_rfl) (by kernel_rfl) (Nat.le_of_ble_eq_true rfl) ?_
  refine loopI (α := { r : ByteArray // r.size ≤ s.size ∧ r.data.toList = s.data.toList.drop (s.size - r.size) ∧ ∀ i, i < s.size - r.size → atL s i = c }) (fun r => [(0, str r.val), (1, u8 c)]) (fun i => []) (fun r => r.val.size) ⟨s, Nat.le_refl _, by rw [Nat.sub_self, List.drop_zero], fun i h1 => by omega⟩ [] ⟨⟨rfl, rfl, True.intro⟩, True.intro, rfl, rfl, rfl⟩ ?_
  rintro ⟨r, h1, h2, h3⟩ K hK
  replace h1 : r.size ≤ s.size := h1
  refine forkD (fun g => ?_) (fun g => ?_)
  · have g' : 0 < r.size := by have : (0 : Int) < (r.size : Int) := g; omega
    have hat : (r.data.toList.getD 0 0).toNat = atL s (s.size - r.size) := by
      unfold atL
      rw [h2, List.getD_eq_getElem?_getD, List.getD_eq_getElem?_getD, List.getElem?_drop, Nat.add_zero]
    refine Ob.intro (show (0 : Int) ≤ 0 ∧ 0 < (r.size : Int) by omega) ?_
    refine fork (fun q => ?_) (fun q => ?_)
    · have q' : atL s (s.size - r.size) = c := by
        have := beq_iff_eq.1 q
        rw [show (0 : Int).toNat = 0 from rfl, hat] at this
        omega
      refine Ob.intro (show (0 : Int) ≤ 1 ∧ 1 ≤ (r.size : Int) ∧ (r.size : Int) ≤ (r.size : Int) by omega) ?_
      have hsz : (r.extract 1 r.size).size = r.size - 1 := by rw [ByteArray.size_extract]; omega
      refine hK ⟨r.extract 1 r.size, ?_, ?_, ?_⟩ [] _ (show r.size = (r.extract 1 r.size).size + 1 by omega) ⟨⟨rfl, rfl, True.intro⟩, True.intro, rfl, rfl, rfl⟩
      · rw [hsz]; omega
      · rw [exlB, hsz, h2, List.drop_drop, List.take_of_length_le (by rw [List.length_drop, lenB]; omega)]
        congr 1
        omega
      · rw [hsz]
        intro i g1
        by_cases he : i = s.size - r.size
        · rw [he]; exact q'
        · exact h3 i (by omega)
    · exact endE rfl rfl rfl ⟨r, rfl, h1, fun h => by omega⟩
  · have g' : r.size = 0 := by have : ¬ (0 : Int) < (r.size : Int) := g; omega
    exact endE rfl rfl rfl ⟨r, rfl, h1, fun _ i hi => h3 i (by omega)⟩
end Go.Proofs.YthbncljlclcecaaDoor.A

namespace Go.Proofs.YthbncljlclcecaaDoor.A
open Go
set_option linter.unusedVariables false
set_option maxRecDepth 100000
set_option pp.maxSteps 1500

theorem strEq_nilB (t : ByteArray) : strEq t ⟨#[]⟩ = decide (t.size = 0) := by
  rw [strEq_eq]
  show (t.data.toList == []) = decide (t.data.size = 0)
  rw [Bool.eq_iff_iff, beq_iff_eq, decide_eq_true_eq, ← Array.length_toList]
  exact List.length_eq_zero_iff.symm
theorem trim_var (s z : ByteArray) (hs : s.size ≤ 4611686018427387904) (hz1 : z.size = 1) (hz0 : atL z 0 = 0) : ACalls Tryd.prog 62 [str s, str z] [] (fun E G => ∃ v, (∃ r : ByteArray, v = str r ∧ (r.size = 0 ↔ ∀ i, i < s.size → atL s i = 0)) ∧ E = .ret v ∧ G = []) := by
  refine acalls_of_awp hT mixed Tryd.func62 rfl (by kernel_rfl) (by kernel_rfl) (Nat.le_of_ble_eq_true rfl) ?_
  refine fork (fun h => ?_) (fun h => ?_)
  · have hz : s.size = 0 := by
      have : strEq s ⟨#[]⟩ = true := h
      rw [strEq_nilB, decide_eq_true_eq] at this
      exact this
    refine endE rfl rfl rfl ⟨s, rfl, fun _ i hi => by omega, fun _ => hz⟩
  · refine fork (fun h2 => ?_) (fun h2 => ?_)
    · exfalso
      have : strEq z ⟨#[]⟩ = true := h2
      rw [strEq_nilB, decide_eq_true_eq] at this
      omega
    have hi : (0 : Int) ≤ 0 ∧ 0 < (z.size : Int) := by omega
    refine fork (fun h3 => ?_) (fun h3 => absurd h3 (by rw [hz1]; decide))
    refine Ob.intro hi ?_
    refine forkD (fun h4 => ?_) (fun h4 => absurd (show ((atL z 0 : Nat) : Int) < 128 by omega) h4)
    refine ⟨[0, 0, 0, 1, 0, 0, 2, 2], [[], [], [1], [0, 1, 2], [], [4], [0, 1, 2, 3, 4, 5], [0, 1, 2, 3, 4, 5, 6]], [0, 0, 0, 0, 0, 0, 0, 0], [3, 6], [[0], [1], [23], [22, 24], [1], [26], [25, 27], [28]], Ob.intro (by kernel_rfl) ?_⟩
    repeat first | refine same ?_ | refine Ob.intro hi ?_
    refine callE (trimRight_ok s (atL z 0) hs) rfl (fun v hv => by obtain ⟨r, rfl, _⟩ := hv; rfl) ?_
    rintro v ⟨r, rfl, h1, h2, h3, h4⟩
    repeat first | refine same ?_ | refine Ob.intro hi ?_
    refine callE (trimLeft_ok r (atL z 0) (by omega)) rfl (fun v hv => by obtain ⟨r, rfl, _⟩ := hv; rfl) ?_
    rintro v ⟨q, rfl, g1, g2⟩
    repeat first | refine same ?_ | refine Ob.intro hi ?_
    rw [hz0] at g2 h3
    rw [hz0] at h4
    refine endE rfl rfl rfl ⟨q, rfl, fun hq => ?_, fun hall => ?_⟩
    · intro i hi
      have hr := g2 hq
      by_cases hir : i < r.size
      · exfalso
        have hl := hr (r.size - 1) (by omega)
        have : atL r (r.size - 1) = atL s (r.size - 1) := by
          unfold atL
          rw [h2, List.getD_eq_getElem?_getD, List.getD_eq_getElem?_getD, List.getElem?_take_of_lt (by omega)]
        rw [this] at hl
        exact h4 (by omega) hl
      · exact h3 i (by omega) hi
    · have : r.size = 0 := by
        by_cases hz : r.size = 0
        · exact hz
        · exact absurd (hall (r.size - 1) (by omega)) (h4 (by omega))
      omega
theorem trim_ok (s : ByteArray) (hs : s.size ≤ 4611686018427387904) : ACalls Tryd.prog 62 [str s, str ⟨#[0]⟩] [] (fun E G => ∃ v, (∃ r : ByteArray, v = str r ∧ (r.size = 0 ↔ ∀ i, i < s.size → atL s i = 0)) ∧ E = .ret v ∧ G = []) := trim_var s ⟨#[0]⟩ hs rfl rfl
structure Stp where
  gen : Int
  index : Int
  life : Int
  part : Int
  parts : Int
def stC (x : Stp) : List AV := [i64 x.gen, i64 x.index, i64 x.life, i64 x.part, i64 x.parts]
def stA (x : Stp) : AV := .agg (stC x)
/-- May it be? -/
def okS (x : Stp) : Prop := (1 ≤ x.gen ∧ x.gen ≤ 2147483647) ∧ (1 ≤ x.life ∧ x.life ≤ 2147483647) ∧ (0 ≤ x.index ∧ x.index ≤ 127) ∧ (1 ≤ x.parts ∧ x.parts ≤ 128) ∧ 0 ≤ x.part ∧ x.part < x.parts
instance (x : Stp) : Decidable (okS x) := inferInstanceAs (Decidable (_ ∧ _))
theorem sRight_ok (x : Stp) : ACalls Tryd.prog 61 [stA x] [] (Ret (bo (decide (okS x)))) := by
  obtain ⟨g, ix, l, p, n⟩ := x
  have w1 := within_ok g 1 2147483647
  have w2 := within_ok l 1 2147483647
  have w3 := within_ok ix 0 127
  have w4 := within_ok n 1 128
  have w5 := within_ok p 0 (wrp .i64 (n - 1))
  by_cases h1 : 1 ≤ g ∧ g ≤ 2147483647
  · rw [decide_eq_true h1] at w1
    by_cases h2 : 1 ≤ l ∧ l ≤ 2147483647
    · rw [decide_eq_true h2] at w2
      by_cases h3 : 0 ≤ ix ∧ ix ≤ 127
      · rw [decide_eq_true h3] at w3
        by_cases h4 : 1 ≤ n ∧ n ≤ 128
        · rw [decide_eq_true h4] at w4
          have hw : wrp .i64 (n - 1) = n - 1 := by rw [wrpE, wi64]; omega
          by_cases h5 : 0 ≤ p ∧ p ≤ wrp .i64 (n - 1)
          · rw [decide_eq_true h5] at w5
            refine acalls_of_awp hT mixed Tryd.func61 rfl (by kernel_rfl) (by kernel_rfl) (Nat.le_of_ble_eq_true rfl) ?_
            refine callP w1 rfl rfl ?_
            refine callP w2 rfl rfl ?_
            refine callP w3 rfl rfl ?_
            refine callP w4 rfl rfl ?_
            refine callP w5 rfl rfl ?_
            refine end0 rfl rfl rfl (congrArg bo (decide_eq_true ⟨h1, h2, h3, h4, h5.1, ?_⟩).symm)
            have := h5.2
            rw [hw] at this
            show p < n
            omega
          · rw [decide_eq_false h5] at w5
            refine acalls_of_awp hT mixed Tryd.func61 rfl (by kernel_rfl) (by kernel_rfl) (Nat.le_of_ble_eq_true rfl) ?_
            refine callP w1 rfl rfl ?_
            refine callP w2 rfl rfl ?_
            refine callP w3 rfl rfl ?_
            refine callP w4 rfl rfl ?_
            refine callP w5 rfl rfl ?_
            refine end0 rfl rfl rfl (congrArg bo (decide_eq_false (fun hh => ?_)).symm)
            refine h5 ⟨hh.2.2.2.2.1, ?_⟩
            have : p < n := hh.2.2.2.2.2
            rw [hw]
            omega
        · rw [decide_eq_false h4] at w4
          refine acalls_of_awp hT mixed Tryd.func61 rfl (by kernel_rfl) (by kernel_rfl) (Nat.le_of_ble_eq_true rfl) ?_
          refine callP w1 rfl rfl ?_
          refine callP w2 rfl rfl ?_
          refine callP w3 rfl rfl ?_
          refine callP w4 rfl rfl ?_
          refine end0 rfl rfl rfl (congrArg bo (decide_eq_false (fun hh => ?_)).symm)
          exact h4 hh.2.2.2.1
      · rw [decide_eq_false h3] at w3
        refine acalls_of_awp hT mixed Tryd.func61 rfl (by kernel_rfl) (by kernel_rfl) (Nat.le_of_ble_eq_true rfl) ?_
        refine callP w1 rfl rfl ?_
        refine callP w2 rfl rfl ?_
        refine callP w3 rfl rfl ?_
        refine end0 rfl rfl rfl (congrArg bo (decide_eq_false (fun hh => ?_)).symm)
        exact h3 hh.2.2.1
    · rw [decide_eq_false h2] at w2
      refine acalls_of_awp hT mixed Tryd.func61 rfl (by kernel_rfl) (by kernel_rfl) (Nat.le_of_ble_eq_true rfl) ?_
      refine callP w1 rfl rfl ?_
      refine callP w2 rfl rfl ?_
      refine end0 rfl rfl rfl (congrArg bo (decide_eq_false (fun hh => ?_)).symm)
      exact h2 hh.2.1
  · rw [decide_eq_false h1] at w1
    refine acalls_of_awp hT mixed Tryd.func61 rfl (by kernel_rfl) (by kernel_rfl) (Nat.le_of_ble_eq_true rfl) ?_
    refine callP w1 rfl rfl ?_
    refine end0 rfl rfl rfl (congrArg bo (decide_eq_false (fun hh => ?_)).symm)
    exact h1 hh.1
end Go.Proofs.YthbncljlclcecaaDoor.A

namespace Go.Proofs.YthbncljlclcecaaDoor.A
open Go
set_option linter.unusedVariables false
set_option maxRecDepth 100000
set_option pp.maxSteps 1500

def stpZ : Stp := ⟨0, 0, 0, 0, 0⟩
theorem unpack_len (s : ByteArray) (h : s.size ≠ 64) : ACalls Tryd.prog 50 [str s] [] (Ret (.tup [stA stpZ, str emp, i64 4])) := by
  refine acalls_of_awp hT mixed Tryd.func50 rfl (by kernel_rfl) (by kernel_rfl) (Nat.le_of_ble_eq_true rfl) ?_
  refine fork (fun q => ?_) (fun q => ?_)
  · refine endG rfl rfl rfl (G := []) True.intro (Nat.zero_le _) rfl ⟨rfl, rfl⟩
  · exfalso
    have := bne_eq_false_iff_eq.1 q
    omega
theorem unpack_mark (s : ByteArray) (h64 : s.size = 64) (h0 : atL s 0 ≠ 193) : ACalls Tryd.prog 50 [str s] [] (Ret (.tup [stA stpZ, str emp, i64 4])) := by
  refine acalls_of_awp hT mixed Tryd.func50 rfl (by kernel_rfl) (by kernel_rfl) (Nat.le_of_ble_eq_true rfl) ?_
  refine fork (fun q => ?_) (fun q => ?_)
  · exfalso
    have := bne_iff_ne.1 q
    omega
  refine Ob.intro (show (0 : Int) ≤ 0 ∧ 0 < (s.size : Int) by omega) ?_
  refine fork (fun q2 => ?_) (fun q2 => ?_)
  · refine endG rfl rfl rfl (G := []) True.intro (Nat.zero_le _) rfl ⟨rfl, rfl⟩
  · exfalso
    have : ((atL s 0 : Nat) : Int) = 193 := bne_eq_false_iff_eq.1 q2
    omega
theorem unpack_bad (s : ByteArray) (h64 : s.size = 64) (h0 : atL s 0 = 193) (g1 g2 g3 g4 g5 n : Nat) (c1 : ACalls Tryd.prog 60 [str (s.extract 1 5)] [] (Ret (i64 (g1 : Nat)))) (c2 : ACalls Tryd.prog 60 [str (s.extract 5 7)] [] (Ret (i64 (g2 : Nat)))) (c3 : ACalls Tryd.prog 60 [str (s.extract 7 11)] [] (Ret (i64 (g3 : Nat)))) (c4 : ACalls Tryd.prog 60 [str (s.extract 11 12)] [] (Ret (i64 (g4 : Nat)))) (c5 : ACalls Tryd.prog 60 [str (s.extract 12 13)] [] (Ret (i64 (g5 : Nat)))) (c6 : ACalls Tryd.prog 60 [str (s.extract 13 14)] [] (Ret (i64 (n : Nat)))) (hR : ACalls Tryd.prog 61 [stA ⟨g1, g2, g3, g4, g5⟩] [] (Ret (bo false))) : ACalls Tryd.prog 50 [str s] [] (Ret (.tup [stA stpZ, str emp, i64 4])) := by
  refine acalls_of_awp hT mixed Tryd.func50 rfl (by kernel_rfl) (by kernel_rfl) (Nat.le_of_ble_eq_true rfl) ?_
  refine fork (fun q => ?_) (fun q => ?_)
  · exfalso
    have := bne_iff_ne.1 q
    omega
  refine Ob.intro (show (0 : Int) ≤ 0 ∧ 0 < (s.size : Int) by omega) ?_
  refine fork (fun q2 => ?_) (fun q2 => ?_)
  · exfalso
    have : ((atL s 0 : Nat) : Int) ≠ 193 := bne_iff_ne.1 q2
    omega
  have s1 : (0 : Int) ≤ 1 ∧ (1 : Int) ≤ 5 ∧ 5 ≤ (s.size : Int) := by omega
  have s2 : (0 : Int) ≤ 5 ∧ (5 : Int) ≤ 7 ∧ 7 ≤ (s.size : Int) := by omega
  have s3 : (0 : Int) ≤ 7 ∧ (7 : Int) ≤ 11 ∧ 11 ≤ (s.size : Int) := by omega
  have s4 : (0 : Int) ≤ 11 ∧ (11 : Int) ≤ 12 ∧ 12 ≤ (s.size : Int) := by omega
  have s5 : (0 : Int) ≤ 12 ∧ (12 : Int) ≤ 13 ∧ 13 ≤ (s.size : Int) := by omega
  refine ⟨dlYd1a, dlYd1b, dlYd1c, dlYd1d, dlYd1e, Ob.intro (by kernel_rfl) ?_⟩
  repeat first | refine same ?_ | refine Ob.intro s1 ?_ | refine Ob.intro s2 ?_ | refine Ob.intro s3 ?_ | refine Ob.intro s4 ?_ | refine Ob.intro s5 ?_
  refine callP c1 rfl rfl ?_
  repeat first | refine same ?_ | refine Ob.intro s1 ?_ | refine Ob.intro s2 ?_ | refine Ob.intro s3 ?_ | refine Ob.intro s4 ?_ | refine Ob.intro s5 ?_
  refine callP c2 rfl rfl ?_
  repeat first | refine same ?_ | refine Ob.intro s1 ?_ | refine Ob.intro s2 ?_ | refine Ob.intro s3 ?_ | refine Ob.intro s4 ?_ | refine Ob.intro s5 ?_
  refine callP c3 rfl rfl ?_
  repeat first | refine same ?_ | refine Ob.intro s1 ?_ | refine Ob.intro s2 ?_ | refine Ob.intro s3 ?_ | refine Ob.intro s4 ?_ | refine Ob.intro s5 ?_
  refine callP c4 rfl rfl ?_
  repeat first | refine same ?_ | refine Ob.intro s1 ?_ | refine Ob.intro s2 ?_ | refine Ob.intro s3 ?_ | refine Ob.intro s4 ?_ | refine Ob.intro s5 ?_
  refine callP c5 rfl rfl ?_
  repeat first | refine same ?_ | refine Ob.intro s1 ?_ | refine Ob.intro s2 ?_ | refine Ob.intro s3 ?_ | refine Ob.intro s4 ?_ | refine Ob.intro s5 ?_
  refine Ob.intro (show (0 : Int) ≤ 13 ∧ (13 : Int) ≤ 14 ∧ 14 ≤ (s.size : Int) by omega) ?_
  refine callP c6 rfl rfl ?_
  refine callP hR rfl rfl ?_
  refine endG rfl rfl rfl (G := []) True.intro (Nat.zero_le _) rfl ⟨rfl, rfl⟩
theorem unpack_long (s : ByteArray) (h64 : s.size = 64) (h0 : atL s 0 = 193) (g1 g2 g3 g4 g5 n : Nat) (c1 : ACalls Tryd.prog 60 [str (s.extract 1 5)] [] (Ret (i64 (g1 : Nat)))) (c2 : ACalls Tryd.prog 60 [str (s.extract 5 7)] [] (Ret (i64 (g2 : Nat)))) (c3 : ACalls Tryd.prog 60 [str (s.extract 7 11)] [] (Ret (i64 (g3 : Nat)))) (c4 : ACalls Tryd.prog 60 [str (s.extract 11 12)] [] (Ret (i64 (g4 : Nat)))) (c5 : ACalls Tryd.prog 60 [str (s.extract 12 13)] [] (Ret (i64 (g5 : Nat)))) (c6 : ACalls Tryd.prog 60 [str (s.extract 13 14)] [] (Ret (i64 (n : Nat)))) (hR : ACalls Tryd.prog 61 [stA ⟨g1, g2, g3, g4, g5⟩] [] (Ret (bo true))) (hn : 50 < n) : ACalls Tryd.prog 50 [str s] [] (Ret (.tup [stA stpZ, str emp, i64 4])) := by
  refine acalls_of_awp hT mixed Tryd.func50 rfl (by kernel_rfl) (by kernel_rfl) (Nat.le_of_ble_eq_true rfl) ?_
  refine fork (fun q => ?_) (fun q => ?_)
  · exfalso
    have := bne_iff_ne.1 q
    omega
  refine Ob.intro (show (0 : Int) ≤ 0 ∧ 0 < (s.size : Int) by omega) ?_
  refine fork (fun q2 => ?_) (fun q2 => ?_)
  · exfalso
    have : ((atL s 0 : Nat) : Int) ≠ 193 := bne_iff_ne.1 q2
    omega
  have s1 : (0 : Int) ≤ 1 ∧ (1 : Int) ≤ 5 ∧ 5 ≤ (s.size : Int) := by omega
  have s2 : (0 : Int) ≤ 5 ∧ (5 : Int) ≤ 7 ∧ 7 ≤ (s.size : Int) := by omega
  have s3 : (0 : Int) ≤ 7 ∧ (7 : Int) ≤ 11 ∧ 11 ≤ (s.size : Int) := by omega
  have s4 : (0 : Int) ≤ 11 ∧ (11 : Int) ≤ 12 ∧ 12 ≤ (s.size : Int) := by omega
  have s5 : (0 : Int) ≤ 12 ∧ (12 : Int) ≤ 13 ∧ 13 ≤ (s.size : Int) := by omega
  refine ⟨dlYd1a, dlYd1b, dlYd1c, dlYd1d, dlYd1e, Ob.intro (by kernel_rfl) ?_⟩
  repeat first | refine same ?_ | refine Ob.intro s1 ?_ | refine Ob.intro s2 ?_ | refine Ob.intro s3 ?_ | refine Ob.intro s4 ?_ | refine Ob.intro s5 ?_
  refine callP c1 rfl rfl ?_
  repeat first | refine same ?_ | refine Ob.intro s1 ?_ | refine Ob.intro s2 ?_ | refine Ob.intro s3 ?_ | refine Ob.intro s4 ?_ | refine Ob.intro s5 ?_
  refine callP c2 rfl rfl ?_
  repeat first | refine same ?_ | refine Ob.intro s1 ?_ | refine Ob.intro s2 ?_ | refine Ob.intro s3 ?_ | refine Ob.intro s4 ?_ | refine Ob.intro s5 ?_
  refine callP c3 rfl rfl ?_
  repeat first | refine same ?_ | refine Ob.intro s1 ?_ | refine Ob.intro s2 ?_ | refine Ob.intro s3 ?_ | refine Ob.intro s4 ?_ | refine Ob.intro s5 ?_
  refine callP c4 rfl rfl ?_
  repeat first | refine same ?_ | refine Ob.intro s1 ?_ | refine Ob.intro s2 ?_ | refine Ob.intro s3 ?_ | refine Ob.intro s4 ?_ | refine Ob.intro s5 ?_
  refine callP c5 rfl rfl ?_
  repeat first | refine same ?_ | refine Ob.intro s1 ?_ | refine Ob.intro s2 ?_ | refine Ob.intro s3 ?_ | refine Ob.intro s4 ?_ | refine Ob.intro s5 ?_
  refine Ob.intro (show (0 : Int) ≤ 13 ∧ (13 : Int) ≤ 14 ∧ 14 ≤ (s.size : Int) by omega) ?_
  refine callP c6 rfl rfl ?_
  refine callP hR rfl rfl ?_
  refine forkD (fun g => ?_) (fun g => absurd (show (50 : Int) < (n : Int) by omega) g)
  refine endG rfl rfl rfl (G := []) True.intro (Nat.zero_le _) rfl ⟨rfl, rfl⟩
theorem unpack_rest (s : ByteArray) (h64 : s.size = 64) (h0 : atL s 0 = 193) (g1 g2 g3 g4 g5 n : Nat) (c1 : ACalls Tryd.prog 60 [str (s.extract 1 5)] [] (Ret (i64 (g1 : Nat)))) (c2 : ACalls Tryd.prog 60 [str (s.extract 5 7)] [] (Ret (i64 (g2 : Nat)))) (c3 : ACalls Tryd.prog 60 [str (s.extract 7 11)] [] (Ret (i64 (g3 : Nat)))) (c4 : ACalls Tryd.prog 60 [str (s.extract 11 12)] [] (Ret (i64 (g4 : Nat)))) (c5 : ACalls Tryd.prog 60 [str (s.extract 12 13)] [] (Ret (i64 (g5 : Nat)))) (c6 : ACalls Tryd.prog 60 [str (s.extract 13 14)] [] (Ret (i64 (n : Nat)))) (hR : ACalls Tryd.prog 61 [stA ⟨g1, g2, g3, g4, g5⟩] [] (Ret (bo true))) (hn : n ≤ 50) (hz : ¬ ∀ i, i < (s.extract (14 + n) 64).size → atL (s.extract (14 + n) 64) i = 0) : ACalls Tryd.prog 50 [str s] [] (Ret (.tup [stA stpZ, str emp, i64 4])) := by
  refine acalls_of_awp hT mixed Tryd.func50 rfl (by kernel_rfl) (by kernel_rfl) (Nat.le_of_ble_eq_true rfl) ?_
  refine fork (fun q => ?_) (fun q => ?_)
  · exfalso
    have := bne_iff_ne.1 q
    omega
  refine Ob.intro (show (0 : Int) ≤ 0 ∧ 0 < (s.size : Int) by omega) ?_
  refine fork (fun q2 => ?_) (fun q2 => ?_)
  · exfalso
    have : ((atL s 0 : Nat) : Int) ≠ 193 := bne_iff_ne.1 q2
    omega
  have s1 : (0 : Int) ≤ 1 ∧ (1 : Int) ≤ 5 ∧ 5 ≤ (s.size : Int) := by omega
  have s2 : (0 : Int) ≤ 5 ∧ (5 : Int) ≤ 7 ∧ 7 ≤ (s.size : Int) := by omega
  have s3 : (0 : Int) ≤ 7 ∧ (7 : Int) ≤ 11 ∧ 11 ≤ (s.size : Int) := by omega
  have s4 : (0 : Int) ≤ 11 ∧ (11 : Int) ≤ 12 ∧ 12 ≤ (s.size : Int) := by omega
  have s5 : (0 : Int) ≤ 12 ∧ (12 : Int) ≤ 13 ∧ 13 ≤ (s.size : Int) := by omega
  refine ⟨dlYd1a, dlYd1b, dlYd1c, dlYd1d, dlYd1e, Ob.intro (by kernel_rfl) ?_⟩
  repeat first | refine same ?_ | refine Ob.intro s1 ?_ | refine Ob.intro s2 ?_ | refine Ob.intro s3 ?_ | refine Ob.intro s4 ?_ | refine Ob.intro s5 ?_
  refine callP c1 rfl rfl ?_
  repeat first | refine same ?_ | refine Ob.intro s1 ?_ | refine Ob.intro s2 ?_ | refine Ob.intro s3 ?_ | refine Ob.intro s4 ?_ | refine Ob.intro s5 ?_
  refine callP c2 rfl rfl ?_
  repeat first | refine same ?_ | refine Ob.intro s1 ?_ | refine Ob.intro s2 ?_ | refine Ob.intro s3 ?_ | refine Ob.intro s4 ?_ | refine Ob.intro s5 ?_
  refine callP c3 rfl rfl ?_
  repeat first | refine same ?_ | refine Ob.intro s1 ?_ | refine Ob.intro s2 ?_ | refine Ob.intro s3 ?_ | refine Ob.intro s4 ?_ | refine Ob.intro s5 ?_
  refine callP c4 rfl rfl ?_
  repeat first | refine same ?_ | refine Ob.intro s1 ?_ | refine Ob.intro s2 ?_ | refine Ob.intro s3 ?_ | refine Ob.intro s4 ?_ | refine Ob.intro s5 ?_
  refine callP c5 rfl rfl ?_
  repeat first | refine same ?_ | refine Ob.intro s1 ?_ | refine Ob.intro s2 ?_ | refine Ob.intro s3 ?_ | refine Ob.intro s4 ?_ | refine Ob.intro s5 ?_
  refine Ob.intro (show (0 : Int) ≤ 13 ∧ (13 : Int) ≤ 14 ∧ 14 ≤ (s.size : Int) by omega) ?_
  refine callP c6 rfl rfl ?_
  refine callP hR rfl rfl ?_
  refine forkD (fun g => absurd (show (50 : Int) < (n : Int) from g) (by omega)) (fun g => ?_)
  have hw : wrp .i64 (14 + (n : Int)) = ((14 + n : Nat) : Int) := by rw [wrpE, wi64]; omega
  refine Ob.intro (show (0 : Int) ≤ wrp .i64 (14 + (n : Int)) ∧ wrp .i64 (14 + (n : Int)) ≤ (s.size : Int) ∧ (s.size : Int) ≤ (s.size : Int) by rw [hw]; omega) ?_
  have hx : s.extract (wrp .i64 (14 + (n : Int))).toNat (s.size : Int).toNat = s.extract (14 + n) 64 := by rw [hw, h64]; rfl
  have tt := trim_ok (s.extract (wrp .i64 (14 + (n : Int))).toNat (s.size : Int).toNat) (by rw [hx, ByteArray.size_extract]; omega)
  refine callE tt rfl (fun v hv => by obtain ⟨r, rfl, _⟩ := hv; rfl) ?_
  rintro v ⟨r, rfl, hr⟩
  rw [hx] at hr
  refine fork (fun q => ?_) (fun q => ?_)
  · refine endG rfl rfl rfl (G := []) True.intro (Nat.zero_le _) rfl ⟨rfl, rfl⟩
  · exfalso
    have : (!(strEq r ⟨#[]⟩)) = false := q
    rw [strEq_nilB] at this
    have : decide (r.size = 0) = true := by cases hd : decide (r.size = 0) <;> first | rfl | (rw [hd] at this; cases this)
    exact hz (hr.1 (of_decide_eq_true this))
theorem unpack_yes (s : ByteArray) (h64 : s.size = 64) (h0 : atL s 0 = 193) (g1 g2 g3 g4 g5 n : Nat) (c1 : ACalls Tryd.prog 60 [str (s.extract 1 5)] [] (Ret (i64 (g1 : Nat)))) (c2 : ACalls Tryd.prog 60 [str (s.extract 5 7)] [] (Ret (i64 (g2 : Nat)))) (c3 : ACalls Tryd.prog 60 [str (s.extract 7 11)] [] (Ret (i64 (g3 : Nat)))) (c4 : ACalls Tryd.prog 60 [str (s.extract 11 12)] [] (Ret (i64 (g4 : Nat)))) (c5 : ACalls Tryd.prog 60 [str (s.extract 12 13)] [] (Ret (i64 (g5 : Nat)))) (c6 : ACalls Tryd.prog 60 [str (s.extract 13 14)] [] (Ret (i64 (n : Nat)))) (hR : ACalls Tryd.prog 61 [stA ⟨g1, g2, g3, g4, g5⟩] [] (Ret (bo true))) (hn : n ≤ 50) (hz : ∀ i, i < (s.extract (14 + n) 64).size → atL (s.extract (14 + n) 64) i = 0) :
    ACalls Tryd.prog 50 [str s] [] (Ret (.tup [stA ⟨g1, g2, g3, g4, g5⟩, str (s.extract 14 (14 + n)), i64 0])) := by
  refine acalls_of_awp hT mixed Tryd.func50 rfl (by kernel_rfl) (by kernel_rfl) (Nat.le_of_ble_eq_true rfl) ?_
  refine fork (fun q => ?_) (fun q => ?_)
  · exfalso
    have := bne_iff_ne.1 q
    omega
  refine Ob.intro (show (0 : Int) ≤ 0 ∧ 0 < (s.size : Int) by omega) ?_
  refine fork (fun q2 => ?_) (fun q2 => ?_)
  · exfalso
    have : ((atL s 0 : Nat) : Int) ≠ 193 := bne_iff_ne.1 q2
    omega
  have s1 : (0 : Int) ≤ 1 ∧ (1 : Int) ≤ 5 ∧ 5 ≤ (s.size : Int) := by omega
  have s2 : (0 : Int) ≤ 5 ∧ (5 : Int) ≤ 7 ∧ 7 ≤ (s.size : Int) := by omega
  have s3 : (0 : Int) ≤ 7 ∧ (7 : Int) ≤ 11 ∧ 11 ≤ (s.size : Int) := by omega
  have s4 : (0 : Int) ≤ 11 ∧ (11 : Int) ≤ 12 ∧ 12 ≤ (s.size : Int) := by omega
  have s5 : (0 : Int) ≤ 12 ∧ (12 : Int) ≤ 13 ∧ 13 ≤ (s.size : Int) := by omega
  refine ⟨dlYd1a, dlYd1b, dlYd1c, dlYd1d, dlYd1e, Ob.intro (by kernel_rfl) ?_⟩
  repeat first | refine same ?_ | refine Ob.intro s1 ?_ | refine Ob.intro s2 ?_ | refine Ob.intro s3 ?_ | refine Ob.intro s4 ?_ | refine Ob.intro s5 ?_
  refine callP c1 rfl rfl ?_
  repeat first | refine same ?_ | refine Ob.intro s1 ?_ | refine Ob.intro s2 ?_ | refine Ob.intro s3 ?_ | refine Ob.intro s4 ?_ | refine Ob.intro s5 ?_
  refine callP c2 rfl rfl ?_
  repeat first | refine same ?_ | refine Ob.intro s1 ?_ | refine Ob.intro s2 ?_ | refine Ob.intro s3 ?_ | refine Ob.intro s4 ?_ | refine Ob.intro s5 ?_
  refine callP c3 rfl rfl ?_
  repeat first | refine same ?_ | refine Ob.intro s1 ?_ | refine Ob.intro s2 ?_ | refine Ob.intro s3 ?_ | refine Ob.intro s4 ?_ | refine Ob.intro s5 ?_
  refine callP c4 rfl rfl ?_
  repeat first | refine same ?_ | refine Ob.intro s1 ?_ | refine Ob.intro s2 ?_ | refine Ob.intro s3 ?_ | refine Ob.intro s4 ?_ | refine Ob.intro s5 ?_
  refine callP c5 rfl rfl ?_
  repeat first | refine same ?_ | refine Ob.intro s1 ?_ | refine Ob.intro s2 ?_ | refine Ob.intro s3 ?_ | refine Ob.intro s4 ?_ | refine Ob.intro s5 ?_
  refine Ob.intro (show (0 : Int) ≤ 13 ∧ (13 : Int) ≤ 14 ∧ 14 ≤ (s.size : Int) by omega) ?_
  refine callP c6 rfl rfl ?_
  refine callP hR rfl rfl ?_
  refine forkD (fun g => absurd (show (50 : Int) < (n : Int) from g) (by omega)) (fun g => ?_)
  have hw : wrp .i64 (14 + (n : Int)) = ((14 + n : Nat) : Int) := by rw [wrpE, wi64]; omega
  refine Ob.intro (show (0 : Int) ≤ wrp .i64 (14 + (n : Int)) ∧ wrp .i64 (14 + (n : Int)) ≤ (s.size : Int) ∧ (s.size : Int) ≤ (s.size : Int) by rw [hw]; omega) ?_
  have hx : s.extract (wrp .i64 (14 + (n : Int))).toNat (s.size : Int).toNat = s.extract (14 + n) 64 := by rw [hw, h64]; rfl
  have tt := trim_ok (s.extract (wrp .i64 (14 + (n : Int))).toNat (s.size : Int).toNat) (by rw [hx, ByteArray.size_extract]; omega)
  refine callE tt rfl (fun v hv => by obtain ⟨r, rfl, _⟩ := hv; rfl) ?_
  rintro v ⟨r, rfl, hr⟩
  rw [hx] at hr
  refine fork (fun q => ?_) (fun q => ?_)
  · exfalso
    have : (!(strEq r ⟨#[]⟩)) = true := q
    rw [strEq_nilB, decide_eq_true (hr.2 hz)] at this
    cases this
  · refine ⟨[0, 0, 0, 0, 0, 1, 1, 1], [[], [], [], [2], [1, 2, 3], [0], [0, 1, 2, 3, 4, 5], [0, 1, 2, 3, 4, 5, 6]], [0, 0, 0, 0, 0, 0, 0, 0], [5], [[5], [0], [6], [53], [52, 54], [2, 51], [55], []], Ob.intro (by kernel_rfl) ?_⟩
    have s6 : (0 : Int) ≤ 14 ∧ 14 ≤ wrp .i64 (14 + (n : Int)) ∧ wrp .i64 (14 + (n : Int)) ≤ (s.size : Int) := by rw [hw]; omega
    repeat first | refine same ?_ | refine Ob.intro s6 ?_
    refine endG rfl rfl rfl (G := []) True.intro (Nat.zero_le _) rfl ⟨?_, rfl⟩
    show AEnd.ret (.tup [stA ⟨g1, g2, g3, g4, g5⟩, str (s.extract (14 : Int).toNat (wrp .i64 (14 + (n : Int))).toNat), i64 0]) = _
    rw [hw]
    rfl
end Go.Proofs.YthbncljlclcecaaDoor.A
