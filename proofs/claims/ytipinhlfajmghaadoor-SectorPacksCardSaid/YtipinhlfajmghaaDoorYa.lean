/- sector: bytes as numbers, trims. No condition. -/
import Derived.Test.YtipinhlfajmghaaDoorBa
namespace Go.Proofs.YtipinhlfajmghaaDoor.A
open Go
set_option linter.unusedVariables false
set_option maxRecDepth 100000
set_option pp.maxSteps 1500

/-- The number that bytes tell, the highest first. -/
def valL (l : List UInt8) : Nat := l.foldl (fun p c => p * 256 + c.toNat) 0
theorem valL_snoc (l : List UInt8) (c : UInt8) : valL (l ++ [c]) = valL l * 256 + c.toNat := by simp [valL]
theorem valL_lt : ∀ (l : List UInt8), valL l < 256 ^ l.length := by
  intro l
  generalize hk : l.length = k
  induction k generalizing l with
  | zero => rw [List.eq_nil_of_length_eq_zero hk]; decide
  | succ k ih =>
    have hne : l ≠ [] := fun h => by rw [h] at hk; simp at hk
    rw [← List.dropLast_concat_getLast hne, valL_snoc]
    have h1 := ih l.dropLast (by simp [hk])
    have h2 := (l.getLast hne).toNat_lt
    rw [Nat.pow_succ]
    omega
theorem take_snoc8 {l : List UInt8} {i : Nat} (h : i < l.length) : valL (l.take (i + 1)) = valL (l.take i) * 256 + (l.getD i 0).toNat := by
  rw [List.take_succ_eq_append_getElem h, valL_snoc, List.getD_eq_getElem?_getD, List.getElem?_eq_getElem h, Option.getD_some]
theorem or_byteI (p : Nat) (c : UInt8) (h : p < 4294967296) : wrp .i64 ((BitVec.ofInt IntKind.i64.bits (wrp .i64 ((p : Int) * 2 ^ min (8 : Int).toNat IntKind.i64.bits)) ||| BitVec.ofInt IntKind.i64.bits (wrp .i64 (c.toNat : Int))).toNat : Int) = ((p * 256 + c.toNat : Nat) : Int) := by
  have hc := c.toNat_lt
  have e0 : wrp .i64 ((p : Int) * 2 ^ min (8 : Int).toNat IntKind.i64.bits) = ((2 ^ 8 * p : Nat) : Int) := by
    have : (2 : Int) ^ min (8 : Int).toNat IntKind.i64.bits = 256 := rfl
    rw [this, wrpE, wi64]
    omega
  have e1 : wrp .i64 (c.toNat : Int) = ((c.toNat : Nat) : Int) := by rw [wrpE, wi64]; omega
  have e2 : (BitVec.ofInt 64 ((2 ^ 8 * p : Nat) : Int)).toNat = 2 ^ 8 * p := by rw [BitVec.toNat_ofInt]; omega
  have e3 : (BitVec.ofInt 64 ((c.toNat : Nat) : Int)).toNat = c.toNat := by rw [BitVec.toNat_ofInt]; omega
  have e4 : (BitVec.ofInt IntKind.i64.bits ((2 ^ 8 * p : Nat) : Int) ||| BitVec.ofInt IntKind.i64.bits ((c.toNat : Nat) : Int)).toNat = 2 ^ 8 * p + c.toNat := by
    show (BitVec.ofInt 64 ((2 ^ 8 * p : Nat) : Int) ||| BitVec.ofInt 64 ((c.toNat : Nat) : Int)).toNat = _
    rw [BitVec.toNat_or, e2, e3, ← Nat.two_pow_add_eq_or_of_lt (by omega)]
  rw [e0, e1, e4, wrpE, wi64]
  omega
theorem get_ok (s : ByteArray) (hs : s.size ≤ 4) : ACalls Tryd.prog 16 [str s] [] (Ret (i64 (valL s.data.toList : Nat))) := by
  have hl : s.data.toList.length = s.size := by simp
  refine acalls_of_awp hT mixed Tryd.func16 rfl (by kernel_rfl) (by kernel_rfl) (Nat.le_of_ble_eq_true rfl) ?_
  refine loopI (α := { i : Nat // i ≤ s.size }) (fun i => [(0, str s), (3, i64 (valL (s.data.toList.take i.val) : Nat)), (6, i64 s.size), (7, i64 (i.val : Int))]) (fun i => []) (fun i => s.size - i.val) ⟨0, Nat.zero_le _⟩ [] ⟨⟨rfl, rfl, rfl, rfl, True.intro⟩, True.intro, rfl, rfl, rfl⟩ ?_
  rintro ⟨i, hi⟩ K hK
  have hinc : wrp .i64 ((i : Int) + 1) = ((i + 1 : Nat) : Int) := by rw [wrpE, wi64]; omega
  refine forkD (fun g => ?_) (fun g => ?_)
  · have g' : i < s.size := by have : (i : Int) < (s.size : Int) := g; omega
    refine Ob.intro (by decide) ?_
    refine Ob.intro (show (0 : Int) ≤ (i : Nat) ∧ ((i : Nat) : Int) < (s.size : Nat) by omega) ?_
    have hlt := valL_lt (s.data.toList.take i)
    have hm : 256 ^ (s.data.toList.take i).length ≤ 256 ^ 3 := Nat.pow_le_pow_right (by decide) (by rw [List.length_take]; omega)
    refine hK ⟨i + 1, g'⟩ [] _ (show s.size - i = s.size - (i + 1) + 1 by omega) ⟨⟨rfl, congrArg i64 ?_, rfl, congrArg i64 hinc, True.intro⟩, True.intro, rfl, rfl, rfl⟩
    show _ = ((valL (s.data.toList.take (i + 1)) : Nat) : Int)
    rw [take_snoc8 (by omega)]
    exact or_byteI (valL (s.data.toList.take i)) _ (by omega)
  · have g' : i = s.size := by have : ¬ (i : Int) < (s.size : Int) := g; omega
    refine end0 rfl rfl rfl ?_
    show i64 (valL (s.data.toList.take i) : Nat) = _
    rw [List.take_of_length_le (by omega)]
theorem within_ok (n a b : Int) : ACalls Tryd.prog 15 [i64 n, i64 a, i64 b] [] (Ret (bo (decide (a ≤ n ∧ n ≤ b)))) := by
  refine acalls_of_awp hT mixed Tryd.func15 rfl (by kernel_rfl) (by kernel_rfl) (Nat.le_of_ble_eq_true rfl) ?_
  refine forkD (fun h => ?_) (fun h => ?_)
  · have h' : a ≤ n := h
    refine forkD (fun g => ?_) (fun g => ?_)
    · have g' : n ≤ b := g
      refine end0 rfl rfl rfl (congrArg bo (decide_eq_true ⟨h', g'⟩).symm)
    · have g' : ¬ n ≤ b := g
      refine end0 rfl rfl rfl (congrArg bo (decide_eq_false (fun hh => g' hh.2)).symm)
  · have h' : ¬ a ≤ n := h
    refine end0 rfl rfl rfl (congrArg bo (decide_eq_false (fun hh => h' hh.1)).symm)
end Go.Proofs.YtipinhlfajmghaaDoor.A
