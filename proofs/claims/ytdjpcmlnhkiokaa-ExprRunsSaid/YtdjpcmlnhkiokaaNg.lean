/- Keys read back, and the law NumKeys, by the functions that it calls. No condition. -/
import Derived.Test.YtdjpcmlnhkiokaaNf
namespace Go.Proofs.Ytdjpcmlnhkiokaa.A
open Go
set_option linter.unusedVariables false
set_option maxRecDepth 100000
set_option pp.maxSteps 1500

/-- The number that bytes tell, the highest first. -/
def valL (l : List UInt8) : Nat := l.foldl (fun p c => p * 256 + c.toNat) 0
theorem valL_snoc (l : List UInt8) (c : UInt8) : valL (l ++ [c]) = valL l * 256 + c.toNat := by simp [valL]
theorem valL_lt : ∀ (l : List UInt8), valL l < 256 ^ l.length := by
  intro l
  generalize hk : l.length = k
  induction k generalizing l with
  | zero => rw [List.eq_nil_of_length_eq_zero hk]; decide
  | succ k ih =>
    have hne : l ≠ [] := fun h => by rw [h] at hk; simp at hk
    rw [← List.dropLast_concat_getLast hne, valL_snoc]
    have h1 := ih l.dropLast (by simp [hk])
    have h2 := (l.getLast hne).toNat_lt
    rw [Nat.pow_succ]
    omega
theorem take_snoc {l : List UInt8} {i : Nat} (h : i < l.length) : valL (l.take (i + 1)) = valL (l.take i) * 256 + (l.getD i 0).toNat := by
  rw [List.take_succ_eq_append_getElem h, valL_snoc, List.getD_eq_getElem?_getD, List.getElem?_eq_getElem h, Option.getD_some]
theorem or_byte (p : Nat) (c : UInt8) (h : p < 72057594037927936) : wrp .u64 ((BitVec.ofInt IntKind.u64.bits (wrp .u64 ((p : Int) * 2 ^ min (8 : Int).toNat IntKind.u64.bits)) ||| BitVec.ofInt IntKind.u64.bits (wrp .u64 (c.toNat : Int))).toNat : Int) = ((p * 256 + c.toNat : Nat) : Int) := by
  have hc := c.toNat_lt
  have e0 : wrp .u64 ((p : Int) * 2 ^ min (8 : Int).toNat IntKind.u64.bits) = ((2 ^ 8 * p : Nat) : Int) := by
    have : (2 : Int) ^ min (8 : Int).toNat IntKind.u64.bits = 256 := rfl
    rw [this, wrpE, wu64]
    omega
  have e1 : wrp .u64 (c.toNat : Int) = ((c.toNat : Nat) : Int) := by rw [wrpE, wu64]; omega
  have e2 : (BitVec.ofInt 64 ((2 ^ 8 * p : Nat) : Int)).toNat = 2 ^ 8 * p := by rw [BitVec.toNat_ofInt]; omega
  have e3 : (BitVec.ofInt 64 ((c.toNat : Nat) : Int)).toNat = c.toNat := by rw [BitVec.toNat_ofInt]; omega
  have e4 : (BitVec.ofInt IntKind.u64.bits ((2 ^ 8 * p : Nat) : Int) ||| BitVec.ofInt IntKind.u64.bits ((c.toNat : Nat) : Int)).toNat = 2 ^ 8 * p + c.toNat := by
    show (BitVec.ofInt 64 ((2 ^ 8 * p : Nat) : Int) ||| BitVec.ofInt 64 ((c.toNat : Nat) : Int)).toNat = _
    rw [BitVec.toNat_or, e2, e3, ← Nat.two_pow_add_eq_or_of_lt (by omega)]
  rw [e0, e1, e4, wrpE, wu64]
  omega
def ukE (s : ByteArray) : Int := if s.size ≠ 8 then 4 else if 18437736874454810626 < valL s.data.toList then 4 else 0
def ukB (s : ByteArray) : Nat := if ukE s = 0 then atB (valL s.data.toList) else 0
end Go.Proofs.Ytdjpcmlnhkiokaa.A
