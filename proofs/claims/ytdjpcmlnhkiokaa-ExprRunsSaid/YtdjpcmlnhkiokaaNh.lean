/- Keys by the document, and the law NumKeys, by the functions that it calls. No condition. -/
import Derived.Test.YtdjpcmlnhkiokaaNg
namespace Go.Proofs.Ytdjpcmlnhkiokaa.A
open Go
set_option linter.unusedVariables false
set_option maxRecDepth 100000
set_option pp.maxSteps 1500

def rukO (s : ByteArray) : Bool := decide (s.size = 8 ∧ valL s.data.toList ≤ 18437736874454810626)
def rk (p k : Nat) : List AV := [u8 (if 7 < k then p / 72057594037927936 % 256 else 0), u8 (if 6 < k then p / 281474976710656 % 256 else 0), u8 (if 5 < k then p / 1099511627776 % 256 else 0), u8 (if 4 < k then p / 4294967296 % 256 else 0),
  u8 (if 3 < k then p / 16777216 % 256 else 0), u8 (if 2 < k then p / 65536 % 256 else 0), u8 (if 1 < k then p / 256 % 256 else 0), u8 (if 0 < k then p % 256 else 0)]
theorem rk_set (p k : Nat) (hk : k < 8) : setAll (rk p k) (0 + ((7 - (k : Int)).toNat * 1)) [u8 (wrp .u8 (hd (((p / 256 ^ k : Nat) : Int).tmod 256)))] = rk p (k + 1) := by
  have e : ∀ q : Nat, wrp .u8 (hd ((q : Int).tmod 256)) = ((q % 256 : Nat) : Int) := fun q => by
    rw [wrpE, wu8, hd_eq]
    have : ((q : Int).tmod 256) = ((q % 256 : Nat) : Int) := rfl
    rw [this]
    omega
  rw [e]
  match k, hk with
  | 0, _ => simp [rk, setAll]
  | 1, _ => simp [rk, setAll]
  | 2, _ => simp [rk, setAll]
  | 3, _ => simp [rk, setAll]
  | 4, _ => simp [rk, setAll]
  | 5, _ => simp [rk, setAll]
  | 6, _ => simp [rk, setAll]
  | 7, _ => simp [rk, setAll]
theorem list8 {l : List UInt8} (h : l.length = 8) : ∃ c0 c1 c2 c3 c4 c5 c6 c7, l = [c0, c1, c2, c3, c4, c5, c6, c7] := by
  match l, h with
  | [c0, c1, c2, c3, c4, c5, c6, c7], _ => exact ⟨c0, c1, c2, c3, c4, c5, c6, c7, rfl⟩
theorem keyL_valL {l : List UInt8} (h : l.length = 8) : keyL (valL l) = l := by
  obtain ⟨c0, c1, c2, c3, c4, c5, c6, c7, rfl⟩ := list8 h
  have h0 := c0.toNat_lt
  have h1 := c1.toNat_lt
  have h2 := c2.toNat_lt
  have h3 := c3.toNat_lt
  have h4 := c4.toNat_lt
  have h5 := c5.toNat_lt
  have h6 := c6.toNat_lt
  have h7 := c7.toNat_lt
  have key : ∀ (n : Nat) (c : UInt8), n = c.toNat → UInt8.ofNat n = c := fun n c h => by rw [h]; exact UInt8.ofNat_toNat
  simp only [keyL, valL, List.foldl, Nat.zero_mul, Nat.zero_add]
  rw [key _ c0 (by omega), key _ c1 (by omega), key _ c2 (by omega), key _ c3 (by omega), key _ c4 (by omega), key _ c5 (by omega), key _ c6 (by omega), key _ c7 (by omega)]
theorem valL_keyL {p : Nat} (h : p < 18446744073709551616) : valL (keyL p) = p := by
  have key : ∀ n : Nat, (UInt8.ofNat (n % 256)).toNat = n % 256 := fun n => by simp
  have k0 : (UInt8.ofNat (p % 256)).toNat = p % 256 := key p
  simp only [keyL, valL, List.foldl, key]
  omega
theorem placeB_atB {p : Nat} (h : p ≤ 18437736874454810626) : placeB (atB p) = p := by
  unfold atB
  rw [if_neg (by omega)]
  split
  · subst_vars
    rfl
  · split
    · unfold placeB
      have hn : nanB (p - 9218868437227405313) = false := by simp only [nanB, decide_eq_false_iff_not]; omega
      simp only [hn, Bool.false_eq_true, if_false]
      rw [if_neg (by omega)]
      omega
    · unfold placeB
      have hn : nanB (9223372036854775808 + (9218868437227405312 - p)) = false := by simp only [nanB, decide_eq_false_iff_not]; omega
      simp only [hn, Bool.false_eq_true, if_false]
      rw [if_pos (by omega)]
      omega
theorem atB_lt (p : Nat) (hp : p < 18446744073709551616) : atB p < 18446744073709551616 := by
  unfold atB
  split
  · omega
  · split
    · omega
    · split <;> omega
end Go.Proofs.Ytdjpcmlnhkiokaa.A
