/- sector: Pack by the document (under way: see NOTES). No condition. -/
import Derived.Test.YtipinhlfajmghaaDoorYl
namespace Go.Proofs.YtipinhlfajmghaaDoor.A
open Go
set_option linter.unusedVariables false
set_option maxRecDepth 100000
set_option pp.maxSteps 1500

/-- The row behind j rounds. -/
def rowJ (g l : Nat) : Nat → List Nat
  | 0 => (List.replicate 64 0).set 0 193
  | j + 1 => ((rowJ g l j).set (4 - j) (g / 256 ^ j % 256)).set (10 - j) (l / 256 ^ j % 256)
theorem rowJ_len (g l : Nat) : ∀ j, (rowJ g l j).length = 64
  | 0 => rfl
  | j + 1 => by unfold rowJ; rw [List.length_set, List.length_set, rowJ_len g l j]
/-- The row behind the head, and so many bytes of the text. -/
def rowK (g ix l p n k : Nat) (d : List Nat) (i : Nat) : List Nat :=
  193 :: g / 16777216 % 256 :: g / 65536 % 256 :: g / 256 % 256 :: g / 1 % 256 :: ix / 256 % 256 :: ix / 1 % 256 :: l / 16777216 % 256 :: l / 65536 % 256 :: l / 256 % 256 :: l / 1 % 256 :: p :: n :: k :: (d.take i ++ List.replicate (50 - i) 0)
theorem rowK_all (g ix l p n : Nat) (d : ByteArray) : rowK g ix l p n d.size (byL d) d.size = packL g ix l p n d := by
  rw [packL_eq]
  unfold rowK tailL
  rw [List.take_of_length_le (by rw [byL_len]; exact Nat.le_refl _)]
theorem head_eq (g ix l p n k : Nat) (d : List Nat) : ((((((rowJ g l 4).set 5 (ix / 256 % 256)).set 6 (ix / 1 % 256)).set 11 p).set 12 n).set 13 k) = rowK g ix l p n k d 0 := rfl
theorem rowK_len (g ix l p n k : Nat) (d : List Nat) (i : Nat) (hi : i ≤ d.length) (hd : d.length ≤ 50) : (rowK g ix l p n k d i).length = 64 := by
  unfold rowK
  simp only [List.length_cons, List.length_append, List.length_take, List.length_replicate]
  omega
theorem rowK_succ (g ix l p n k : Nat) (d : List Nat) (i x : Nat) (hx : d[i]? = some x) (hd : d.length ≤ 50) : (rowK g ix l p n k d i).set (14 + i) x = rowK g ix l p n k d (i + 1) := by
  have hi := (List.getElem?_eq_some_iff.1 hx).1
  unfold rowK
  rw [show 14 + i = i + 14 by omega]
  simp only [List.set_cons_succ]
  congr 14
  rw [List.set_append_right _ _ (by rw [List.length_take]; omega), List.length_take, Nat.min_eq_left (by omega), Nat.sub_self, take_snocA hx, show 50 - i = (50 - (i + 1)) + 1 by omega, List.replicate_succ, List.set_cons_zero, List.append_assoc]
  rfl
end Go.Proofs.YtipinhlfajmghaaDoor.A
