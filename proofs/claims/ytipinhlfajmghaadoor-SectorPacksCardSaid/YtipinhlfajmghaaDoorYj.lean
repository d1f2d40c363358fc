/- sector: what is packed is read. No condition. -/
import Derived.Test.YtipinhlfajmghaaDoorYi
namespace Go.Proofs.YtipinhlfajmghaaDoor.A
open Go
set_option linter.unusedVariables false
set_option maxRecDepth 100000
set_option pp.maxSteps 1500

def tailL (d : ByteArray) : List Nat := byL d ++ List.replicate (50 - d.size) 0
theorem packL_eq (g ix l p n : Nat) (d : ByteArray) : packL g ix l p n d =
    193 :: g / 16777216 % 256 :: g / 65536 % 256 :: g / 256 % 256 :: g / 1 % 256 :: ix / 256 % 256 :: ix / 1 % 256 :: l / 16777216 % 256 :: l / 65536 % 256 :: l / 256 % 256 :: l / 1 % 256 :: p :: n :: d.size :: tailL d := by
  unfold packL
  rw [List.append_assoc]
  rfl
theorem packS_list (g ix l p n : Nat) (d : ByteArray) : (packS g ix l p n d).data.toList = (packL g ix l p n d).map UInt8.ofNat := by
  show ((packL g ix l p n d).map UInt8.ofNat).toArray.toList = _
  rfl
theorem ofNat_toNat8 (x : Nat) : (UInt8.ofNat x).toNat = x % 256 := rfl
theorem val1 (a : Nat) (h : a < 256) : valL [UInt8.ofNat a] = a := by
  show 0 * 256 + (UInt8.ofNat a).toNat = a
  rw [ofNat_toNat8]
  omega
theorem val2 (n : Nat) (h : n < 65536) : valL [UInt8.ofNat (n / 256 % 256), UInt8.ofNat (n / 1 % 256)] = n := by
  show (0 * 256 + (UInt8.ofNat (n / 256 % 256)).toNat) * 256 + (UInt8.ofNat (n / 1 % 256)).toNat = n
  rw [ofNat_toNat8, ofNat_toNat8]
  omega
theorem val4 (n : Nat) (h : n < 4294967296) : valL [UInt8.ofNat (n / 16777216 % 256), UInt8.ofNat (n / 65536 % 256), UInt8.ofNat (n / 256 % 256), UInt8.ofNat (n / 1 % 256)] = n := by
  show (((0 * 256 + (UInt8.ofNat (n / 16777216 % 256)).toNat) * 256 + (UInt8.ofNat (n / 65536 % 256)).toNat) * 256 + (UInt8.ofNat (n / 256 % 256)).toNat) * 256 + (UInt8.ofNat (n / 1 % 256)).toNat = n
  rw [ofNat_toNat8, ofNat_toNat8, ofNat_toNat8, ofNat_toNat8]
  omega
theorem byL_back (d : ByteArray) : (byL d).map UInt8.ofNat = d.data.toList := by
  unfold byL
  rw [List.map_map]
  conv => rhs; rw [← List.map_id d.data.toList]
  refine List.map_congr_left fun x _ => ?_
  exact UInt8.toNat_inj.1 (by show (UInt8.ofNat x.toNat).toNat = x.toNat; rw [ofNat_toNat8]; have := x.toNat_lt; omega)
theorem pack_fields (g ix l p n : Nat) (d : ByteArray) (h : okS ⟨g, ix, l, p, n⟩) (hd : d.size ≤ 50) :
    OkU (packS g ix l p n d) d.size ∧ gU (packS g ix l p n d) 1 5 = g ∧ gU (packS g ix l p n d) 5 7 = ix ∧ gU (packS g ix l p n d) 7 11 = l ∧ gU (packS g ix l p n d) 11 12 = p ∧ gU (packS g ix l p n d) 12 13 = n ∧ (packS g ix l p n d).extract 14 (14 + d.size) = d := by
  have h' := h
  obtain ⟨⟨_, hg⟩, ⟨_, hll⟩, ⟨_, hix⟩, ⟨_, hn⟩, _, hp⟩ := h'
  dsimp only at hg hll hix hn hp
  have hl := packS_list g ix l p n d
  rw [packL_eq] at hl
  have f1 : gU (packS g ix l p n d) 1 5 = g := by unfold gU; rw [exlB, hl]; exact val4 g (by omega)
  have f2 : gU (packS g ix l p n d) 5 7 = ix := by unfold gU; rw [exlB, hl]; exact val2 ix (by omega)
  have f3 : gU (packS g ix l p n d) 7 11 = l := by unfold gU; rw [exlB, hl]; exact val4 l (by omega)
  have f4 : gU (packS g ix l p n d) 11 12 = p := by unfold gU; rw [exlB, hl]; exact val1 p (by omega)
  have f5 : gU (packS g ix l p n d) 12 13 = n := by unfold gU; rw [exlB, hl]; exact val1 n (by omega)
  have f6 : gU (packS g ix l p n d) 13 14 = d.size := by unfold gU; rw [exlB, hl]; exact val1 d.size (by omega)
  have hb := byL_back d
  have hbl := byL_len d
  have ht : (packS g ix l p n d).data.toList.drop 14 = d.data.toList ++ List.replicate (50 - d.size) 0 := by
    rw [hl]
    show (tailL d).map UInt8.ofNat = _
    unfold tailL
    rw [List.map_append, hb, List.map_replicate]
    rfl
  have hsz := packS_size g ix l p n d hd
  refine ⟨⟨hsz, ?_, ?_, f6.symm, hd, ?_⟩, f1, f2, f3, f4, f5, ?_⟩
  · unfold atL
    rw [hl]
    rfl
  · rw [f1, f2, f3, f4, f5]
    exact h
  · intro i hi
    rw [ByteArray.size_extract, hsz] at hi
    unfold atL
    rw [exlB, List.getD_eq_getElem?_getD, List.getElem?_take_of_lt (by omega), List.getElem?_drop, show 14 + d.size + i = 14 + (d.size + i) by omega, ← List.getElem?_drop, ht, List.getElem?_append_right (by rw [lenB]; omega), lenB, List.getElem?_replicate, if_pos (by omega)]
    rfl
  · have : ((packS g ix l p n d).extract 14 (14 + d.size)).data.toList = d.data.toList := by
      rw [exlB, ht, Nat.add_sub_cancel_left, List.take_append_of_le_length (by rw [lenB]; omega), List.take_of_length_le (by rw [lenB]; omega)]
    generalize (packS g ix l p n d).extract 14 (14 + d.size) = q at *
    cases q
    cases d
    simp only [ByteArray.mk.injEq]
    exact Array.toList_inj.1 this
theorem pack_back {s : ByteArray} {m : Nat} (o : OkU s m) : packS (gU s 1 5) (gU s 5 7) (gU s 7 11) (gU s 11 12) (gU s 12 13) (s.extract 14 (14 + m)) = s := by
  have hsz : (s.extract 14 (14 + m)).size = m := by
    have := o.hn
    rw [ByteArray.size_extract, o.h64]
    omega
  obtain ⟨o2, f1, f2, f3, f4, f5, f6⟩ := pack_fields _ _ _ _ _ (s.extract 14 (14 + m)) o.hR (by rw [hsz]; exact o.hn)
  exact one_sector o2 o f1 f2 f3 f4 f5 f6
end Go.Proofs.YtipinhlfajmghaaDoor.A
