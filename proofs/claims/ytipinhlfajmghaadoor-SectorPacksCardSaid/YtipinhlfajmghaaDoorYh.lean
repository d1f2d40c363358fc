/- sector: the law SectorOne. No condition. -/
import Derived.Test.YtipinhlfajmghaaDoorYg
namespace Go.Proofs.YtipinhlfajmghaaDoor.A
open Go
set_option linter.unusedVariables false
set_option maxRecDepth 100000
set_option pp.maxSteps 1500

def gU (s : ByteArray) (i j : Nat) : Nat := valL (s.extract i j).data.toList
/-- A stamp's sector. -/
structure OkU (s : ByteArray) (m : Nat) : Prop where
  h64 : s.size = 64
  h0 : atL s 0 = 193
  hR : okS ⟨gU s 1 5, gU s 5 7, gU s 7 11, gU s 11 12, gU s 12 13⟩
  hm : m = gU s 13 14
  hn : m ≤ 50
  hz : ∀ i, i < (s.extract (14 + m) 64).size → atL (s.extract (14 + m) 64) i = 0
theorem get_at (s : ByteArray) (i j : Nat) (h64 : s.size = 64) (h : j ≤ i + 4) : ACalls Tryd.prog 16 [str (s.extract i j)] [] (Ret (i64 (gU s i j : Nat))) :=
  get_ok _ (by rw [ByteArray.size_extract]; omega)
theorem unpackU (s : ByteArray) : (∃ m, OkU s m ∧ ACalls Tryd.prog 10 [str s] [] (Ret (.tup [stA ⟨gU s 1 5, gU s 5 7, gU s 7 11, gU s 11 12, gU s 12 13⟩, str (s.extract 14 (14 + m)), i64 0]))) ∨ ((¬ ∃ m, OkU s m) ∧ ACalls Tryd.prog 10 [str s] [] (Ret (.tup [stA stpZ, str emp, i64 4]))) := by
  by_cases h64 : s.size = 64
  · by_cases h0 : atL s 0 = 193
    · have hr := sRight_ok ⟨gU s 1 5, gU s 5 7, gU s 7 11, gU s 11 12, gU s 12 13⟩
      have c1 := get_at s 1 5 h64 (by decide)
      have c2 := get_at s 5 7 h64 (by decide)
      have c3 := get_at s 7 11 h64 (by decide)
      have c4 := get_at s 11 12 h64 (by decide)
      have c5 := get_at s 12 13 h64 (by decide)
      have c6 := get_at s 13 14 h64 (by decide)
      by_cases hR : okS ⟨gU s 1 5, gU s 5 7, gU s 7 11, gU s 11 12, gU s 12 13⟩
      · rw [decide_eq_true hR] at hr
        by_cases hn : gU s 13 14 ≤ 50
        · by_cases hz : ∀ i, i < (s.extract (14 + gU s 13 14) 64).size → atL (s.extract (14 + gU s 13 14) 64) i = 0
          · exact .inl ⟨_, ⟨h64, h0, hR, rfl, hn, hz⟩, unpack_yes s h64 h0 _ _ _ _ _ _ c1 c2 c3 c4 c5 c6 hr hn hz⟩
          · exact .inr ⟨fun ⟨m, o⟩ => hz (o.hm ▸ o.hz), unpack_rest s h64 h0 _ _ _ _ _ _ c1 c2 c3 c4 c5 c6 hr hn hz⟩
        · exact .inr ⟨fun ⟨m, o⟩ => hn (o.hm ▸ o.hn), unpack_long s h64 h0 _ _ _ _ _ _ c1 c2 c3 c4 c5 c6 hr (by omega)⟩
      · rw [decide_eq_false hR] at hr
        exact .inr ⟨fun ⟨m, o⟩ => hR o.hR, unpack_bad s h64 h0 _ _ _ _ _ _ c1 c2 c3 c4 c5 c6 hr⟩
    · exact .inr ⟨fun ⟨m, o⟩ => h0 o.h0, unpack_mark s h64 h0⟩
  · exact .inr ⟨fun ⟨m, o⟩ => h64 o.h64, unpack_len s h64⟩
theorem valL_inj : ∀ (k : Nat) (a b : List UInt8), a.length = k → b.length = k → valL a = valL b → a = b
  | 0, a, b, ha, hb, _ => by rw [List.eq_nil_of_length_eq_zero ha, List.eq_nil_of_length_eq_zero hb]
  | k + 1, a, b, ha, hb, h => by
    have hna : a ≠ [] := fun h => by rw [h] at ha; simp at ha
    have hnb : b ≠ [] := fun h => by rw [h] at hb; simp at hb
    rw [← List.dropLast_concat_getLast hna, ← List.dropLast_concat_getLast hnb, valL_snoc, valL_snoc] at h
    have h1 := (a.getLast hna).toNat_lt
    have h2 := (b.getLast hnb).toNat_lt
    have e1 : valL a.dropLast = valL b.dropLast := by omega
    have e2 : (a.getLast hna).toNat = (b.getLast hnb).toNat := by omega
    have e3 := valL_inj k a.dropLast b.dropLast (by simp [ha]) (by simp [hb]) e1
    rw [← List.dropLast_concat_getLast hna, ← List.dropLast_concat_getLast hnb, e3, UInt8.toNat_inj.1 e2]
theorem drop_step {s t : ByteArray} {i j : Nat} (hij : i ≤ j) (h : (s.extract i j).data.toList = (t.extract i j).data.toList) (hd : s.data.toList.drop j = t.data.toList.drop j) : s.data.toList.drop i = t.data.toList.drop i := by
  rw [exlB, exlB] at h
  rw [← List.take_append_drop (j - i) (s.data.toList.drop i), ← List.take_append_drop (j - i) (t.data.toList.drop i), h, List.drop_drop, List.drop_drop, show i + (j - i) = j by omega, hd]
theorem gU_eq {s t : ByteArray} {i j : Nat} (hs : s.size = 64) (ht : t.size = 64) (h : gU s i j = gU t i j) : (s.extract i j).data.toList = (t.extract i j).data.toList := by
  refine valL_inj _ _ _ rfl ?_ h
  rw [lenB, lenB, ByteArray.size_extract, ByteArray.size_extract, hs, ht]
theorem one_sector {s t : ByteArray} {m k : Nat} (os : OkU s m) (ot : OkU t k) (h1 : gU s 1 5 = gU t 1 5) (h2 : gU s 5 7 = gU t 5 7) (h3 : gU s 7 11 = gU t 7 11) (h4 : gU s 11 12 = gU t 11 12) (h5 : gU s 12 13 = gU t 12 13)
    (hd : s.extract 14 (14 + m) = t.extract 14 (14 + k)) : s = t := by
  have ls := lenB s
  have lt := lenB t
  rw [os.h64] at ls
  rw [ot.h64] at lt
  have n1 := os.hn
  have n2 := ot.hn
  have hmk : m = k := by
    have := congrArg ByteArray.size hd
    rw [ByteArray.size_extract, ByteArray.size_extract, os.h64, ot.h64] at this
    omega
  subst hmk
  have tail : s.data.toList.drop (14 + m) = t.data.toList.drop (14 + m) := by
    have hz : ∀ (u : ByteArray), u.size = 64 → (∀ i, i < (u.extract (14 + m) 64).size → atL (u.extract (14 + m) 64) i = 0) → u.data.toList.drop (14 + m) = List.replicate (50 - m) 0 := fun u hu hz => by
      have lu := lenB u
      rw [hu] at lu
      refine List.ext_getElem (by rw [List.length_drop, List.length_replicate, lu]; omega) fun i g1 g2 => ?_
      rw [List.length_replicate] at g2
      have hsz : (u.extract (14 + m) 64).size = 50 - m := by rw [ByteArray.size_extract, hu]; omega
      have := hz i (by rw [hsz]; exact g2)
      unfold atL at this
      rw [exlB, List.getD_eq_getElem?_getD, List.getElem?_take_of_lt (by omega), List.getElem?_eq_getElem g1] at this
      rw [List.getElem_replicate]
      exact UInt8.toNat_inj.1 this
    rw [hz s os.h64 os.hz, hz t ot.h64 ot.hz]
  have d14 := drop_step (i := 14) (j := 14 + m) (by omega) (by rw [hd]) tail
  have d13 := drop_step (i := 13) (j := 14) (by decide) (gU_eq os.h64 ot.h64 (by rw [← os.hm, ← ot.hm])) d14
  have d12 := drop_step (i := 12) (j := 13) (by decide) (gU_eq os.h64 ot.h64 h5) d13
  have d11 := drop_step (i := 11) (j := 12) (by decide) (gU_eq os.h64 ot.h64 h4) d12
  have d7 := drop_step (i := 7) (j := 11) (by decide) (gU_eq os.h64 ot.h64 h3) d11
  have d5 := drop_step (i := 5) (j := 7) (by decide) (gU_eq os.h64 ot.h64 h2) d7
  have d1 := drop_step (i := 1) (j := 5) (by decide) (gU_eq os.h64 ot.h64 h1) d5
  have e0 : s.data.toList.take 1 = t.data.toList.take 1 := by
    have a := os.h0
    have b := ot.h0
    unfold atL at a b
    rw [List.getD_eq_getElem?_getD, List.getElem?_eq_getElem (by omega)] at a b
    rw [List.take_one, List.take_one, List.head?_eq_getElem?, List.head?_eq_getElem?, List.getElem?_eq_getElem (by omega), List.getElem?_eq_getElem (by omega)]
    have : s.data.toList[0] = t.data.toList[0] := UInt8.toNat_inj.1 (Eq.trans a b.symm)
    rw [this]
  have hl : s.data.toList = t.data.toList := by
    rw [← List.take_append_drop 1 s.data.toList, ← List.take_append_drop 1 t.data.toList, e0, d1]
  cases s
  cases t
  simp only [ByteArray.mk.injEq]
  exact Array.toList_inj.1 hl
end Go.Proofs.YtipinhlfajmghaaDoor.A
