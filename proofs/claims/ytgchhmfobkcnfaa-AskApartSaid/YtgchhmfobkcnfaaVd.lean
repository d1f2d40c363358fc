/- Values compared; the laws of value, by the functions that they call. No condition. -/
import Derived.Test.YtgchhmfobkcnfaaVc
namespace Go.Proofs.Ytgchhmfobkcnfaa.A
open Go
set_option linter.unusedVariables false
set_option maxRecDepth 100000
set_option pp.maxSteps 1500

theorem packV_list (n : Bool) (t : ByteArray) (b : Nat) : (packV n t b).data.toList = if n = true then 1 :: keyL (placeB b) else 0 :: t.data.toList := by
  cases n
  · simp only [packV, cond_false]
    rw [apl]
    rfl
  · simp only [packV, cond_true]
    rw [apl]
    rfl
/-- A packed value is read back. -/
theorem up_pack {n : Bool} {t : ByteArray} {b : Nat} (hb : b < 18446744073709551616) (h : rightV n t b = true) : upV (packV n t b) = (n, t, b, 0) := by
  have hl := packV_list n t b
  have hsz : (packV n t b).size = (packV n t b).data.toList.length := (size_list _).symm
  have hex := exl (packV n t b) 1 (packV n t b).size
  have h1 : hd1 1 (packV n t b) = n := by
    unfold hd1
    rw [hl]
    cases n <;> simp
  have h0 : hd1 0 (packV n t b) = !n := by
    unfold hd1
    rw [hl]
    cases n <;> simp
  have hn0 : ¬ (packV n t b).size = 0 := by
    rw [hsz, hl]
    cases n <;> simp
  rw [hl] at hsz hex
  generalize packV n t b = s at *
  have hu : upV s = if hd1 1 s = true then (if ukE (s.extract 1 s.size) = 0 then (true, nilT, bitsB (ukB (s.extract 1 s.size)), 0) else (false, nilT, 0, 4))
      else if hd1 0 s = true ∧ s.size ≤ 65 then (false, s.extract 1 s.size, 0, 0) else (false, nilT, 0, 4) := if_neg hn0
  rw [hu, h1, h0]
  cases n
  · have hr := right_text h
    have hts : t.data.toList.length = t.size := size_list t
    simp only [Bool.false_eq_true, if_false, List.length_cons] at hsz
    rw [if_neg (by decide), if_pos ⟨rfl, by omega⟩]
    have : s.extract 1 s.size = t := by
      refine ba_ext ?_
      rw [hex, hsz]
      simp
      exact List.take_of_length_le (by omega)
    rw [this, hr.1]
  · have hr := right_bits h
    have hp := placeB_lt hb
    rw [if_pos rfl]
    have hk : s.extract 1 s.size = ⟨(keyL (placeB b)).toArray⟩ := by
      refine ba_ext ?_
      rw [hex, hsz]
      simp only [if_true]
      rfl
    have hE : ukE ⟨(keyL (placeB b)).toArray⟩ = 0 := by
      unfold ukE
      rw [if_neg (fun hne => hne rfl), if_neg]
      show ¬ 18437736874454810626 < valL (keyL (placeB b))
      rw [valL_keyL (by omega)]
      omega
    have hB : ukB ⟨(keyL (placeB b)).toArray⟩ = bitsB b := by
      unfold ukB
      rw [if_pos hE]
      show atB (valL (keyL (placeB b))) = _
      rw [valL_keyL (by omega), atB_place hb]
    have ht : t = nilT := by
      refine ba_ext ?_
      have h5 : t.data.toList.length = 0 := (size_list t).trans hr.1
      rw [List.eq_nil_of_length_eq_zero h5]
      rfl
    rw [hk, if_pos hE, hB, bitsB_bitsB, hr.2, ht]
end Go.Proofs.Ytgchhmfobkcnfaa.A
