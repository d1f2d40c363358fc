/- Values compared; the laws of value, by the functions that they call. No condition. -/
import Derived.Test.YtnfimgnhfmlohaaVc
namespace Go.Proofs.Ytnfimgnhfmlohaa.A
open Go
set_option linter.unusedVariables false
set_option maxRecDepth 100000
set_option pp.maxSteps 1500

/-- Which of two values stands ahead. -/
def cmpV (n : Bool) (t : ByteArray) (b : Nat) (n' : Bool) (t' : ByteArray) (b' : Nat) : Int :=
  match n, n' with
  | true, false => 1
  | false, true => -1
  | false, false => cmpS t t'
  | true, true => cmpI (placeB b) (placeB b')
theorem strLt_cmp (s t : ByteArray) : strLt s t = decide (cmpS s t = -1) ∧ (!(strLt s t || strEq s t)) = decide (cmpS s t = 1) := by
  rw [strLt_eq, strEq_eq]
  unfold cmpS cmpL
  rcases bl_tri s.data.toList t.data.toList with ⟨h1, h2, h3⟩ | ⟨h1, h2, h3⟩ | ⟨h1, h2, h3⟩
  · simp [h1]
  · rw [h2, h3, h1]; simp
  · have h4 : (s.data.toList == t.data.toList) = false := by rw [beq_eq_false_iff_ne]; exact h2
    rw [h1, h3, h4]
    simp
theorem cmpS_cases (s t : ByteArray) : cmpS s t = -1 ∨ cmpS s t = 0 ∨ cmpS s t = 1 := by
  unfold cmpS cmpL
  split
  · exact .inl rfl
  · split
    · exact .inr (.inr rfl)
    · exact .inr (.inl rfl)
theorem cmpS_zero {s t : ByteArray} : cmpS s t = 0 → s = t := by
  unfold cmpS cmpL
  intro h
  rcases bl_tri s.data.toList t.data.toList with ⟨h1, h2, h3⟩ | ⟨h1, h2, h3⟩ | ⟨h1, h2, h3⟩
  · rw [h1] at h; cases h
  · exact ba_ext h1
  · rw [h3, h1] at h; cases h
theorem rCompare_ok (n : Bool) (t : ByteArray) (b : Nat) (n' : Bool) (t' : ByteArray) (b' : Nat) (hb : b < 18446744073709551616) (hb' : b' < 18446744073709551616) :
    ACalls Try.prog 17 [val n t b, val n' t' b'] [] (Ret (i64 (cmpV n t b n' t' b'))) := by
  cases n <;> cases n'
  · refine acalls_of_awp hT mixed Try.func17 rfl (by kernel_rfl) (by kernel_rfl) (Nat.le_of_ble_eq_true rfl) ?_
    have hc := strLt_cmp t t'
    refine fork (fun h => ?_) (fun h => ?_)
    · rw [hc.1] at h
      refine end0 rfl rfl rfl (congrArg i64 ?_)
      exact (of_decide_eq_true h).symm
    · rw [hc.1] at h
      refine fork (fun h2 => ?_) (fun h2 => ?_)
      · rw [hc.2] at h2
        refine end0 rfl rfl rfl (congrArg i64 ?_)
        exact (of_decide_eq_true h2).symm
      · rw [hc.2] at h2
        refine end0 rfl rfl rfl (congrArg i64 ?_)
        rcases cmpS_cases t t' with h3 | h3 | h3
        · exact absurd h3 (of_decide_eq_false h)
        · exact h3.symm
        · exact absurd h3 (of_decide_eq_false h2)
  · refine acalls_of_awp hT mixed Try.func17 rfl (by kernel_rfl) (by kernel_rfl) (Nat.le_of_ble_eq_true rfl) ?_
    refine end0 rfl rfl rfl rfl
  · refine acalls_of_awp hT mixed Try.func17 rfl (by kernel_rfl) (by kernel_rfl) (Nat.le_of_ble_eq_true rfl) ?_
    refine end0 rfl rfl rfl rfl
  · refine acalls_of_awp hT mixed Try.func17 rfl (by kernel_rfl) (by kernel_rfl) (Nat.le_of_ble_eq_true rfl) ?_
    refine ⟨[0, 0, 1, 0, 0, 2, 2, 2], [[], [0], [0, 1], [], [3], [0, 1, 2, 3, 4], [0, 1, 2, 3, 4, 5], [0, 1, 2, 3, 4, 5, 6]], [0, 0, 0, 0, 0, 0, 0, 0], [2, 5], [[2], [27], [28], [3], [30], [31], [29], [32]], Ob.intro (by kernel_rfl) ?_⟩
    repeat refine same ?_
    refine callP (float64frombits_ok b) rfl rfl ?_
    repeat refine same ?_
    refine callP (float64frombits_ok b') rfl rfl ?_
    repeat refine same ?_
    refine callP (less_ok b b' hb hb') rfl rfl ?_
    refine forkD (fun h => ?_) (fun h => ?_)
    · refine end0 rfl rfl rfl (congrArg i64 ?_)
      simp only [cmpV, cmpI]
      rw [if_pos h]
    · refine callP (less_ok b' b hb' hb) rfl rfl ?_
      refine forkD (fun h2 => ?_) (fun h2 => ?_)
      · refine end0 rfl rfl rfl (congrArg i64 ?_)
        simp only [cmpV, cmpI]
        rw [if_neg h, if_pos h2]
      · refine end0 rfl rfl rfl (congrArg i64 ?_)
        simp only [cmpV, cmpI]
        rw [if_neg h, if_neg h2]
theorem packV_list (n : Bool) (t : ByteArray) (b : Nat) : (packV n t b).data.toList = if n = true then 1 :: keyL (placeB b) else 0 :: t.data.toList := by
  cases n
  · simp only [packV, cond_false]
    rw [apl]
    rfl
  · simp only [packV, cond_true]
    rw [apl]
    rfl
theorem cmp_pack (n : Bool) (t : ByteArray) (b : Nat) (n' : Bool) (t' : ByteArray) (b' : Nat) (hb : b < 18446744073709551616) (hb' : b' < 18446744073709551616) : cmpS (packV n t b) (packV n' t' b') = cmpV n t b n' t' b' := by
  have h1 := placeB_lt hb
  have h2 := placeB_lt hb'
  unfold cmpS
  rw [packV_list, packV_list]
  cases n <;> cases n'
  · exact cmpL_cons _ _ _
  · rfl
  · rfl
  · simp only [if_true]
    rw [cmpL_cons, cmpL_key (by omega) (by omega)]
    rfl
theorem compareV_ok (n : Bool) (t : ByteArray) (b : Nat) (n' : Bool) (t' : ByteArray) (b' : Nat) (hb : b < 18446744073709551616) (hb' : b' < 18446744073709551616) :
    ACalls Try.prog 15 [val n t b, val n' t' b'] [] (Ret (i64 (if rightV n t b = true ∧ rightV n' t' b' = true then cmpV n t b n' t' b' else 0))) := by
  have p1 := pack_ok n t b hb
  have p2 := pack_ok n' t' b' hb'
  have hc := cmp_pack n t b n' t' b' hb hb'
  generalize packV n t b = s at *
  generalize packV n' t' b' = s' at *
  by_cases h1 : rightV n t b = true
  · rw [if_pos h1] at p1
    by_cases h2 : rightV n' t' b' = true
    · rw [if_pos h2] at p2
      rw [if_pos ⟨h1, h2⟩, ← hc]
      clear h1 h2 hc
      cases n <;> cases n' <;>
      · refine acalls_of_awp hT mixed Try.func15 rfl (by kernel_rfl) (by kernel_rfl) (Nat.le_of_ble_eq_true rfl) ?_
        refine callP p1 rfl rfl ?_
        refine callP p2 rfl rfl ?_
        refine callP (compareS_ok s s') rfl rfl ?_
        refine end0 rfl rfl rfl rfl
    · rw [if_neg h2] at p2
      rw [if_neg fun h => h2 h.2]
      clear h1 h2 hc
      cases n <;> cases n' <;>
      · refine acalls_of_awp hT mixed Try.func15 rfl (by kernel_rfl) (by kernel_rfl) (Nat.le_of_ble_eq_true rfl) ?_
        refine callP p1 rfl rfl ?_
        refine callP p2 rfl rfl ?_
        refine end0 rfl rfl rfl rfl
  · rw [if_neg h1] at p1
    rw [if_neg fun h => h1 h.1]
    clear h1 hc
    by_cases h2 : rightV n' t' b' = true
    · rw [if_pos h2] at p2
      clear h2
      cases n <;> cases n' <;>
      · refine acalls_of_awp hT mixed Try.func15 rfl (by kernel_rfl) (by kernel_rfl) (Nat.le_of_ble_eq_true rfl) ?_
        refine callP p1 rfl rfl ?_
        refine callP p2 rfl rfl ?_
        refine end0 rfl rfl rfl rfl
    · rw [if_neg h2] at p2
      clear h2
      cases n <;> cases n' <;>
      · refine acalls_of_awp hT mixed Try.func15 rfl (by kernel_rfl) (by kernel_rfl) (Nat.le_of_ble_eq_true rfl) ?_
        refine callP p1 rfl rfl ?_
        refine callP p2 rfl rfl ?_
        refine end0 rfl rfl rfl rfl
theorem awakeV_ok : ACalls Try.prog 7 [] [] (Ret (bo true)) := by
  refine acalls_of_awp hT mixed Try.func7 rfl (by kernel_rfl) (by kernel_rfl) (Nat.le_of_ble_eq_true rfl) ?_
  have h1 := number_ok 4607182418800017408
  have h2 := weight_ok true nilT 4607182418800017408 (by decide)
  have h3 := weight_ok false nilT 0 (by decide)
  have hb : bitsB 4607182418800017408 = 4607182418800017408 := by decide
  rw [hb] at h1
  rw [if_pos (by decide)] at h2 h3
  refine callP h1 rfl rfl ?_
  refine callP h2 rfl rfl ?_
  refine callP h3 rfl rfl ?_
  refine end0 rfl rfl rfl rfl
theorem rightV_size {n : Bool} {t : ByteArray} {b : Nat} (h : rightV n t b = true) : t.size ≤ 64 := by
  cases n
  · exact (right_text h).2
  · have := (right_bits h).1
    omega
/-- A packed value is read back. -/
theorem up_pack {n : Bool} {t : ByteArray} {b : Nat} (hb : b < 18446744073709551616) (h : rightV n t b = true) : upV (packV n t b) = (n, t, b, 0) := by
  have hl := packV_list n t b
  have hsz : (packV n t b).size = (packV n t b).data.toList.length := (size_list _).symm
  have hex := exl (packV n t b) 1 (packV n t b).size
  have h1 : hd1 1 (packV n t b) = n := by
    unfold hd1
    rw [hl]
    cases n <;> simp
  have h0 : hd1 0 (packV n t b) = !n := by
    unfold hd1
    rw [hl]
    cases n <;> simp
  have hn0 : ¬ (packV n t b).size = 0 := by
    rw [hsz, hl]
    cases n <;> simp
  rw [hl] at hsz hex
  generalize packV n t b = s at *
  have hu : upV s = if hd1 1 s = true then (if ukE (s.extract 1 s.size) = 0 then (true, nilT, bitsB (ukB (s.extract 1 s.size)), 0) else (false, nilT, 0, 4))
      else if hd1 0 s = true ∧ s.size ≤ 65 then (false, s.extract 1 s.size, 0, 0) else (false, nilT, 0, 4) := if_neg hn0
  rw [hu, h1, h0]
  cases n
  · have hr := right_text h
    have hts : t.data.toList.length = t.size := size_list t
    simp only [Bool.false_eq_true, if_false, List.length_cons] at hsz
    rw [if_neg (by decide), if_pos ⟨rfl, by omega⟩]
    have : s.extract 1 s.size = t := by
      refine ba_ext ?_
      rw [hex, hsz]
      simp
      exact List.take_of_length_le (by omega)
    rw [this, hr.1]
  · have hr := right_bits h
    have hp := placeB_lt hb
    rw [if_pos rfl]
    have hk : s.extract 1 s.size = ⟨(keyL (placeB b)).toArray⟩ := by
      refine ba_ext ?_
      rw [hex, hsz]
      simp only [if_true]
      rfl
    have hE : ukE ⟨(keyL (placeB b)).toArray⟩ = 0 := by
      unfold ukE
      rw [if_neg (fun hne => hne rfl), if_neg]
      show ¬ 18437736874454810626 < valL (keyL (placeB b))
      rw [valL_keyL (by omega)]
      omega
    have hB : ukB ⟨(keyL (placeB b)).toArray⟩ = bitsB b := by
      unfold ukB
      rw [if_pos hE]
      show atB (valL (keyL (placeB b))) = _
      rw [valL_keyL (by omega), atB_place hb]
    have ht : t = nilT := by
      refine ba_ext ?_
      have h5 : t.data.toList.length = 0 := (size_list t).trans hr.1
      rw [List.eq_nil_of_length_eq_zero h5]
      rfl
    rw [hk, if_pos hE, hB, bitsB_bitsB, hr.2, ht]
end Go.Proofs.Ytnfimgnhfmlohaa.A
