/- The laws of value, by the functions that they call. No condition. -/
import Derived.Test.YtgchhmfobkcnfaaVd
namespace Go.Proofs.Ytgchhmfobkcnfaa.A
open Go
set_option linter.unusedVariables false
set_option maxRecDepth 100000
set_option pp.maxSteps 1500

theorem placeB_bits (c : Nat) : placeB (bitsB c) = placeB c := by
  unfold bitsB
  cases hn : nanB c
  · simp
  · have hc : nanB 9221120237041090561 = true := by decide
    simp [placeB, hn, hc]
theorem rightV_num {t : ByteArray} {b : Nat} (h1 : t.size = 0) (h2 : bitsB b = b) : rightV true t b = true := by simp [rightV, h1, h2]
theorem rightV_txt {t : ByteArray} {b : Nat} (h1 : b = 0) (h2 : t.size ≤ 64) : rightV false t b = true := by simp [rightV, h1, h2]
theorem hd1_cons {c : UInt8} {s : ByteArray} (h : hd1 c s = true) : s.data.toList = c :: (s.extract 1 s.size).data.toList := by
  rw [exl, ← size_list]
  simp only [hd1, beq_iff_eq] at h
  cases hl : s.data.toList with
  | nil => rw [hl] at h; cases h
  | cons x l =>
    rw [hl] at h
    have : x = c := by simpa using h
    subst this
    simp
/-- What is read has these bytes, and may be. -/
theorem up_right {s : ByteArray} {n : Bool} {t : ByteArray} {b : Nat} (h : upV s = (n, t, b, 0)) : b < 18446744073709551616 ∧ rightV n t b = true ∧ packV n t b = s := by
  unfold upV at h
  split at h
  · cases h
  · split at h
    · rename_i h1
      split at h
      · rename_i h2
        simp only [Prod.mk.injEq] at h
        obtain ⟨rfl, rfl, rfl, _⟩ := h
        rcases ukE_cases (s.extract 1 s.size) with ⟨h3, _⟩ | ⟨_, h3⟩
        · obtain ⟨h4, h5⟩ := of_decide_eq_true h3
          refine ⟨bitsB_lt (ukB_lt _), ?_, ?_⟩
          · exact rightV_num rfl (bitsB_bitsB _)
          · refine ba_ext ?_
            rw [packV_list, if_pos rfl, placeB_bits, hd1_cons h1]
            generalize s.extract 1 s.size = r at *
            have hB : ukB r = atB (valL r.data.toList) := by unfold ukB; rw [if_pos h2]
            rw [hB, placeB_atB h5, keyL_valL ((size_list _).trans h4)]
        · rw [h3] at h2; cases h2
      · cases h
    · split at h
      · rename_i h1
        simp only [Prod.mk.injEq] at h
        obtain ⟨rfl, rfl, rfl, _⟩ := h
        refine ⟨by decide, ?_, ?_⟩
        · have := ext1_size s
          exact rightV_txt rfl (by omega)
        · refine ba_ext ?_
          rw [packV_list, if_neg (by decide), hd1_cons h1.1]
      · cases h
end Go.Proofs.Ytgchhmfobkcnfaa.A
