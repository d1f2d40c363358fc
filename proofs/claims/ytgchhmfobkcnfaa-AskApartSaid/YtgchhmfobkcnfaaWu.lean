/- law03: WireApart. No condition. -/
import Derived.Test.YtgchhmfobkcnfaaWt
namespace Go.Proofs.Ytgchhmfobkcnfaa.A
open Go
set_option linter.unusedVariables false
set_option linter.unusedSimpArgs false
set_option maxRecDepth 100000
set_option pp.maxSteps 300

theorem cntG_app : ∀ {b : List Nat} {i acc n k : Nat} (c : List Nat), cntG b i acc = .ok n k → cntG (b ++ c) i acc = .ok n k
  | [], i, acc, n, k, c, h => by cases h
  | x :: r, i, acc, n, k, c, h => by
    rw [List.cons_append, cntG_cons]
    rw [cntG_cons] at h
    split at h
    · cases h
    · rename_i h1
      rw [if_neg h1]
      split at h
      · rename_i h2
        rw [if_pos h2]
        exact h
      · rename_i h2
        rw [if_neg h2]
        exact cntG_app c h
theorem cntP_app {s u : ByteArray} {n k : Nat} (h : cntP (byL s) = .ok n k) : cntP (byL (s ++ u)) = .ok n k := by
  rw [byL_append]
  exact cntG_app _ h
theorem cntM_app {s u : ByteArray} {m n k : Nat} (h : cntM m (byL s) = .ok n k) : cntM m (byL (s ++ u)) = .ok n k := by
  unfold cntM at h ⊢
  cases hc : cntP (byL s) with
  | err e => rw [hc] at h; cases h
  | ok a b =>
    rw [hc] at h
    rw [cntP_app hc]
    exact h
theorem rest_app {s u : ByteArray} {m : Nat} (h : m ≤ s.size) : rest (s ++ u) m = rest s m ++ u := by
  apply byL_inj
  rw [rest_byL, byL_append, byL_append, rest_byL, List.drop_append_of_le_length (by rw [byL_len]; exact h)]
theorem ext_app {s u : ByteArray} {n : Nat} (h : n ≤ s.size) : (s ++ u).extract 0 n = s.extract 0 n := by
  apply byL_inj
  rw [extractB, extractB, byL_append, List.take_append_of_le_length (by rw [byL_len]; exact h)]
theorem valB_app {s u : ByteArray} {p : Nat} : ∀ {j : Nat}, p + j ≤ s.size → valB (s ++ u) p j = valB s p j
  | 0, _ => rfl
  | j + 1, h => by
    simp only [valB]
    rw [valB_app (by omega), octB_left (by omega)]
theorem tagsB_app {s u : ByteArray} : ∀ {k : Nat}, 1 + 8 * k ≤ s.size → tagsB (s ++ u) k = tagsB s k
  | 0, _ => rfl
  | k + 1, h => by rw [tagsB, tagsB, tagsB_app (by omega), valB_app (by omega)]
theorem unpL_app {s u : ByteArray} (h : (unpL s).e = 0) : unpL (s ++ u) = unpL s := by
  unfold unpL at h ⊢
  split at h
  · cases h
  · split at h
    · cases h
    · split at h
      · cases h
      · rename_i h1 h2 h3
        have ho : octB (s ++ u) 0 = octB s 0 := octB_left (by omega)
        have hz := size_append s u
        rw [ho, if_neg (show ¬ (s ++ u).size = 0 by omega), if_neg h2, if_neg (show ¬ (s ++ u).size < 1 + 8 * octB s 0 by omega), tagsB_app (by omega), if_neg h1, if_neg h2, if_neg h3]
theorem rdP_app {c : Nat} {s u : ByteArray} {x : It} {k : Nat} (hc : isL c = true) (h : rdP c s = .ok x k) : rdP c (s ++ u) = .ok x k := by
  have hz := size_append s u
  rcases isL_5 hc with rfl | rfl | rfl | rfl | rfl
  · rw [rdP_b] at h ⊢
    split at h
    · cases h
    · rename_i h1
      rw [if_neg (by omega), octB_left (by omega)]
      exact h
  · rw [rdP_n] at h ⊢
    cases hq : cntP (byL s) with
    | err e => rw [hq] at h; cases h
    | ok n j => rw [hq] at h; rw [cntP_app hq]; exact h
  · rw [rdP_t] at h ⊢
    cases hq : cntM 200 (byL s) with
    | err e => rw [hq] at h; cases h
    | ok n j =>
      rw [hq] at h
      rw [cntM_app hq]
      dsimp only at h ⊢
      have hl := cntM_lt hq
      rw [byL_len] at hl
      split at h
      · cases h
      · rename_i h1
        rw [if_neg (by omega), rest_app (by omega), ext_app (by rw [rest_size]; omega)]
        exact h
  · rw [rdP_f] at h ⊢
    split at h
    · cases h
    · rename_i h1
      rw [if_neg (by omega), ext_app (by omega)]
      exact h
  · rw [rdP_l] at h ⊢
    split at h
    · rename_i h1
      rw [unpL_app h1, if_pos h1]
      exact h
    · cases h
theorem kidsN_app {c : Nat} {s u : ByteArray} (hc : isL c = true) : ∀ {j : Nat} {l : List It} {m : Nat}, kidsN c s j = .ok l m → kidsN c (s ++ u) j = .ok l m
  | 0, l, m, h => h
  | j + 1, l, m, h => by
    cases hq : kidsN c s j with
    | err e => rw [show kidsN c s (j + 1) = _ from kidsN_err hq 1] at h; cases h
    | ok l2 m2 =>
      rw [kidsN_ok hq] at h
      rw [kidsN_ok (kidsN_app hc hq), rest_app (kidsN_le hq)]
      cases hr : rdP c (rest s m2) with
      | err e => rw [hr] at h; cases h
      | ok x k => rw [hr] at h; rw [rdP_app hc hr]; exact h
theorem lstP_app {c : Nat} {s u : ByteArray} {x : It} {k : Nat} (hc : isL c = true) (h : lstP c s = .ok x k) : lstP c (s ++ u) = .ok x k := by
  unfold lstP at h ⊢
  cases hq : cntM 64 (byL s) with
  | err e => rw [hq] at h; cases h
  | ok n j =>
    rw [hq] at h
    rw [cntM_app hq]
    dsimp only at h ⊢
    have hl := cntM_lt hq
    rw [byL_len] at hl
    rw [rest_app (by omega)]
    cases hk : kidsN c (rest s j) n with
    | err e => rw [hk] at h; cases h
    | ok l m => rw [hk] at h; rw [kidsN_app hc hk]; exact h
theorem rd1P_app {p : Nat × Bool} {s u : ByteArray} {x : It} {k : Nat} (hc : isL p.1 = true) (h : rd1P p s = .ok x k) : rd1P p (s ++ u) = .ok x k := by
  obtain ⟨c, m⟩ := p
  cases m with
  | true => exact lstP_app hc h
  | false => exact rdP_app hc h
theorem begN_app {L : List (Nat × Bool)} {s u : ByteArray} (hL : ∀ p ∈ L, isL p.1 = true) : ∀ {j : Nat} {l : List It} {m : Nat}, j ≤ L.length → begN L s j = .ok l m → begN L (s ++ u) j = .ok l m
  | 0, l, m, _, h => h
  | j + 1, l, m, hj, h => by
    obtain ⟨p, hp⟩ : ∃ p, L[j]? = some p := ⟨_, List.getElem?_eq_getElem (by omega)⟩
    cases hq : begN L s j with
    | err e => rw [show begN L s (j + 1) = _ from begN_err hq 1] at h; cases h
    | ok l2 m2 =>
      rw [begN_ok hq hp] at h
      rw [begN_ok (begN_app hL (by omega) hq) hp, rest_app (begN_le (by omega) hq).1]
      cases hr : rd1P p (rest s m2) with
      | err e => rw [hr] at h; cases h
      | ok x k => rw [hr] at h; rw [rd1P_app (hL p (List.mem_of_getElem? hp)) hr]; exact h
/-- What has been read is read, whatever stands behind. -/
theorem begP_app {b : List Nat} {s u : ByteArray} {l : List It} {m : Nat} (h : begP b s = .ok l m) : begP b (s ++ u) = .ok l m := by
  unfold begP at h ⊢
  cases hL : shP b with
  | none => rw [hL] at h; cases h
  | some L =>
    rw [hL] at h
    exact begN_app (shP_isL hL) (Nat.le_refl _) h
end Go.Proofs.Ytgchhmfobkcnfaa.A
