/- The document's parts; the law SectorParts, by the functions that it calls. No condition. -/
import Derived.Test.YtipinhlfajmghaaSc
namespace Go.Proofs.Ytipinhlfajmghaa.A
open Go
set_option linter.unusedVariables false
set_option maxRecDepth 100000
set_option pp.maxSteps 1500

theorem rParts_ok (s : ByteArray) (hs : s.size ≤ 2000) : ACalls Try.prog 6 [str s] [] (Ret (.view (cuts s.size + 1) (strs (partsL s)))) := by
  have hcut : cuts s.size = if s.size ≤ 50 then 0 else (s.size - 1) / 50 := rfl
  refine acalls_of_awp hT mixed Try.func6 rfl (by kernel_rfl) (by kernel_rfl) (Nat.le_of_ble_eq_true rfl) ?_
  have hkl : ∀ k, k * 1 = (strs (partsK s k)).length := fun k => by rw [strs_length, partsK_length, Nat.mul_one]
  refine loopI (α := PSt s) (fun x => [(0, str x.val.2), (3, .slc 0 0 x.val.1 1)]) (fun x => [.row (strs (partsK s x.val.1))]) (fun x => cuts s.size - x.val.1) ⟨(0, s), Nat.zero_le _, by simp [restK]⟩ [0] ⟨⟨rfl, rfl, True.intro⟩, ⟨.inl rfl, True.intro⟩, rfl, rfl, rfl⟩ ?_
  intro x K hK
  obtain ⟨⟨k, r⟩, hk, hr⟩ := x
  simp only at hk hr
  have hk40 : k ≤ 40 := by
    rw [hcut] at hk
    split at hk <;> omega
  have hrs : r.size = s.size - 50 * k := by rw [hr]; exact rest_size s k
  refine forkD (fun h => ?_) (fun h => ?_)
  · have h' : s.size - 50 * k > 50 := by
      have : (r.size : Int) > 50 := h
      omega
    have hk2 : k + 1 ≤ cuts s.size := by
      rw [hcut]
      split <;> omega
    refine Ob.intro (show (0 : Int) ≤ 0 ∧ (0 : Int) ≤ 50 ∧ (50 : Int) ≤ (r.size : Nat) by omega) ?_
    refine Ob.intro rfl ?_
    refine optK_intro (rdN_all rfl (hkl k)) ?_
    refine Ob.intro (show (k + 1) * 16 ≤ 140737488355328 ∧ k + 1 ≤ 9223372036854775807 by omega) ?_
    refine Ob.intro (show (0 : Int) ≤ 50 ∧ (50 : Int) ≤ (r.size : Nat) ∧ (r.size : Int) ≤ (r.size : Nat) by omega) ?_
    refine hK ⟨(k + 1, r.extract (50 : Int).toNat ((r.size : Nat) : Int).toNat), hk2, by rw [hr]; exact rest_ext s k (by omega)⟩ [2] _ ?_ ?_
    · show cuts s.size - k = cuts s.size - (k + 1) + 1
      omega
    · refine ⟨⟨rfl, rfl, True.intro⟩, ⟨.inl ?_, True.intro⟩, rfl, rfl, rfl⟩
      show some (AObj.row (strs (partsK s k) ++ [str (r.extract (0 : Int).toNat (50 : Int).toNat)])) = some (AObj.row (renL _ (strs (partsK s (k + 1)))))
      rw [renL_strs, hr, part_ext s k (by omega)]
      show _ = some (AObj.row (strs (partsK s k ++ [s.extract (50 * k) (50 * (k + 1))])))
      rw [← strs_append]
      rfl
  · have h' : s.size - 50 * k ≤ 50 := by
      have : ¬ (r.size : Int) > 50 := h
      omega
    have hz : cuts s.size = k := by
      rw [hcut] at hk ⊢
      split at hk <;> rename_i h1
      · rw [if_pos h1]; omega
      · rw [if_neg h1]; omega
    refine Ob.intro rfl ?_
    refine optK_intro (rdN_all rfl (hkl k)) ?_
    refine Ob.intro (show (k + 1) * 16 ≤ 140737488355328 ∧ k + 1 ≤ 9223372036854775807 by omega) ?_
    have hend : AV.view (k + 1) (strs (partsK s k ++ [r])) = AV.view (cuts s.size + 1) (strs (partsL s)) := by
      rw [partsL, hz, ← hr]
    refine end0 rfl rfl (frz_strs (cs := strs (partsK s k) ++ [str r]) (L := partsK s k ++ [r]) rfl (by rw [← strs_append]; rfl) (by rw [List.length_append, partsK_length]; rfl)) hend
theorem partsK_get (s : ByteArray) : ∀ (m k : Nat), k < m → (partsK s m)[k]? = some (s.extract (50 * k) (50 * (k + 1)))
  | 0, k, h => by omega
  | m + 1, k, h => by
    simp only [partsK]
    rcases Nat.lt_or_ge k m with h1 | h1
    · rw [List.getElem?_append_left (by rw [partsK_length]; exact h1)]
      exact partsK_get s m k h1
    · have : k = m := by omega
      subst this
      rw [List.getElem?_append_right (by rw [partsK_length]; exact Nat.le_refl _), partsK_length, Nat.sub_self]
      rfl
theorem cuts_le (n : Nat) : 50 * cuts n ≤ n ∧ n ≤ 50 * (cuts n + 1) ∧ (0 < n → 50 * cuts n < n) := by
  unfold cuts
  split <;> omega
theorem cuts_lt (n : Nat) : ∀ k, k < cuts n → 50 * (k + 1) ≤ n := fun k h => by
  have := (cuts_le n).1
  omega
theorem part_get (s : ByteArray) (k : Nat) (q : ByteArray) (h : (partsL s)[k]? = some q) (hk : k < cuts s.size + 1) : q = s.extract (min (50 * k) s.size) (min (50 * (k + 1)) s.size) := by
  have hc := cuts_le s.size
  rcases Nat.lt_or_ge k (cuts s.size) with h1 | h1
  · rw [partsL, List.getElem?_append_left (by rw [partsK_length]; exact h1), partsK_get s _ k h1] at h
    have := cuts_lt s.size k h1
    rw [← Option.some.inj h, Nat.min_eq_left (by omega), Nat.min_eq_left (by omega)]
  · have hkc : k = cuts s.size := by omega
    rw [partsL, List.getElem?_append_right (by rw [partsK_length]; omega), partsK_length, hkc, Nat.sub_self] at h
    rw [← Option.some.inj (show some _ = some q from h), hkc, Nat.min_eq_left hc.1, Nat.min_eq_right hc.2.1]
    rfl
def allK (s : ByteArray) (k : Nat) : ByteArray := s.extract 0 (min (50 * k) s.size)
theorem allK_step (s : ByteArray) (k : Nat) (q : ByteArray) (h : (partsL s)[k]? = some q) (hk : k < cuts s.size + 1) : allK s k ++ q = allK s (k + 1) := by
  rw [part_get s k q h hk, allK, ByteArray.extract_append_extract, Nat.zero_min, allK, Nat.max_eq_right (by omega)]
theorem allK_size (s : ByteArray) (k : Nat) : (allK s k).size ≤ s.size := by simp [allK, ByteArray.size_extract]; omega
def KSt (s : ByteArray) : Type := { x : Nat × ByteArray // x.1 ≤ cuts s.size + 1 ∧ x.2 = allK s x.1 }
theorem sectorParts_ok (s : ByteArray) (n : Int) (hs0 : s.size ≤ 140737488351232) (hn : -9223372036854775808 ≤ n ∧ n ≤ 9223372036854775807) : ACalls Try.prog 3 [str s, i64 n] [] (Ret (bo true)) := by
  refine acalls_of_awp hT mixed Try.func3 rfl (by kernel_rfl) (by kernel_rfl) (Nat.le_of_ble_eq_true rfl) ?_
  refine callP awake_ok rfl rfl ?_
  refine forkD (fun _ => end0 rfl rfl rfl rfl) (fun h0 => ?_)
  have hs : s.size ≤ 2000 := by
    have : ¬ (s.size : Int) > 2000 := h0
    omega
  have hcut : cuts s.size = if s.size ≤ 50 then 0 else (s.size - 1) / 50 := rfl
  have hcl := cuts_le s.size
  refine callP (parts_ok s hs) rfl rfl ?_
  refine callP (rParts_ok s hs) rfl rfl ?_
  refine fork (fun h => ?_) (fun h => ?_)
  · simp at h
  refine callP (count_ok s.size (by omega) (by omega)) rfl rfl ?_
  have hcount : countP s.size = ((cuts s.size + 1 : Nat) : Int) := by
    rw [countP, if_neg (by omega), hcut]
    by_cases h5 : s.size ≤ 50
    · rw [if_pos (by omega), if_pos h5]; rfl
    · rw [if_neg (by omega), if_neg h5]; omega
  refine fork (fun h => ?_) (fun h => ?_)
  · rw [hcount] at h
    simp at h
  refine loopI (α := KSt s) (fun x => [(0, str s), (1, i64 n), (5, .view (cuts s.size + 1) (strs (partsL s))), (6, .view (cuts s.size + 1) (strs (partsL s))), (7, str x.val.2), (8, i64 (x.val.1 : Nat))]) (fun k => []) (fun x => cuts s.size + 1 - x.val.1) ⟨(0, ⟨#[]⟩), Nat.zero_le _, by simp [allK]; rfl⟩ [] ⟨⟨rfl, rfl, rfl, rfl, rfl, rfl, True.intro⟩, True.intro, rfl, rfl, rfl⟩ ?_
  intro x K hK
  obtain ⟨⟨k, al⟩, hk, hal⟩ := x
  simp only at hk hal
  refine forkD (fun h => ?_) (fun h => ?_)
  · have hk1 : k < cuts s.size + 1 := by have : (k : Int) < ((cuts s.size + 1 : Nat) : Int) := h; omega
    have hlen : (partsL s).length = cuts s.size + 1 := by rw [partsL, List.length_append, partsK_length]; rfl
    obtain ⟨q, hq⟩ : ∃ q, (partsL s)[k]? = some q := ⟨_, List.getElem?_eq_getElem (by omega)⟩
    have hget : nth (List.drop ((k : Int).toNat * 1) (strs (partsL s))) 0 = some (str q) := by
      rw [nth_eq, List.getElem?_drop, Nat.mul_one, Int.toNat_natCast, Nat.add_zero, strs, List.getElem?_map, hq]
      rfl
    have hb : 0 ≤ (k : Int) ∧ (k : Int) < ((cuts s.size + 1 : Nat) : Int) := by omega
    have hqs : q.size ≤ s.size := by
      rw [part_get s k q hq hk1, ByteArray.size_extract]
      omega
    have hals : al.size ≤ s.size := by rw [hal]; exact allK_size s k
    refine ⟨[0, 0, 0, 0, 0, 0, 0, 0, 0], [[], [], [0, 1], [0, 1, 2], [], [], [4, 5], [4, 5, 6], [0, 1, 2, 3, 4, 5, 6, 7]], [0, 0, 0, 0, 0, 0, 0, 0, 0], [], [[5], [8], [38, 39], [40], [6], [8], [42, 43], [44], [41, 45]], Ob.intro (by kernel_rfl) ?_⟩
    refine Ob.intro hb ?_
    refine optK_intro hget ?_
    refine Ob.intro hb ?_
    refine optK_intro hget ?_
    refine fork (fun g => ?_) (fun g => ?_)
    · have : strEq q q = true := strEq_iff.2 rfl
      rw [this] at g
      cases g
    refine optK_intro hget ?_
    refine same ?_
    refine optK_intro hget ?_
    refine same ?_
    refine Ob.intro hb ?_
    refine optK_intro hget ?_
    refine Ob.intro (show al.size + q.size ≤ 9223372036854775807 by omega) ?_
    refine hK ⟨(k + 1, al ++ q), hk1, by rw [hal]; exact allK_step s k q hq hk1⟩ [] _ ?_ ?_
    · show cuts s.size + 1 - k = cuts s.size + 1 - (k + 1) + 1
      omega
    · refine ⟨⟨rfl, rfl, rfl, rfl, rfl, congrArg i64 (?_ : wrp .i64 ((k : Int) + 1) = ((k + 1 : Nat) : Int)), True.intro⟩, True.intro, rfl, rfl, rfl⟩
      rw [wrpE, wi64]
      omega
  · have hk1 : k = cuts s.size + 1 := by have : ¬ (k : Int) < ((cuts s.size + 1 : Nat) : Int) := h; omega
    have hall : al = s := by
      rw [hal, hk1, allK, Nat.min_eq_right (by omega)]
      exact ByteArray.extract_zero_size
    have heq : strEq al s = true := strEq_iff.2 hall
    refine callP (count_ok n hn.1 hn.2) rfl rfl ?_
    refine forkD (fun h1 => ?_) (fun h1 => ?_)
    · have hc : countP n = 0 := by rw [countP, if_pos h1]
      refine fork (fun h2 => ?_) (fun h2 => by rw [hc] at h2; cases h2)
      refine fork (fun h3 => ?_) (fun h3 => by rw [heq] at h3; cases h3)
      refine end0 rfl rfl rfl rfl
    · refine fork (fun h3 => ?_) (fun h3 => by rw [heq] at h3; cases h3)
      have hc : (n ≤ 50 ∧ countP n = 1) ∨ (50 < n ∧ countP n = (n - 1) / 50 + 1) := by
        rw [countP, if_neg h1]
        by_cases h5 : n ≤ 50
        · rw [if_pos h5]; exact .inl ⟨h5, rfl⟩
        · rw [if_neg h5]; exact .inr ⟨by omega, rfl⟩
      have e1 : wrp .i64 (countP n - 1) = countP n - 1 := by rw [wrpE, wi64]; omega
      have e2 : wrp .i64 ((countP n - 1) * 50) = (countP n - 1) * 50 := by rw [wrpE, wi64]; omega
      have e3 : wrp .i64 (n - 1) = n - 1 := by rw [wrpE, wi64]; omega
      have e4 : wrp .i64 (50 * (countP n - 1)) = 50 * (countP n - 1) := by rw [wrpE, wi64]; omega
      have e5 : wrp .i64 (n - 50 * (countP n - 1)) = n - 50 * (countP n - 1) := by rw [wrpE, wi64]; omega
      refine fork (fun h4 => ?_) (fun h4 => ?_)
      · refine fork (fun h5 => ?_) (fun h5 => ?_)
        · refine fork (fun h6 => ?_) (fun h6 => ?_)
          · refine end0 rfl rfl rfl rfl
          · exfalso
            have h6 := of_decide_eq_false h6
            rw [e1, e4, e5] at h6
            omega
        · exfalso
          have h5 := of_decide_eq_false h5
          rw [e1, e2, e3] at h5
          simp only [] at h5
          split at h5 <;> omega
      · exfalso
        have h4 := of_decide_eq_false h4
        omega
end Go.Proofs.Ytipinhlfajmghaa.A
