/- The functions of sector: parts. No condition. -/
import Derived.Test.YtipinhlfajmghaaSb
namespace Go.Proofs.Ytipinhlfajmghaa.A
open Go
set_option linter.unusedVariables false
set_option maxRecDepth 100000
set_option pp.maxSteps 1500

theorem awake_ok : ACalls Try.prog 4 [] [] (Ret (bo true)) := by
  refine acalls_of_awp hT mixed Try.func4 rfl (by kernel_rfl) (by kernel_rfl) (Nat.le_of_ble_eq_true rfl) ?_
  have hp := pack_ok 1 0 1 0 1 ⟨#[120]⟩ (by decide) (by decide)
  rw [if_pos (by decide), if_pos (by decide)] at hp
  refine callP hp rfl rfl ?_
  refine callP (count_ok 51 (by decide) (by decide)) rfl rfl ?_
  refine callP (count_ok 0 (by decide) (by decide)) rfl rfl ?_
  refine end0 rfl rfl rfl rfl
/-- A text's rows of parts. -/
def strs (l : List ByteArray) : List AV := l.map str
theorem renL_strs (r : Nat → Nat) : ∀ l : List ByteArray, renL r (strs l) = strs l
  | [] => rfl
  | n :: l => by simp only [strs, List.map_cons, renL, str, ren]; exact congrArg _ (renL_strs r l)
theorem strs_append (l m : List ByteArray) : strs l ++ strs m = strs (l ++ m) := by simp [strs]
theorem strs_length (l : List ByteArray) : (strs l).length = l.length := by simp [strs]
/-- The parts ahead of the last, and the last: k of them are cut off. -/
def partsK (s : ByteArray) : Nat → List ByteArray
  | 0 => []
  | k + 1 => partsK s k ++ [s.extract (50 * k) (50 * (k + 1))]
def restK (s : ByteArray) (k : Nat) : ByteArray := s.extract (50 * k) s.size
theorem partsK_length (s : ByteArray) : ∀ k, (partsK s k).length = k
  | 0 => rfl
  | k + 1 => by simp [partsK, partsK_length s k]
/-- How many are cut off. -/
def cuts (n : Nat) : Nat := if n ≤ 50 then 0 else (n - 1) / 50
def partsL (s : ByteArray) : List ByteArray := partsK s (cuts s.size) ++ [restK s (cuts s.size)]
theorem rest_size (s : ByteArray) (k : Nat) : (restK s k).size = s.size - 50 * k := by simp [restK, ByteArray.size_extract]
theorem rest_ext (s : ByteArray) (k : Nat) (hk : 50 * (k + 1) ≤ s.size) : (restK s k).extract (50 : Int).toNat (((restK s k).size : Nat) : Int).toNat = restK s (k + 1) := by
  simp only [restK, ByteArray.size_extract, Int.toNat_natCast]
  rw [ByteArray.extract_extract]
  have e1 : 50 * k + (50 : Int).toNat = 50 * (k + 1) := by
    show 50 * k + 50 = _
    omega
  have e2 : min (50 * k + (min s.size s.size - 50 * k)) s.size = s.size := by omega
  rw [e1, e2]
theorem part_ext (s : ByteArray) (k : Nat) (hk : 50 * (k + 1) ≤ s.size) : (restK s k).extract (0 : Int).toNat (50 : Int).toNat = s.extract (50 * k) (50 * (k + 1)) := by
  simp only [restK]
  rw [ByteArray.extract_extract]
  have e1 : 50 * k + (0 : Int).toNat = 50 * k := rfl
  have e2 : min (50 * k + (50 : Int).toNat) s.size = 50 * (k + 1) := by
    show min (50 * k + 50) s.size = _
    omega
  rw [e1, e2]
def PSt (s : ByteArray) : Type := { x : Nat × ByteArray // x.1 ≤ cuts s.size ∧ x.2 = restK s x.1 }
theorem frz_strs {H : Heap} {i n : Nat} {cs : List AV} {L : List ByteArray} (h : nth H i = some (.row cs)) (hc : cs = strs L) (hn : n = L.length) : frz H 0 8 (mkR [.slc i 0 n 1]) = some (.view n (strs L)) := by
  have h1 : rdN H i 0 (n * 1) = some cs := rdN_all h (by rw [hc, strs_length]; omega)
  have h2 : mapO (frz0 H 0 7) cs = some (strs L) := by
    rw [hc]
    exact mapO_map (f := frz0 H 0 7) (g := str) (h := str) (fun x => rfl) L
  have h3 : Nat.blt i 0 = false := by cases i <;> rfl
  simp only [mkR, frz, frz0, h3, cond_false, h1, h2]
theorem parts_ok (s : ByteArray) (hs : s.size ≤ 2000) : ACalls Try.prog 5 [str s] [] (Ret (.view (cuts s.size + 1) (strs (partsL s)))) := by
  have hcut : cuts s.size = if s.size ≤ 50 then 0 else (s.size - 1) / 50 := rfl
  refine acalls_of_awp hT mixed Try.func5 rfl (by kernel_rfl) (by kernel_rfl) (Nat.le_of_ble_eq_true rfl) ?_
  refine loopI (α := PSt s) (fun x => [(0, str x.val.2), (3, match x.val.1 with | 0 => AV.sc (.slice none 0 0) | k + 1 => .slc 0 0 (k + 1) 1)])
    (fun x => match x.val.1 with | 0 => [] | k + 1 => [.row (strs (partsK s (k + 1)))]) (fun x => cuts s.size - x.val.1) ⟨(0, s), Nat.zero_le _, by simp [restK]⟩ [] ⟨⟨rfl, rfl, True.intro⟩, True.intro, rfl, rfl, rfl⟩ ?_
  have hkl : ∀ k, (k + 1) * 1 = (strs (partsK s (k + 1))).length := fun k => by rw [strs_length, partsK_length, Nat.mul_one]
  intro x K hK
  obtain ⟨⟨k, r⟩, hk, hr⟩ := x
  simp only at hk hr
  have hrs : r.size = s.size - 50 * k := by rw [hr]; exact rest_size s k
  cases k with
  | zero =>
    refine forkD (fun h => ?_) (fun h => ?_)
    · have h' : s.size > 50 := by
        have : (r.size : Int) > 50 := h
        omega
      have hk2 : 1 ≤ cuts s.size := by
        rw [hcut]
        split <;> omega
      refine Ob.intro (show (0 : Int) ≤ 0 ∧ (0 : Int) ≤ 50 ∧ (50 : Int) ≤ (r.size : Nat) by omega) ?_
      refine Ob.intro rfl ?_
      refine Ob.intro (show 1 * 16 ≤ 140737488355328 ∧ 1 ≤ 9223372036854775807 by decide) ?_
      refine Ob.intro (show (0 : Int) ≤ 50 ∧ (50 : Int) ≤ (r.size : Nat) ∧ (r.size : Int) ≤ (r.size : Nat) by omega) ?_
      refine hK ⟨(1, r.extract (50 : Int).toNat ((r.size : Nat) : Int).toNat), hk2, by rw [hr]; exact rest_ext s 0 (by omega)⟩ [1] _ ?_ ?_
      · show cuts s.size - 0 = cuts s.size - 1 + 1
        omega
      · refine ⟨⟨rfl, rfl, True.intro⟩, ⟨.inl ?_, True.intro⟩, rfl, rfl, rfl⟩
        show some (AObj.row [str (r.extract (0 : Int).toNat (50 : Int).toNat)]) = some (AObj.row (renL _ (strs (partsK s 1))))
        rw [renL_strs, hr, part_ext s 0 (by omega)]
        rfl
    · have h' : s.size ≤ 50 := by
        have : ¬ (r.size : Int) > 50 := h
        omega
      refine Ob.intro rfl ?_
      refine Ob.intro (show 1 * 16 ≤ 140737488355328 ∧ 1 ≤ 9223372036854775807 by decide) ?_
      have hz : cuts s.size = 0 := by rw [hcut, if_pos h']
      have hend : AV.view 1 [str r] = AV.view (cuts s.size + 1) (strs (partsL s)) := by
        rw [partsL, hz, ← hr]
        rfl
      refine end0 rfl rfl rfl hend
  | succ k =>
    have hkk : 50 * (k + 1) < s.size := by
      rw [hcut] at hk
      split at hk <;> omega
    refine forkD (fun h => ?_) (fun h => ?_)
    · have h' : s.size - 50 * (k + 1) > 50 := by
        have : (r.size : Int) > 50 := h
        omega
      have hk2 : k + 1 + 1 ≤ cuts s.size := by
        rw [hcut]
        split <;> omega
      refine Ob.intro (show (0 : Int) ≤ 0 ∧ (0 : Int) ≤ 50 ∧ (50 : Int) ≤ (r.size : Nat) by omega) ?_
      refine Ob.intro rfl ?_
      refine optK_intro (rdN_all rfl (hkl k)) ?_
      refine Ob.intro (show (k + 1 + 1) * 16 ≤ 140737488355328 ∧ k + 1 + 1 ≤ 9223372036854775807 by omega) ?_
      refine Ob.intro (show (0 : Int) ≤ 50 ∧ (50 : Int) ≤ (r.size : Nat) ∧ (r.size : Int) ≤ (r.size : Nat) by omega) ?_
      refine hK ⟨(k + 1 + 1, r.extract (50 : Int).toNat ((r.size : Nat) : Int).toNat), hk2, by rw [hr]; exact rest_ext s (k + 1) (by omega)⟩ [2] _ ?_ ?_
      · show cuts s.size - (k + 1) = cuts s.size - (k + 1 + 1) + 1
        omega
      · refine ⟨⟨rfl, rfl, True.intro⟩, ⟨.inl ?_, True.intro⟩, rfl, rfl, rfl⟩
        show some (AObj.row (strs (partsK s (k + 1)) ++ [str (r.extract (0 : Int).toNat (50 : Int).toNat)])) = some (AObj.row (renL _ (strs (partsK s (k + 1 + 1)))))
        rw [renL_strs, hr, part_ext s (k + 1) (by omega)]
        show _ = some (AObj.row (strs (partsK s (k + 1) ++ [s.extract (50 * (k + 1)) (50 * (k + 1 + 1))])))
        rw [← strs_append]
        rfl
    · have h' : s.size - 50 * (k + 1) ≤ 50 := by
        have : ¬ (r.size : Int) > 50 := h
        omega
      have hz : cuts s.size = k + 1 := by
        rw [hcut]
        split <;> omega
      refine Ob.intro rfl ?_
      refine optK_intro (rdN_all rfl (hkl k)) ?_
      refine Ob.intro (show (k + 1 + 1) * 16 ≤ 140737488355328 ∧ k + 1 + 1 ≤ 9223372036854775807 by omega) ?_
      have hend : AV.view (k + 1 + 1) (strs (partsK s (k + 1) ++ [r])) = AV.view (cuts s.size + 1) (strs (partsL s)) := by
        rw [partsL, hz, ← hr]
      refine end0 rfl rfl (frz_strs (cs := strs (partsK s (k + 1)) ++ [str r]) (L := partsK s (k + 1) ++ [r]) rfl (by rw [← strs_append]; rfl) (by rw [List.length_append, partsK_length]; rfl)) hend
end Go.Proofs.Ytipinhlfajmghaa.A
