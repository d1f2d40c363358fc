/- label: the laws LabelPacks, LabelOrders. No condition. -/
import Derived.Test.YthebddjpnkimjaaLl
namespace Go.Proofs.Ythebddjpnkimjaa.A
open Go
set_option linter.unusedVariables false
set_option maxRecDepth 100000
set_option pp.maxSteps 1500

/-! ### Packs -/
theorem flat_at : ∀ {l : List Nat} {k j x : Nat}, l[k]? = some x → j < 8 → (l.flatMap be8)[8 * k + j]? = (be8 x)[j]?
  | [], k, j, x, h, _ => by simp at h
  | y :: l, 0, j, x, h, hj => by
    simp at h
    subst h
    rw [List.flatMap_cons, List.getElem?_append_left (by show _ < (beN y 8).length; rw [beN_len]; omega)]
    simp
  | y :: l, k + 1, j, x, h, hj => by
    have hl : (be8 y).length = 8 := beN_len y 8
    rw [List.flatMap_cons, List.getElem?_append_right (by rw [hl]; omega), hl, show 8 * (k + 1) + j - 8 = 8 * k + j by omega]
    exact flat_at (by simpa using h) hj
theorem packN_at {l : List Nat} {k j x : Nat} (h : l[k]? = some x) (hj : j < 8) : (packN l)[1 + 8 * k + j]? = some (x / 256 ^ (7 - j) % 256) := by
  unfold packN
  rw [show 1 + 8 * k + j = (8 * k + j) + 1 by omega, List.getElem?_cons_succ, flat_at h hj, be8_at x j hj]
theorem octB_left {a b : ByteArray} {i : Nat} (h : i < a.size) : octB (a ++ b) i = octB a i := by
  rw [octB_eq, octB_eq, byL_append, List.getD_eq_getElem?_getD, List.getD_eq_getElem?_getD, List.getElem?_append_left (by rw [byL_len]; exact h)]
theorem octB_BA {l : List Nat} (h : ∀ x ∈ l, x < 256) (i : Nat) : octB (BA l) i = l.getD i 0 := by rw [octB_eq, byL_BA h]
theorem size_append (a b : ByteArray) : (a ++ b).size = a.size + b.size := by
  rw [← listB, appendB, List.length_append, listB, listB]
theorem tags_back {l : List Nat} (h6 : l.length ≤ 6) (h64 : ∀ x ∈ l, x < 18446744073709551616) (s : ByteArray) : ∀ k, k ≤ l.length → tagsB (packB l ++ s) k = l.take k
  | 0, _ => by simp [tagsB]
  | k + 1, hk => by
    obtain ⟨x, hx⟩ : ∃ x, l[k]? = some x := ⟨_, List.getElem?_eq_getElem (by omega)⟩
    rw [tagsB, tags_back h6 h64 s k (by omega), take_snocA hx]
    congr 2
    have hv := valB_beN (s := packB l ++ s) (p := 1 + 8 * k) (t := x) (n := 8) (fun j hj => by
      have hlt : 1 + 8 * k + j < (packB l).size := by rw [packB_size]; omega
      rw [octB_left hlt]
      unfold packB
      rw [octB_BA (packN_lt (by omega)), List.getD_eq_getElem?_getD, packN_at hx hj]
      rfl) 8 (Nat.le_refl _)
    rw [hv, Nat.sub_self, Nat.pow_zero, Nat.div_one]
    exact Nat.mod_eq_of_lt (h64 x (List.mem_of_getElem? hx))
theorem unp_pack {l : List Nat} (hr : rightB l = true) (h64 : ∀ x ∈ l, x < 18446744073709551616) (s : ByteArray) : unpL (packB l ++ s) = ⟨l, ((packB l).size : Nat), 0⟩ := by
  have h6 := rightB_len hr
  have hsz := packB_size (l := l)
  have h0 : octB (packB l ++ s) 0 = l.length := by
    rw [octB_left (by omega)]
    unfold packB
    rw [octB_BA (packN_lt (by omega))]
    rfl
  have hall := size_append (packB l) s
  unfold unpL
  rw [h0, tags_back h6 h64 s l.length (Nat.le_refl _), List.take_length, if_neg (by omega), if_neg (by omega), if_neg (by omega), if_pos hr, hsz]
end Go.Proofs.Ythebddjpnkimjaa.A
