/- law03: WirePrints. No condition. -/
import Derived.Test.YtkbpddejafdmdaaWr
import Derived.Test.YtkbpddejafdmdaaWq
import Derived.Test.YtkbpddejafdmdaaOv
namespace Go.Proofs.Ytkbpddejafdmdaa.A
open Go
set_option linter.unusedVariables false
set_option linter.unusedSimpArgs false
set_option maxRecDepth 100000
set_option pp.maxSteps 300

theorem parL_len : ∀ {b : List Nat} {star : Bool} {L : List (Nat × Bool)}, parL star b = some L → L.length ≤ b.length
  | [], true, L, h => by cases h
  | [], false, L, h => by cases h; exact Nat.le_refl _
  | c :: r, star, L, h => by
    have h' : (if c = 42 ∧ star = false then parL true r else if isL c = true then (parL false r).map ((c, star) :: ·) else none) = some L := by cases star <;> exact h
    split at h'
    · have := parL_len h'
      simp only [List.length_cons]
      omega
    · split at h'
      · cases hr : parL false r with
        | none => rw [hr] at h'; cases h'
        | some M =>
          rw [hr] at h'
          cases h'
          have := parL_len hr
          simp only [List.length_cons]
          omega
      · cases h'
theorem shP_len {b : List Nat} {L : List (Nat × Bool)} (h : shP b = some L) : L.length ≤ 40 := by
  unfold shP at h
  split at h
  · rename_i h40
    exact Nat.le_trans (parL_len h) h40
  · cases h
theorem catF_len {α : Type} {f : α → Option (List Nat)} {m : Nat} : ∀ {L : List α} {b : List Nat}, (∀ x ∈ L, ∀ b, f x = some b → b.length ≤ m) → catF f L = some b → b.length ≤ m * L.length
  | [], b, _, h => by cases h; exact Nat.zero_le _
  | x :: r, b, hm, h => by
    have h' : cat2 (f x) (catF f r) = some b := h
    cases h1 : f x with
    | none => rw [h1] at h'; cases h'
    | some b1 =>
      cases h2 : catF f r with
      | none => rw [h1, h2] at h'; cases h'
      | some b2 =>
        rw [h1, h2] at h'
        cases h'
        have g1 := hm x (List.mem_cons_self ..) b1 h1
        have g2 := catF_len (fun y hy => hm y (List.mem_cons_of_mem _ hy)) h2
        rw [List.length_append, List.length_cons, Nat.mul_succ]
        omega
theorem one1_lenB {p : Nat × Bool} {x : It} {b : List Nat} (hw : WI x) (h : one1 (p, x) = some b) : b.length ≤ 14000 := by
  obtain ⟨c, m⟩ := p
  cases m with
  | false =>
    have h' : oneP c x = some b := h
    have := oneP_len hw h'
    omega
  | true =>
    obtain ⟨n, s, l, k⟩ := x
    have h' : listP c (.mk n s l k) = some b := h
    rw [listP_mk] at h'
    split at h'
    · rename_i hh
      cases hk : catP c k with
      | none => rw [hk] at h'; cases h'
      | some b2 =>
        rw [hk] at h'
        cases h'
        rw [catP_F] at hk
        cases hw with
        | mk _ _ _ _ w1 w2 w3 w4 w5 w6 =>
        have g := catF_len (m := 210) (fun x hx b hb => oneP_len (w6 x hx) hb) hk
        have g2 := numN_len10 (show k.length < 18446744073709551616 by omega)
        have g3 : 210 * k.length ≤ 210 * 64 := Nat.mul_le_mul_left _ hh.2
        rw [List.length_append]
        omega
    · cases h'
theorem print_len {sh : List Nat} {l : List It} {b : List Nat} (hw : ∀ x ∈ l, WI x) (h : printS sh l = some b) : b.length ≤ 560000 := by
  unfold printS at h
  cases hL : shP sh with
  | none => rw [hL] at h; cases h
  | some L =>
    rw [hL] at h
    replace h : prtP L l = some b := h
    unfold prtP at h
    split at h
    · have h40 := shP_len hL
      have := catF_len (m := 14000) (fun x hx b hb => one1_lenB (hw x.2 (List.of_mem_zip hx).2) (show one1 (x.1, x.2) = some b from hb)) h
      have hz : (L.zip l).length ≤ 40 := by rw [List.length_zip]; omega
      have : 14000 * (L.zip l).length ≤ 14000 * 40 := Nat.mul_le_mul_left _ hz
      omega
    · cases h
end Go.Proofs.Ytkbpddejafdmdaa.A
