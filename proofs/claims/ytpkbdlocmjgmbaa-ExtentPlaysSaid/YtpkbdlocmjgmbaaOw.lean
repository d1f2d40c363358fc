/- Rows of rows: cells told by a list, each element by so many. No condition. -/
import Derived.Test.YtpkbdlocmjgmbaaOu
namespace Go.Proofs.Ytpkbdlocmjgmbaa.A
open Go
set_option linter.unusedVariables false

section
variable {α : Type} {f : α → List AV} {n : Nat}
def flat (f : α → List AV) (L : List α) : List AV := (L.map f).flatten
theorem flat_cons (x : α) (L : List α) : flat f (x :: L) = f x ++ flat f L := rfl
theorem flat_len (hf : ∀ x, (f x).length = n) : ∀ L : List α, (flat f L).length = L.length * n
  | [] => by simp [flat]
  | x :: L => by rw [flat_cons, List.length_append, hf, flat_len hf L, List.length_cons, Nat.add_mul]; omega
theorem flat_drop (hf : ∀ x, (f x).length = n) : ∀ (L : List α) (k : Nat) (r : α), L[k]? = some r → (flat f L).drop (k * n) = f r ++ flat f (L.drop (k + 1))
  | [], k, r, h => by simp at h
  | x :: L, 0, r, h => by
    simp at h
    subst h
    simp [flat_cons]
  | x :: L, k + 1, r, h => by
    have := flat_drop hf L k r (by simpa using h)
    rw [flat_cons, show (k + 1) * n = (f x).length + k * n by rw [hf, Nat.add_mul]; omega, ← List.drop_drop, List.drop_left, this]
    rfl
theorem flat_take (hf : ∀ x, (f x).length = n) {L : List α} {w : Int} {r : α} (h : L[w.toNat]? = some r) : takeN ((flat f L).drop (w.toNat * n)) n = some (f r) := by
  rw [flat_drop hf L _ r h, takeN_eq (by rw [List.length_append, hf]; omega), List.take_append_of_le_length (by rw [hf]; omega), List.take_of_length_le (by rw [hf]; omega)]
theorem flat_takeN (hf : ∀ x, (f x).length = n) {L : List α} {k : Nat} {r : α} (h : L[k]? = some r) : takeN ((flat f L).drop ((k : Int).toNat * n)) n = some (f r) := flat_take hf (w := k) h
theorem renL_append (r : Nat → Nat) : ∀ a b : List AV, renL r (a ++ b) = renL r a ++ renL r b
  | [], _ => rfl
  | x :: a, b => by simp only [List.cons_append, renL, renL_append r a b]
theorem renL_flat (h : ∀ r x, renL r (f x) = f x) (r : Nat → Nat) : ∀ L : List α, renL r (flat f L) = flat f L
  | [] => rfl
  | x :: L => by rw [flat_cons, renL_append, h, renL_flat h r L]
theorem renO_flat (h : ∀ r x, renL r (f x) = f x) (r : Nat → Nat) (L : List α) : renO r (.row (flat f L)) = .row (flat f L) := by simp only [renO, renL_flat h]
theorem belowL_append {m : Nat} : ∀ {a b : List AV}, belowL m a = true → belowL m b = true → belowL m (a ++ b) = true
  | [], _, _, h => h
  | x :: a, b, h, k => by
    cases hx : below m x with
    | false => simp [belowL, hx] at h
    | true =>
      simp only [belowL, hx, List.cons_append, cond_true] at h ⊢
      exact belowL_append h k
theorem belowL_flat {m : Nat} (h : ∀ x, belowL m (f x) = true) : ∀ L : List α, belowL m (flat f L) = true
  | [] => rfl
  | x :: L => belowL_append (h x) (belowL_flat h L)
end
end Go.Proofs.Ytpkbdlocmjgmbaa.A
