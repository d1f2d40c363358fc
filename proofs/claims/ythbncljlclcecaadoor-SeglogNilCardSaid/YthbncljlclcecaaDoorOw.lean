/- Rows of rows: cells told by a list, each element by so many. No condition. -/
import Derived.Test.YthbncljlclcecaaDoorOu
namespace Go.Proofs.YthbncljlclcecaaDoor.A
open Go
set_option linter.unusedVariables false

section
variable {α : Type} {f : α → List AV} {n : Nat}
def flat (f : α → List AV) (L : List α) : List AV := (L.map f).flatten
theorem flat_cons (x : α) (L : List α) : flat f (x :: L) = f x ++ flat f L := rfl
theorem flat_append (L M : List α) : flat f (L ++ M) = flat f L ++ flat f M := by simp [flat]
theorem flat_len (hf : ∀ x, (f x).length = n) : ∀ L : List α, (flat f L).length = L.length * n
  | [] => by simp [flat]
  | x :: L => by rw [flat_cons, List.length_append, hf, flat_len hf L, List.length_cons, Nat.add_mul]; omega
theorem flat_drop (hf : ∀ x, (f x).length = n) : ∀ (L : List α) (k : Nat) (r : α), L[k]? = some r → (flat f L).drop (k * n) = f r ++ flat f (L.drop (k + 1))
  | [], k, r, h => by simp at h
  | x :: L, 0, r, h => by
    simp at h
    subst h
    simp [flat_cons]
  | x :: L, k + 1, r, h => by
    have := flat_drop hf L k r (by simpa using h)
    rw [flat_cons, show (k + 1) * n = (f x).length + k * n by rw [hf, Nat.add_mul]; omega, ← List.drop_drop, List.drop_left, this]
    rfl
theorem flat_take (hf : ∀ x, (f x).length = n) {L : List α} {w : Int} {r : α} (h : L[w.toNat]? = some r) : takeN ((flat f L).drop (w.toNat * n)) n = some (f r) := by
  rw [flat_drop hf L _ r h, takeN_eq (by rw [List.length_append, hf]; omega), List.take_append_of_le_length (by rw [hf]; omega), List.take_of_length_le (by rw [hf]; omega)]
theorem flat_takeN (hf : ∀ x, (f x).length = n) {L : List α} {k : Nat} {r : α} (h : L[k]? = some r) : takeN ((flat f L).drop ((k : Int).toNat * n)) n = some (f r) := flat_take hf (w := k) h
theorem renL_append (r : Nat → Nat) : ∀ a b : List AV, renL r (a ++ b) = renL r a ++ renL r b
  | [], _ => rfl
  | x :: a, b => by simp only [List.cons_append, renL, renL_append r a b]
theorem renL_flat (h : ∀ r x, renL r (f x) = f x) (r : Nat → Nat) : ∀ L : List α, renL r (flat f L) = flat f L
  | [] => rfl
  | x :: L => by rw [flat_cons, renL_append, h, renL_flat h r L]
theorem renO_flat (h : ∀ r x, renL r (f x) = f x) (r : Nat → Nat) (L : List α) : renO r (.row (flat f L)) = .row (flat f L) := by simp only [renO, renL_flat h]
theorem mapO_append {g : AV → Option AV} : ∀ {a b c d : List AV}, mapO g a = some c → mapO g b = some d → mapO g (a ++ b) = some (c ++ d)
  | [], b, c, d, h, k => by
    simp only [mapO, Option.some.injEq] at h
    subst h
    exact k
  | x :: a, b, c, d, h, k => by
    simp only [mapO, List.cons_append] at h ⊢
    cases hx : g x with
    | none => simp [hx] at h
    | some y =>
      simp only [hx] at h ⊢
      cases ha : mapO g a with
      | none => simp [ha] at h
      | some z =>
        simp only [ha, Option.some.injEq] at h
        subst h
        simp only [mapO_append ha k]
        rfl
theorem mapO_flat {g : AV → Option AV} (h : ∀ x, mapO g (f x) = some (f x)) : ∀ L : List α, mapO g (flat f L) = some (flat f L)
  | [] => rfl
  | x :: L => mapO_append (h x) (mapO_flat h L)
end
/-- The end of a function, whatever is to be told of it. -/
theorem endG {T : Tab} {rs : List ResultVar} {n0 : Nat} {R : AEnd → Heap → Prop} {G : Heap} {s : St} {vs : List AV} {v : AV} (hd : s.ds = []) (hv : resV T s rs = some vs) (hf : frz s.H G.length 8 (mkR vs) = some v)
    (hp : PreH G s.H) (hl : n0 ≤ G.length) (hb : belowH G.length G = true) (hR : R (.ret v) G) : endK T rs n0 R .ret s :=
  ⟨hd, G, v, ⟨⟨vs, hv, hf⟩, hp, hl, hb⟩, hR⟩
end Go.Proofs.YthbncljlclcecaaDoor.A
