/- label: lists that rise, each once. No condition. -/
import Derived.Test.YthebddjpnkimjaaLf
namespace Go.Proofs.Ythebddjpnkimjaa.A
open Go
set_option linter.unusedVariables false
set_option maxRecDepth 100000
set_option pp.maxSteps 1500

def Srt (l : List Nat) : Prop := l.Pairwise (· < ·)
theorem srt_uniq : ∀ {a b : List Nat}, Srt a → Srt b → (∀ x, x ∈ a ↔ x ∈ b) → a = b
  | [], [], _, _, _ => rfl
  | [], y :: b, _, _, h => absurd ((h y).2 (List.mem_cons_self ..)) (List.not_mem_nil)
  | x :: a, [], _, _, h => absurd ((h x).1 (List.mem_cons_self ..)) (List.not_mem_nil)
  | x :: a, y :: b, ha, hb, h => by
    obtain ⟨ha1, ha2⟩ := List.pairwise_cons.1 ha
    obtain ⟨hb1, hb2⟩ := List.pairwise_cons.1 hb
    have hxy : x = y := by
      rcases List.mem_cons.1 ((h x).1 (List.mem_cons_self ..)) with e | e
      · exact e
      · rcases List.mem_cons.1 ((h y).2 (List.mem_cons_self ..)) with e2 | e2
        · exact e2.symm
        · have := hb1 x e
          have := ha1 y e2
          omega
    subst hxy
    rw [srt_uniq ha2 hb2 fun z => ?_]
    constructor
    · intro hz
      rcases List.mem_cons.1 ((h z).1 (List.mem_cons_of_mem _ hz)) with e | e
      · have := ha1 z hz
        omega
      · exact e
    · intro hz
      rcases List.mem_cons.1 ((h z).2 (List.mem_cons_of_mem _ hz)) with e | e
      · have := hb1 z hz
        omega
      · exact e
def putL : List Nat → Nat → List Nat
  | [], t => [t]
  | x :: l, t => if t < x then t :: x :: l else if t = x then x :: l else x :: putL l t
theorem mem_putL (t x : Nat) : ∀ l : List Nat, x ∈ putL l t ↔ x = t ∨ x ∈ l
  | [] => by simp [putL]
  | y :: l => by
    unfold putL
    by_cases h1 : t < y
    · rw [if_pos h1]
      simp
    · rw [if_neg h1]
      by_cases h2 : t = y
      · rw [if_pos h2]
        simp [h2]
      · rw [if_neg h2]
        simp only [List.mem_cons, mem_putL t x l]
        constructor
        · rintro (h | h | h)
          · exact .inr (.inl h)
          · exact .inl h
          · exact .inr (.inr h)
        · rintro (h | h | h)
          · exact .inr (.inl h)
          · exact .inl h
          · exact .inr (.inr h)
theorem len_putL (t : Nat) : ∀ l : List Nat, (putL l t).length ≤ l.length + 1
  | [] => by simp [putL]
  | y :: l => by
    have := len_putL t l
    unfold putL
    by_cases h1 : t < y
    · rw [if_pos h1]
      simp
    · rw [if_neg h1]
      by_cases h2 : t = y
      · rw [if_pos h2]
        simp
      · rw [if_neg h2]
        simp only [List.length_cons]
        omega
theorem srt_putL (t : Nat) : ∀ {l : List Nat}, Srt l → Srt (putL l t)
  | [], _ => by simp [putL, Srt]
  | y :: l, h => by
    obtain ⟨h1, h2⟩ := List.pairwise_cons.1 h
    unfold putL
    by_cases q1 : t < y
    · rw [if_pos q1]
      refine List.pairwise_cons.2 ⟨fun z hz => ?_, h⟩
      rcases List.mem_cons.1 hz with rfl | hz
      · exact q1
      · have := h1 z hz
        omega
    · rw [if_neg q1]
      by_cases q2 : t = y
      · rw [if_pos q2]
        exact h
      · rw [if_neg q2]
        refine List.pairwise_cons.2 ⟨fun z hz => ?_, srt_putL t h2⟩
        rcases (mem_putL t z l).1 hz with rfl | hz
        · omega
        · exact h1 z hz
/-- Of tags, each once, in their order. -/
def ofL (tags : List Nat) : List Nat := tags.foldl putL []
theorem ofL_snoc (l : List Nat) (t : Nat) : ofL (l ++ [t]) = putL (ofL l) t := by unfold ofL; rw [List.foldl_append]; rfl
theorem foldl_put : ∀ (tags l : List Nat), Srt l → Srt (tags.foldl putL l) ∧ ∀ x, x ∈ tags.foldl putL l ↔ x ∈ l ∨ x ∈ tags
  | [], l, h => ⟨h, fun x => by simp⟩
  | t :: tags, l, h => by
    obtain ⟨h1, h2⟩ := foldl_put tags (putL l t) (srt_putL t h)
    refine ⟨h1, fun x => ?_⟩
    rw [List.foldl_cons, h2, mem_putL, List.mem_cons]
    constructor
    · rintro ((h | h) | h)
      · exact .inr (.inl h)
      · exact .inl h
      · exact .inr (.inr h)
    · rintro (h | h | h)
      · exact .inl (.inr h)
      · exact .inl (.inl h)
      · exact .inr h
theorem srt_ofL (tags : List Nat) : Srt (ofL tags) := (foldl_put tags [] List.Pairwise.nil).1
theorem mem_ofL (tags : List Nat) (x : Nat) : x ∈ ofL tags ↔ x ∈ tags := by
  unfold ofL
  rw [(foldl_put tags [] List.Pairwise.nil).2]
  simp
theorem srt_snoc {l : List Nat} {x : Nat} (h : Srt l) (hx : ∀ y ∈ l, y < x) : Srt (l ++ [x]) := by
  unfold Srt
  rw [List.pairwise_append]
  exact ⟨h, List.pairwise_singleton .., fun a ha b hb => by rw [List.mem_singleton.1 hb]; exact hx a ha⟩
theorem ddN_ok (R : List Nat) (hs : SI 0 R.length R) : ∀ n, n ≤ R.length → Srt (ddN R n) ∧ (∀ x, x ∈ ddN R n ↔ ∃ k, k < n ∧ atN R k = x)
  | 0, _ => ⟨List.Pairwise.nil, fun x => by simp [ddN]⟩
  | n + 1, hn => by
    obtain ⟨h1, h2⟩ := ddN_ok R hs n (by omega)
    by_cases hc : n = 0 ∨ atN R n ≠ atN R (n - 1)
    · rw [ddN_new hc]
      refine ⟨srt_snoc h1 fun y hy => ?_, fun x => ?_⟩
      · obtain ⟨k, hk, rfl⟩ := (h2 y).1 hy
        have a1 := hs k n (Nat.zero_le _) hk (by omega)
        have a2 := hs (n - 1) n (Nat.zero_le _) (by omega) (by omega)
        by_cases hkn : k = n - 1
        · subst hkn
          omega
        · have a3 := hs k (n - 1) (Nat.zero_le _) (by omega) (by omega)
          omega
      · rw [List.mem_append, h2, List.mem_singleton]
        constructor
        · rintro (⟨k, hk, e⟩ | e)
          · exact ⟨k, by omega, e⟩
          · exact ⟨n, by omega, e.symm⟩
        · rintro ⟨k, hk, e⟩
          by_cases hkn : k = n
          · subst hkn
            exact .inr e.symm
          · exact .inl ⟨k, by omega, e⟩
    · have hc2 : 0 < n ∧ atN R n = atN R (n - 1) := ⟨by omega, Classical.byContradiction fun h => hc (.inr h)⟩
      rw [ddN_old hc2.1 hc2.2]
      refine ⟨h1, fun x => ?_⟩
      rw [h2]
      constructor
      · rintro ⟨k, hk, e⟩
        exact ⟨k, by omega, e⟩
      · rintro ⟨k, hk, e⟩
        by_cases hkn : k = n
        · subst hkn
          exact ⟨k - 1, by omega, by rw [← hc2.2]; exact e⟩
        · exact ⟨k, by omega, e⟩
theorem mem_atN (R : List Nat) (x : Nat) : x ∈ R ↔ ∃ k, k < R.length ∧ atN R k = x := by
  rw [List.mem_iff_getElem?]
  constructor
  · rintro ⟨k, hk⟩
    have h := (List.getElem?_eq_some_iff.1 hk).1
    refine ⟨k, h, ?_⟩
    rw [atN_some h] at hk
    exact Option.some.inj hk
  · rintro ⟨k, hk, rfl⟩
    exact ⟨k, atN_some hk⟩
/-- What is sorted, and each once, is what the document says. -/
theorem ddN_ofL {R0 R : List Nat} (so : SO 0 R0.length R0 R) (si : SI 0 R0.length R) : ddN R R.length = ofL R0 := by
  rw [← so.len] at si
  obtain ⟨h1, h2⟩ := ddN_ok R si R.length (Nat.le_refl _)
  refine srt_uniq h1 (srt_ofL R0) fun x => ?_
  rw [h2, ← mem_atN, mem_ofL]
  exact so.perm.mem_iff
structure PutSt (l : List Nat) (t : Nat) where
  i : Nat
  put : Bool
  out : List Nat
  hi : i ≤ l.length
  srt : Srt out
  mem : ∀ x, x ∈ out ↔ (x ∈ l.take i ∧ x ≠ t) ∨ (put = true ∧ x = t)
  hp : put = true ↔ ∃ x, x ∈ l.take i ∧ t ≤ x
  len : out.length ≤ l.length + 1
end Go.Proofs.Ythebddjpnkimjaa.A
