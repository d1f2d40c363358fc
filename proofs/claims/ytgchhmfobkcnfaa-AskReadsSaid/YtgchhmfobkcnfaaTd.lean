/- ask: shapes one behind the other; fields, told by the items that are read. No condition. -/
import Derived.Test.YtgchhmfobkcnfaaTc
namespace Go.Proofs.Ytgchhmfobkcnfaa.A
open Go
set_option linter.unusedVariables false
set_option linter.unusedSimpArgs false
set_option maxRecDepth 100000
set_option pp.maxSteps 400

theorem begN_left {L1 L2 : List (Nat × Bool)} {s : ByteArray} : ∀ j, j ≤ L1.length → begN (L1 ++ L2) s j = begN L1 s j
  | 0, _ => rfl
  | j + 1, h => by
    show (match begN (L1 ++ L2) s j with | .err e => Rs.err e | .ok l m => match (L1 ++ L2)[j]? with | none => .ok l m | some p => match rd1P p (rest s m) with | .err e => .err e | .ok x k => .ok (l ++ [x]) (m + k)) = _
    rw [begN_left j (by omega), List.getElem?_append_left (by omega)]
    rfl
theorem begN_right {L1 L2 : List (Nat × Bool)} {s : ByteArray} {l : List It} {m : Nat} (h : begN L1 s L1.length = .ok l m) : ∀ i, i ≤ L2.length → begN (L1 ++ L2) s (L1.length + i) = match begN L2 (rest s m) i with
    | .err e => .err e
    | .ok l2 m2 => .ok (l ++ l2) (m + m2)
  | 0, _ => by
    show begN (L1 ++ L2) s L1.length = .ok (l ++ []) (m + 0)
    rw [begN_left _ (Nat.le_refl _), h, List.append_nil]
    rfl
  | i + 1, hi => by
    show (match begN (L1 ++ L2) s (L1.length + i) with | .err e => Rs.err e | .ok l m => match (L1 ++ L2)[L1.length + i]? with | none => .ok l m | some p => match rd1P p (rest s m) with | .err e => .err e | .ok x k => .ok (l ++ [x]) (m + k)) = match (match begN L2 (rest s m) i with | .err e => Rs.err e | .ok l m => match L2[i]? with | none => .ok l m | some p => match rd1P p (rest (rest s _) m) with | .err e => .err e | .ok x k => .ok (l ++ [x]) (m + k)) with | .err e => .err e | .ok l2 m2 => .ok (l ++ l2) (m + m2)
    rw [begN_right h i (by omega), List.getElem?_append_right (by omega), show L1.length + i - L1.length = i by omega]
    cases begN L2 (rest s m) i with
    | err e => rfl
    | ok l2 m2 =>
      dsimp only
      cases L2[i]? with
      | none => rfl
      | some p =>
        dsimp only
        rw [rest_rest]
        cases rd1P p (rest s (m + m2)) with
        | err e => rfl
        | ok x k => dsimp only; rw [List.append_assoc, Nat.add_assoc]
theorem begP_cat {b1 b2 : List Nat} {L1 L2 : List (Nat × Bool)} (h1 : shP b1 = some L1) (h2 : shP b2 = some L2) (h3 : shP (b1 ++ b2) = some (L1 ++ L2)) (s : ByteArray) : begP (b1 ++ b2) s = match begP b1 s with
    | .err e => .err e
    | .ok l m => match begP b2 (rest s m) with
      | .err e => .err e
      | .ok l2 m2 => .ok (l ++ l2) (m + m2) := by
  unfold begP
  rw [h1, h2, h3]
  dsimp only
  rw [List.length_append]
  cases h : begN L1 s L1.length with
  | err e => exact begN_err (by rw [begN_left _ (Nat.le_refl _)]; exact h) _
  | ok l m => exact begN_right h _ (Nat.le_refl _)
theorem begP_cat_ok {b1 b2 : List Nat} {L1 L2 : List (Nat × Bool)} (h1 : shP b1 = some L1) (h2 : shP b2 = some L2) (h3 : shP (b1 ++ b2) = some (L1 ++ L2)) {s : ByteArray} {l : List It} {m : Nat} (h : begP (b1 ++ b2) s = .ok l m) : ∃ l1 m1 l2 m2, begP b1 s = .ok l1 m1 ∧ begP b2 (rest s m1) = .ok l2 m2 ∧ l = l1 ++ l2 ∧ m = m1 + m2 := by
  rw [begP_cat h1 h2 h3] at h
  cases q1 : begP b1 s with
  | err e => rw [q1] at h; cases h
  | ok l1 m1 =>
    rw [q1] at h
    dsimp only at h
    cases q2 : begP b2 (rest s m1) with
    | err e => rw [q2] at h; cases h
    | ok l2 m2 =>
      rw [q2] at h
      cases h
      exact ⟨_, _, _, _, rfl, q2, rfl, rfl⟩
def finQ (q : Rq) (t : ByteArray) : Option Rq := if t.size = 0 ∧ rqB q = true then some q else none
/-- An item that is a text, or a label, has no number. -/
theorem t_zero {t : ByteArray} {a : Nat} {s1 : ByteArray} {l1 : List Nat} {k1 : List It} {m : Nat} (h : begP [116] t = .ok [.mk a s1 l1 k1] m) : a = 0 := by
  have h := (can_1 sh_1t h).1
  rw [oneP_mk] at h
  split at h
  · rw [if_neg (by decide), if_neg (by decide), if_pos rfl] at h
    split at h
    · rename_i hh
      exact ((emB_k a s1 l1 false true false).1 hh.1).1.resolve_left (by decide)
    · cases h
  · cases h
theorem l_zero {t : ByteArray} {a : Nat} {s1 : ByteArray} {l1 : List Nat} {k1 : List It} {m : Nat} (h : begP [108] t = .ok [.mk a s1 l1 k1] m) : a = 0 := by
  have h := (can_1 sh_1l h).1
  rw [oneP_mk] at h
  split at h
  · rw [if_neg (by decide), if_neg (by decide), if_neg (by decide), if_neg (by decide)] at h
    split at h
    · rename_i hh
      exact ((emB_k a s1 l1 false false true).1 hh.1).1.resolve_left (by decide)
    · cases h
  · cases h
theorem oneP116_zero {n : Nat} {s : ByteArray} {l : List Nat} {k : List It} {b : List Nat} (h : oneP 116 (.mk n s l k) = some b) : n = 0 := by
  rw [oneP_mk] at h
  split at h
  · rw [if_neg (by decide), if_neg (by decide), if_pos rfl] at h
    split at h
    · rename_i hh
      exact ((emB_k n s l false true false).1 hh.1).1.resolve_left (by decide)
    · cases h
  · cases h
theorem ttn_zero {t : ByteArray} {a : Nat} {s1 : ByteArray} {l1 : List Nat} {k1 : List It} {n2 : Nat} {s2 : ByteArray} {l2 : List Nat} {k2 : List It} {n3 : Nat} {s3 : ByteArray} {l3 : List Nat} {k3 : List It} {m : Nat} (h : begP [116, 116, 110] t = .ok [.mk a s1 l1 k1, .mk n2 s2 l2 k2, .mk n3 s3 l3 k3] m) : a = 0 ∧ n2 = 0 := by
  have hp := (beg_can h).1
  unfold printS at hp
  rw [sh_ttn] at hp
  replace hp : cat2 (oneP 116 (.mk a s1 l1 k1)) (cat2 (oneP 116 (.mk n2 s2 l2 k2)) (cat2 (oneP 110 (.mk n3 s3 l3 k3)) (some []))) = some ((byL t).take m) := hp
  obtain ⟨u, v, h1, h2, h3⟩ := cat2_inv hp
  obtain ⟨u2, v2, h4, h5, h6⟩ := cat2_inv h2
  exact ⟨oneP116_zero h1, oneP116_zero h4⟩
/-! Fields, told by their items. -/
section
variable {q : Rq} {t : ByteArray} {a a2 a3 : Nat} {s1 s2 s3 : ByteArray} {l1 l2 l3 : List Nat} {k1 k2 k3 : List It} {m : Nat}
theorem fq_0 (h : begP [110] t = .ok [.mk a s1 l1 k1] m) : fdA 0 q t = if a ≤ 2147483647 then some ({ q with w := (a : Nat) }, m) else none := by
  rw [fdA_n (by decide)]
  unfold fdP smP
  rw [h]
  by_cases hc : a ≤ 2147483647
  · simp only [if_pos hc]
    rfl
  · simp only [if_neg hc]
    rfl
theorem fq_1 (h : begP [108] t = .ok [.mk a s1 l1 k1] m) : fdA 1 q t = some ({ q with l := l1 }, m) := by
  rw [fdA_n (by decide)]
  unfold fdP laP
  rw [h]
  rfl
theorem fq_2 (h : begP [110] t = .ok [.mk a s1 l1 k1] m) : fdA 2 q t = some ({ q with g := a }, m) := by
  rw [fdA_n (by decide)]
  unfold fdP anP
  rw [h]
  rfl
theorem fq_3 (h : begP [98] t = .ok [.mk a s1 l1 k1] m) : fdA 3 q t = if a ≤ 1 then some ({ q with m := decide (a = 1) }, m) else none := by
  rw [fdA_n (by decide)]
  unfold fdP trP
  rw [h]
  by_cases hc : a ≤ 1
  · simp only [if_pos hc]
    rfl
  · simp only [if_neg hc]
    rfl
theorem fq_4 (h : begP [110] t = .ok [.mk a s1 l1 k1] m) : fdA 4 q t = if a ≤ 2147483647 then some ({ q with r := (a : Nat) }, m) else none := by
  rw [fdA_n (by decide)]
  unfold fdP smP
  rw [h]
  by_cases hc : a ≤ 2147483647
  · simp only [if_pos hc]
    rfl
  · simp only [if_neg hc]
    rfl
theorem fq_5 (h : begP [116] t = .ok [.mk a s1 l1 k1] m) : fdA 5 q t = some ({ q with key := s1 }, m) := by
  rw [fdA_n (by decide)]
  unfold fdP teP
  rw [h]
  rfl
theorem fq_6 (h : begP [116] t = .ok [.mk a s1 l1 k1] m) : fdA 6 q t = if (upV s1).2.2.2 = 0 then some ({ q with vn := (upV s1).1, vt := (upV s1).2.1, vb := (upV s1).2.2.1 }, m) else none := by
  rw [fdA_n (by decide)]
  unfold fdP vaP
  rw [h]
  by_cases hc : (upV s1).2.2.2 = 0
  · simp only [if_pos hc]
    rfl
  · simp only [if_neg hc]
    rfl
theorem fq_7 (h : begP [116, 116, 110] t = .ok [.mk a s1 l1 k1, .mk a2 s2 l2 k2, .mk a3 s3 l3 k3] m) : fdA 7 q t = if a3 ≤ 2147483647 then some ({ q with f := s1, t := s2, lim := (a3 : Nat) }, m) else none := by
  rw [fdA_n (by decide)]
  unfold fdP raP
  rw [h]
  by_cases hc : a3 ≤ 2147483647
  · simp only [if_pos hc]
    rfl
  · simp only [if_neg hc]
    rfl
theorem fq_8 (h : begP [110] t = .ok [.mk a s1 l1 k1] m) : fdA 8 q t = if a ≤ 2147483647 then some ({ q with n := (a : Nat) }, m) else none := by
  rw [fdA_n (by decide)]
  unfold fdP smP
  rw [h]
  by_cases hc : a ≤ 2147483647
  · simp only [if_pos hc]
    rfl
  · simp only [if_neg hc]
    rfl
end
def shF : Nat → List Nat
  | 1 => [108]
  | 3 => [98]
  | 5 => [116]
  | 6 => [116]
  | 7 => [116, 116, 110]
  | _ => [110]
/-- A field that is read begins with its shape. -/
theorem fd_shape {f : Nat} (hf : f ≤ 8) {q q' : Rq} {t : ByteArray} {m : Nat} (h : fdA f q t = some (q', m)) : ∃ l, begP (shF f) t = .ok l m := by
  rw [fdA_n (by omega)] at h
  have key : ∀ {b : List Nat} {α : Type} {o : Option (α × Nat)} {g : α × Nat → Rq × Nat} (e : o.map g = some (q', m)) (hg : ∀ x, (g x).2 = x.2) (k : ∀ x j, o = some (x, j) → ∃ l, begP b t = .ok l j), ∃ l, begP b t = .ok l m := by
    intro b α o g e hg k
    obtain ⟨⟨x, j⟩, h1, h2⟩ := map_some e
    have := hg (x, j)
    rw [h2] at this
    obtain ⟨l, hl⟩ := k x j h1
    exact ⟨l, by rw [hl]; exact congrArg _ this.symm⟩
  have hsm : ∀ x j, smP t = some (x, j) → ∃ l, begP [110] t = .ok l j := fun x j hx => by
    unfold smP at hx
    cases hp : begP [110] t with
    | err e => rw [hp] at hx; cases hx
    | ok l i =>
      obtain ⟨n', s, q, k, rfl⟩ := beg_1 sh_1n hp
      rw [hp] at hx
      dsimp only at hx
      split at hx
      · cases hx; exact ⟨_, rfl⟩
      · cases hx
  match f, hf, h with
  | 0, _, h => exact key (show (smP t).map _ = _ from h) (fun _ => rfl) hsm
  | 4, _, h => exact key (show (smP t).map _ = _ from h) (fun _ => rfl) hsm
  | 8, _, h => exact key (show (smP t).map _ = _ from h) (fun _ => rfl) hsm
  | 1, _, h =>
    refine key (show (laP t).map _ = _ from h) (fun _ => rfl) fun x j hx => ?_
    unfold laP at hx
    show ∃ l, begP [108] t = .ok l j
    cases hp : begP [108] t with
    | err e => rw [hp] at hx; cases hx
    | ok l i =>
      obtain ⟨n', s, q, k, rfl⟩ := beg_1 sh_1l hp
      rw [hp] at hx
      cases hx
      exact ⟨_, rfl⟩
  | 2, _, h =>
    refine key (show (anP t).map _ = _ from h) (fun _ => rfl) fun x j hx => ?_
    unfold anP at hx
    show ∃ l, begP [110] t = .ok l j
    cases hp : begP [110] t with
    | err e => rw [hp] at hx; cases hx
    | ok l i =>
      obtain ⟨n', s, q, k, rfl⟩ := beg_1 sh_1n hp
      rw [hp] at hx
      cases hx
      exact ⟨_, rfl⟩
  | 3, _, h =>
    refine key (show (trP t).map _ = _ from h) (fun _ => rfl) fun x j hx => ?_
    unfold trP at hx
    show ∃ l, begP [98] t = .ok l j
    cases hp : begP [98] t with
    | err e => rw [hp] at hx; cases hx
    | ok l i =>
      obtain ⟨n', s, q, k, rfl⟩ := beg_1 sh_1b hp
      rw [hp] at hx
      dsimp only at hx
      split at hx
      · cases hx; exact ⟨_, rfl⟩
      · cases hx
  | 5, _, h =>
    refine key (show (teP t).map _ = _ from h) (fun _ => rfl) fun x j hx => ?_
    unfold teP at hx
    show ∃ l, begP [116] t = .ok l j
    cases hp : begP [116] t with
    | err e => rw [hp] at hx; cases hx
    | ok l i =>
      obtain ⟨n', s, q, k, rfl⟩ := beg_1 sh_1t hp
      rw [hp] at hx
      cases hx
      exact ⟨_, rfl⟩
  | 6, _, h =>
    refine key (show (vaP t).map _ = _ from h) (fun _ => rfl) fun x j hx => ?_
    unfold vaP at hx
    show ∃ l, begP [116] t = .ok l j
    cases hp : begP [116] t with
    | err e => rw [hp] at hx; cases hx
    | ok l i =>
      obtain ⟨n', s, q, k, rfl⟩ := beg_1 sh_1t hp
      rw [hp] at hx
      dsimp only at hx
      split at hx
      · cases hx; exact ⟨_, rfl⟩
      · cases hx
  | 7, _, h =>
    refine key (show (raP t).map _ = _ from h) (fun _ => rfl) fun x j hx => ?_
    unfold raP at hx
    show ∃ l, begP [116, 116, 110] t = .ok l j
    cases hp : begP [116, 116, 110] t with
    | err e => rw [hp] at hx; cases hx
    | ok l i =>
      have hl := begP_length sh_ttn hp
      match l, hl, hx, hp with
      | [.mk a s1 l1 k1, .mk b s2 l2 k2, .mk c s3 l3 k3], _, h0, hp =>
        rw [hp] at h0
        have h : (if c ≤ 2147483647 then some ((s1, s2, c), i) else none) = some (x, j) := h0
        split at h
        · cases h; exact ⟨_, rfl⟩
        · cases h
  | f + 9, h, _ => exact absurd h (by omega)
theorem fd9_shape {q q' : Rq} {t : ByteArray} {m : Nat} (h : fdA 9 q t = some (q', m)) : ∃ l j, begP [110] t = .ok l j := by
  have h : fd9 q t = some (q', m) := h
  unfold fd9 smP at h
  cases hp : begP [110] t with
  | err e => rw [hp] at h; cases h
  | ok l i => exact ⟨_, _, rfl⟩
end Go.Proofs.Ytgchhmfobkcnfaa.A
