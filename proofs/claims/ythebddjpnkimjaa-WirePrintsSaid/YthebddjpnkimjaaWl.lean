/- wire: what is read of a shape. No condition. -/
import Derived.Test.YthebddjpnkimjaaWk
namespace Go.Proofs.Ythebddjpnkimjaa.A
open Go
set_option linter.unusedVariables false
set_option linter.unusedSimpArgs false
set_option maxRecDepth 100000
set_option pp.maxSteps 1500

def rd1P (p : Nat × Bool) (s : ByteArray) : Rs It :=
  match p.2 with
  | true => lstP p.1 s
  | false => rdP p.1 s
def begN (L : List (Nat × Bool)) (s : ByteArray) : Nat → Rs (List It)
  | 0 => .ok [] 0
  | j + 1 => match begN L s j with
    | .err e => .err e
    | .ok l m => match L[j]? with
      | none => .ok l m
      | some p => match rd1P p (rest s m) with
        | .err e => .err e
        | .ok x k => .ok (l ++ [x]) (m + k)
def begP (b : List Nat) (s : ByteArray) : Rs (List It) :=
  match shP b with
  | none => .err 1
  | some L => begN L s L.length
theorem begN_ok {L : List (Nat × Bool)} {s : ByteArray} {j : Nat} {l : List It} {m : Nat} {p : Nat × Bool} (h : begN L s j = .ok l m) (hp : L[j]? = some p) : begN L s (j + 1) = match rd1P p (rest s m) with
      | .err e => .err e
      | .ok x k => .ok (l ++ [x]) (m + k) := by
  show (match begN L s j with | .err e => _ | .ok l m => _) = _
  rw [h]
  show (match L[j]? with | none => _ | some p => _) = _
  rw [hp]
theorem begN_err {L : List (Nat × Bool)} {s : ByteArray} {j : Nat} {e : Int} (h : begN L s j = .err e) : ∀ i, begN L s (j + i) = .err e
  | 0 => h
  | i + 1 => by
    show (match begN L s (j + i) with | .err e => _ | .ok l m => _) = _
    rw [begN_err h i]
theorem rdP_le {c : Nat} {s : ByteArray} {x : It} {k : Nat} (h : rdP c s = .ok x k) : 0 < k ∧ k ≤ s.size := by
  unfold rdP at h
  split at h
  · split at h
    · cases h
    · cases h
      omega
  · split at h
    · cases hc : cntP (byL s) with
      | err e => rw [hc] at h; cases h
      | ok n k' =>
        rw [hc] at h
        cases h
        have := cntP_lt hc
        rw [byL_len] at this
        exact ⟨this.2.1, this.2.2⟩
    · split at h
      · cases hc : cntM 200 (byL s) with
        | err e => rw [hc] at h; cases h
        | ok n k' =>
          rw [hc] at h
          dsimp only at h
          have := cntM_lt hc
          rw [byL_len] at this
          split at h
          · cases h
          · cases h
            omega
      · split at h
        · split at h
          · cases h
          · split at h
            · cases h
              omega
            · cases h
        · split at h
          · rename_i he
            cases h
            have := unpL_n he
            exact ⟨this.2.2.1, this.2.1⟩
          · cases h
theorem unpL_e {s : ByteArray} : (unpL s).e = 0 ∨ 0 < (unpL s).e := by
  unfold unpL
  repeat' split
  all_goals first | (left; rfl) | (right; show (0 : Int) < 3; decide) | (right; show (0 : Int) < 4; decide)
theorem cntG_e : ∀ (b : List Nat) (i acc : Nat) (e : Int), cntG b i acc = .err e → 0 < e
  | [], i, acc, e, h => by cases h; decide
  | c :: r, i, acc, e, h => by
    rw [cntG_cons] at h
    split at h
    · cases h; decide
    · split at h
      · split at h
        · cases h; decide
        · cases h
      · exact cntG_e r _ _ e h
theorem cntM_e {m : Nat} {b : List Nat} {e : Int} (h : cntM m b = .err e) : 0 < e := by
  unfold cntM at h
  cases hc : cntP b with
  | err e' => rw [hc] at h; cases h; exact cntG_e _ _ _ _ hc
  | ok n k =>
    rw [hc] at h
    dsimp only at h
    split at h
    · cases h
    · cases h; decide
theorem ukE_e (s : ByteArray) : ukE s = 0 ∨ 0 < ukE s := by
  unfold ukE
  split
  · right; decide
  · split
    · right; decide
    · left; rfl
theorem rdP_e {c : Nat} {s : ByteArray} {e : Int} (h : rdP c s = .err e) : 0 < e := by
  unfold rdP at h
  split at h
  · split at h
    · cases h; decide
    · cases h
  · split at h
    · cases hc : cntP (byL s) with
      | err e' => rw [hc] at h; cases h; exact cntG_e _ _ _ _ hc
      | ok n k' => rw [hc] at h; cases h
    · split at h
      · cases hc : cntM 200 (byL s) with
        | err e' => rw [hc] at h; cases h; exact cntM_e hc
        | ok n k' =>
          rw [hc] at h
          dsimp only at h
          split at h
          · cases h; decide
          · cases h
      · split at h
        · split at h
          · cases h; decide
          · split at h
            · cases h
            · rename_i hu
              cases h
              exact (ukE_e _).resolve_left hu
        · split at h
          · cases h
          · rename_i hu
            cases h
            exact unpL_e.resolve_left hu
theorem kidsN_le {c : Nat} {s : ByteArray} : ∀ {j : Nat} {l : List It} {m : Nat}, kidsN c s j = .ok l m → m ≤ s.size
  | 0, l, m, h => by cases h; exact Nat.zero_le _
  | j + 1, l, m, h => by
    cases hq : kidsN c s j with
    | err e => rw [show kidsN c s (j + 1) = _ from kidsN_err hq 1] at h; cases h
    | ok l2 m2 =>
      rw [kidsN_ok hq] at h
      cases hr : rdP c (rest s m2) with
      | err e => rw [hr] at h; cases h
      | ok x k =>
        rw [hr] at h
        cases h
        have h1 := kidsN_le hq
        have h2 := (rdP_le hr).2
        rw [rest_size] at h2
        omega
theorem kidsN_e {c : Nat} {s : ByteArray} : ∀ {j : Nat} {e : Int}, kidsN c s j = .err e → 0 < e
  | 0, e, h => by cases h
  | j + 1, e, h => by
    cases hq : kidsN c s j with
    | err e' =>
      rw [show kidsN c s (j + 1) = _ from kidsN_err hq 1] at h
      cases h
      exact kidsN_e hq
    | ok l2 m2 =>
      rw [kidsN_ok hq] at h
      cases hr : rdP c (rest s m2) with
      | err e' => rw [hr] at h; cases h; exact rdP_e hr
      | ok x k => rw [hr] at h; cases h
theorem lstP_le {c : Nat} {s : ByteArray} {x : It} {k : Nat} (h : lstP c s = .ok x k) : 0 < k ∧ k ≤ s.size := by
  unfold lstP at h
  cases hc : cntM 64 (byL s) with
  | err e => rw [hc] at h; cases h
  | ok n k' =>
    rw [hc] at h
    dsimp only at h
    have h1 := cntM_lt hc
    rw [byL_len] at h1
    cases hq : kidsN c (rest s k') n with
    | err e => rw [hq] at h; cases h
    | ok l m =>
      rw [hq] at h
      cases h
      have h2 := kidsN_le hq
      rw [rest_size] at h2
      omega
theorem lstP_e {c : Nat} {s : ByteArray} {e : Int} (h : lstP c s = .err e) : 0 < e := by
  unfold lstP at h
  cases hc : cntM 64 (byL s) with
  | err e' => rw [hc] at h; cases h; exact cntM_e hc
  | ok n k' =>
    rw [hc] at h
    dsimp only at h
    cases hq : kidsN c (rest s k') n with
    | err e' => rw [hq] at h; cases h; exact kidsN_e hq
    | ok l m => rw [hq] at h; cases h
theorem rd1P_le {p : Nat × Bool} {s : ByteArray} {x : It} {k : Nat} (h : rd1P p s = .ok x k) : 0 < k ∧ k ≤ s.size := by
  obtain ⟨c, m⟩ := p
  cases m with
  | true => exact lstP_le h
  | false => exact rdP_le h
theorem rd1P_e {p : Nat × Bool} {s : ByteArray} {e : Int} (h : rd1P p s = .err e) : 0 < e := by
  obtain ⟨c, m⟩ := p
  cases m with
  | true => exact lstP_e h
  | false => exact rdP_e h
theorem begN_le {L : List (Nat × Bool)} {s : ByteArray} : ∀ {j : Nat} {l : List It} {m : Nat}, j ≤ L.length → begN L s j = .ok l m → m ≤ s.size ∧ l.length = j
  | 0, l, m, _, h => by cases h; exact ⟨Nat.zero_le _, rfl⟩
  | j + 1, l, m, hj, h => by
    obtain ⟨p, hp⟩ : ∃ p, L[j]? = some p := ⟨_, List.getElem?_eq_getElem (by omega)⟩
    cases hq : begN L s j with
    | err e => rw [show begN L s (j + 1) = _ from begN_err hq 1] at h; cases h
    | ok l2 m2 =>
      rw [begN_ok hq hp] at h
      cases hr : rd1P p (rest s m2) with
      | err e => rw [hr] at h; cases h
      | ok x k =>
        rw [hr] at h
        cases h
        have h1 := begN_le (by omega) hq
        have h2 := (rd1P_le hr).2
        rw [rest_size] at h2
        rw [List.length_append]
        exact ⟨by omega, by rw [h1.2]; rfl⟩
theorem begN_e {L : List (Nat × Bool)} {s : ByteArray} : ∀ {j : Nat} {e : Int}, j ≤ L.length → begN L s j = .err e → 0 < e
  | 0, e, _, h => by cases h
  | j + 1, e, hj, h => by
    obtain ⟨p, hp⟩ : ∃ p, L[j]? = some p := ⟨_, List.getElem?_eq_getElem (by omega)⟩
    cases hq : begN L s j with
    | err e' =>
      rw [show begN L s (j + 1) = _ from begN_err hq 1] at h
      cases h
      exact begN_e (by omega) hq
    | ok l2 m2 =>
      rw [begN_ok hq hp] at h
      cases hr : rd1P p (rest s m2) with
      | err e' => rw [hr] at h; cases h; exact rd1P_e hr
      | ok x k => rw [hr] at h; cases h
end Go.Proofs.Ythebddjpnkimjaa.A
