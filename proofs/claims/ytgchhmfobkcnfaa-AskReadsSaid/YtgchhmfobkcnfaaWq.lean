/- wire: what is read of a shape. No condition. -/
import Derived.Test.YtgchhmfobkcnfaaWk
import Derived.Test.YtgchhmfobkcnfaaLm
namespace Go.Proofs.Ytgchhmfobkcnfaa.A
open Go
set_option linter.unusedVariables false
set_option linter.unusedSimpArgs false
set_option maxRecDepth 100000
set_option pp.maxSteps 1500

def rd1P (p : Nat × Bool) (s : ByteArray) : Rs It :=
  match p.2 with
  | true => lstP p.1 s
  | false => rdP p.1 s
def begN (L : List (Nat × Bool)) (s : ByteArray) : Nat → Rs (List It)
  | 0 => .ok [] 0
  | j + 1 => match begN L s j with
    | .err e => .err e
    | .ok l m => match L[j]? with
      | none => .ok l m
      | some p => match rd1P p (rest s m) with
        | .err e => .err e
        | .ok x k => .ok (l ++ [x]) (m + k)
def begP (b : List Nat) (s : ByteArray) : Rs (List It) :=
  match shP b with
  | none => .err 1
  | some L => begN L s L.length
theorem begN_ok {L : List (Nat × Bool)} {s : ByteArray} {j : Nat} {l : List It} {m : Nat} {p : Nat × Bool} (h : begN L s j = .ok l m) (hp : L[j]? = some p) : begN L s (j + 1) = match rd1P p (rest s m) with
      | .err e => .err e
      | .ok x k => .ok (l ++ [x]) (m + k) := by
  show (match begN L s j with | .err e => _ | .ok l m => _) = _
  rw [h]
  show (match L[j]? with | none => _ | some p => _) = _
  rw [hp]
theorem begN_err {L : List (Nat × Bool)} {s : ByteArray} {j : Nat} {e : Int} (h : begN L s j = .err e) : ∀ i, begN L s (j + i) = .err e
  | 0 => h
  | i + 1 => by
    show (match begN L s (j + i) with | .err e => _ | .ok l m => _) = _
    rw [begN_err h i]
theorem rdP_le {c : Nat} {s : ByteArray} {x : It} {k : Nat} (h : rdP c s = .ok x k) : 0 < k ∧ k ≤ s.size := by
  unfold rdP at h
  split at h
  · split at h
    · cases h
    · cases h
      omega
  · split at h
    · cases hc : cntP (byL s) with
      | err e => rw [hc] at h; cases h
      | ok n k' =>
        rw [hc] at h
        cases h
        have := cntP_lt hc
        rw [byL_len] at this
        exact ⟨this.2.1, this.2.2⟩
    · split at h
      · cases hc : cntM 200 (byL s) with
        | err e => rw [hc] at h; cases h
        | ok n k' =>
          rw [hc] at h
          dsimp only at h
          have := cntM_lt hc
          rw [byL_len] at this
          split at h
          · cases h
          · cases h
            omega
      · split at h
        · split at h
          · cases h
          · split at h
            · cases h
              omega
            · cases h
        · split at h
          · rename_i he
            cases h
            have := unpL_n he
            exact ⟨this.2.2.1, this.2.1⟩
          · cases h
theorem unpL_e {s : ByteArray} : (unpL s).e = 0 ∨ 0 < (unpL s).e := by
  unfold unpL
  repeat' split
  all_goals first | (left; rfl) | (right; show (0 : Int) < 3; decide) | (right; show (0 : Int) < 4; decide)
theorem cntG_e : ∀ (b : List Nat) (i acc : Nat) (e : Int), cntG b i acc = .err e → 0 < e
  | [], i, acc, e, h => by cases h; decide
  | c :: r, i, acc, e, h => by
    rw [cntG_cons] at h
    split at h
    · cases h; decide
    · split at h
      · split at h
        · cases h; decide
        · cases h
      · exact cntG_e r _ _ e h
theorem cntM_e {m : Nat} {b : List Nat} {e : Int} (h : cntM m b = .err e) : 0 < e := by
  unfold cntM at h
  cases hc : cntP b with
  | err e' => rw [hc] at h; cases h; exact cntG_e _ _ _ _ hc
  | ok n k =>
    rw [hc] at h
    dsimp only at h
    split at h
    · cases h
    · cases h; decide
theorem ukE_e (s : ByteArray) : ukE s = 0 ∨ 0 < ukE s := by
  unfold ukE
  split
  · right; decide
  · split
    · right; decide
    · left; rfl
theorem rdP_e {c : Nat} {s : ByteArray} {e : Int} (h : rdP c s = .err e) : 0 < e := by
  unfold rdP at h
  split at h
  · split at h
    · cases h; decide
    · cases h
  · split at h
    · cases hc : cntP (byL s) with
      | err e' => rw [hc] at h; cases h; exact cntG_e _ _ _ _ hc
      | ok n k' => rw [hc] at h; cases h
    · split at h
      · cases hc : cntM 200 (byL s) with
        | err e' => rw [hc] at h; cases h; exact cntM_e hc
        | ok n k' =>
          rw [hc] at h
          dsimp only at h
          split at h
          · cases h; decide
          · cases h
      · split at h
        · split at h
          · cases h; decide
          · split at h
            · cases h
            · rename_i hu
              cases h
              exact (ukE_e _).resolve_left hu
        · split at h
          · cases h
          · rename_i hu
            cases h
            exact unpL_e.resolve_left hu
theorem kidsN_le {c : Nat} {s : ByteArray} : ∀ {j : Nat} {l : List It} {m : Nat}, kidsN c s j = .ok l m → m ≤ s.size
  | 0, l, m, h => by cases h; exact Nat.zero_le _
  | j + 1, l, m, h => by
    cases hq : kidsN c s j with
    | err e => rw [show kidsN c s (j + 1) = _ from kidsN_err hq 1] at h; cases h
    | ok l2 m2 =>
      rw [kidsN_ok hq] at h
      cases hr : rdP c (rest s m2) with
      | err e => rw [hr] at h; cases h
      | ok x k =>
        rw [hr] at h
        cases h
        have h1 := kidsN_le hq
        have h2 := (rdP_le hr).2
        rw [rest_size] at h2
        omega
theorem kidsN_e {c : Nat} {s : ByteArray} : ∀ {j : Nat} {e : Int}, kidsN c s j = .err e → 0 < e
  | 0, e, h => by cases h
  | j + 1, e, h => by
    cases hq : kidsN c s j with
    | err e' =>
      rw [show kidsN c s (j + 1) = _ from kidsN_err hq 1] at h
      cases h
      exact kidsN_e hq
    | ok l2 m2 =>
      rw [kidsN_ok hq] at h
      cases hr : rdP c (rest s m2) with
      | err e' => rw [hr] at h; cases h; exact rdP_e hr
      | ok x k => rw [hr] at h; cases h
theorem lstP_le {c : Nat} {s : ByteArray} {x : It} {k : Nat} (h : lstP c s = .ok x k) : 0 < k ∧ k ≤ s.size := by
  unfold lstP at h
  cases hc : cntM 64 (byL s) with
  | err e => rw [hc] at h; cases h
  | ok n k' =>
    rw [hc] at h
    dsimp only at h
    have h1 := cntM_lt hc
    rw [byL_len] at h1
    cases hq : kidsN c (rest s k') n with
    | err e => rw [hq] at h; cases h
    | ok l m =>
      rw [hq] at h
      cases h
      have h2 := kidsN_le hq
      rw [rest_size] at h2
      omega
theorem lstP_e {c : Nat} {s : ByteArray} {e : Int} (h : lstP c s = .err e) : 0 < e := by
  unfold lstP at h
  cases hc : cntM 64 (byL s) with
  | err e' => rw [hc] at h; cases h; exact cntM_e hc
  | ok n k' =>
    rw [hc] at h
    dsimp only at h
    cases hq : kidsN c (rest s k') n with
    | err e' => rw [hq] at h; cases h; exact kidsN_e hq
    | ok l m => rw [hq] at h; cases h
theorem rd1P_le {p : Nat × Bool} {s : ByteArray} {x : It} {k : Nat} (h : rd1P p s = .ok x k) : 0 < k ∧ k ≤ s.size := by
  obtain ⟨c, m⟩ := p
  cases m with
  | true => exact lstP_le h
  | false => exact rdP_le h
theorem rd1P_e {p : Nat × Bool} {s : ByteArray} {e : Int} (h : rd1P p s = .err e) : 0 < e := by
  obtain ⟨c, m⟩ := p
  cases m with
  | true => exact lstP_e h
  | false => exact rdP_e h
theorem begN_le {L : List (Nat × Bool)} {s : ByteArray} : ∀ {j : Nat} {l : List It} {m : Nat}, j ≤ L.length → begN L s j = .ok l m → m ≤ s.size ∧ l.length = j
  | 0, l, m, _, h => by cases h; exact ⟨Nat.zero_le _, rfl⟩
  | j + 1, l, m, hj, h => by
    obtain ⟨p, hp⟩ : ∃ p, L[j]? = some p := ⟨_, List.getElem?_eq_getElem (by omega)⟩
    cases hq : begN L s j with
    | err e => rw [show begN L s (j + 1) = _ from begN_err hq 1] at h; cases h
    | ok l2 m2 =>
      rw [begN_ok hq hp] at h
      cases hr : rd1P p (rest s m2) with
      | err e => rw [hr] at h; cases h
      | ok x k =>
        rw [hr] at h
        cases h
        have h1 := begN_le (by omega) hq
        have h2 := (rd1P_le hr).2
        rw [rest_size] at h2
        rw [List.length_append]
        exact ⟨by omega, by rw [h1.2]; rfl⟩
theorem begN_e {L : List (Nat × Bool)} {s : ByteArray} : ∀ {j : Nat} {e : Int}, j ≤ L.length → begN L s j = .err e → 0 < e
  | 0, e, _, h => by cases h
  | j + 1, e, hj, h => by
    obtain ⟨p, hp⟩ : ∃ p, L[j]? = some p := ⟨_, List.getElem?_eq_getElem (by omega)⟩
    cases hq : begN L s j with
    | err e' =>
      rw [show begN L s (j + 1) = _ from begN_err hq 1] at h
      cases h
      exact begN_e (by omega) hq
    | ok l2 m2 =>
      rw [begN_ok hq hp] at h
      cases hr : rd1P p (rest s m2) with
      | err e' => rw [hr] at h; cases h; exact rd1P_e hr
      | ok x k => rw [hr] at h; cases h
end Go.Proofs.Ytgchhmfobkcnfaa.A

namespace Go.Proofs.Ytgchhmfobkcnfaa.A
open Go
set_option linter.unusedVariables false
set_option linter.unusedSimpArgs false
set_option maxRecDepth 100000
set_option pp.maxSteps 300

end Go.Proofs.Ytgchhmfobkcnfaa.A

namespace Go.Proofs.Ytgchhmfobkcnfaa.A
open Go
set_option linter.unusedVariables false
set_option linter.unusedSimpArgs false
set_option maxRecDepth 100000
set_option pp.maxSteps 300

noncomputable instance : DecidableEq It := fun a b => Classical.propDecidable _
end Go.Proofs.Ytgchhmfobkcnfaa.A

namespace Go.Proofs.Ytgchhmfobkcnfaa.A
open Go
set_option linter.unusedVariables false
set_option linter.unusedSimpArgs false
set_option maxRecDepth 100000
set_option pp.maxSteps 300

end Go.Proofs.Ytgchhmfobkcnfaa.A

namespace Go.Proofs.Ytgchhmfobkcnfaa.A
open Go
set_option linter.unusedVariables false
set_option linter.unusedSimpArgs false
set_option maxRecDepth 100000

theorem rdP_b (s : ByteArray) : rdP 98 s = if s.size = 0 then .err 3 else .ok (.mk (octB s 0) emp [] []) 1 := by unfold rdP; rw [if_pos rfl]
theorem rdP_n (s : ByteArray) : rdP 110 s = match cntP (byL s) with
    | .err e => .err e
    | .ok n k => .ok (.mk n emp [] []) k := by unfold rdP; rw [if_neg (by decide), if_pos rfl]; rfl
theorem rdP_t (s : ByteArray) : rdP 116 s = match cntM 200 (byL s) with
    | .err e => .err e
    | .ok n k => if s.size - k < n then .err 3 else .ok (.mk 0 ((rest s k).extract 0 n) [] []) (k + n) := by unfold rdP; rw [if_neg (by decide), if_neg (by decide), if_pos rfl]; rfl
theorem rdP_f (s : ByteArray) : rdP 102 s = if s.size < 8 then .err 3 else if ukE (s.extract 0 8) = 0 then .ok (.mk (bitsB (ukB (s.extract 0 8))) emp [] []) 8 else .err (ukE (s.extract 0 8)) := by unfold rdP; rw [if_neg (by decide), if_neg (by decide), if_neg (by decide), if_pos rfl]
theorem rdP_l (s : ByteArray) : rdP 108 s = if (unpL s).e = 0 then .ok (.mk 0 emp (unpL s).l []) (unpL s).n.toNat else .err (unpL s).e := by unfold rdP; rw [if_neg (by decide), if_neg (by decide), if_neg (by decide), if_neg (by decide)]
end Go.Proofs.Ytgchhmfobkcnfaa.A

namespace Go.Proofs.Ytgchhmfobkcnfaa.A
open Go
set_option linter.unusedVariables false
set_option linter.unusedSimpArgs false
set_option maxRecDepth 100000
set_option pp.maxSteps 300

/-- Cells that tell no more. -/
def LeL : List AV → List AV → Prop
  | [], [] => True
  | c :: cs, d :: ds => (∀ X v, VR X c v → VR X d v) ∧ LeL cs ds
  | _, _ => False
theorem VC_le {X : Ctx} {a : Option Addr} : ∀ {cs ds : List AV} {k : Nat}, LeL cs ds → VC X a k cs → VC X a k ds
  | [], [], k, _, h => h
  | c :: cs, d :: ds, k, hl, h => by
    simp only [VC] at h ⊢
    obtain ⟨⟨ad, v', h1, h2, h3, h4, h5⟩, h6⟩ := h
    exact ⟨⟨ad, v', h1, h2, h3, h4, hl.1 _ _ h5⟩, VC_le hl.2 h6⟩
  | [], d :: ds, k, hl, h => hl.elim
  | c :: cs, [], k, hl, h => hl.elim
theorem VR_viewLe {X : Ctx} {n : Nat} {cs ds : List AV} (hl : LeL cs ds) {v : Value} (h : VR X (.view n cs) v) : VR X (.view n ds) v := by
  simp only [VR] at h ⊢
  obtain ⟨ad, cap, h1, h2, h3, h4⟩ := h
  exact ⟨ad, cap, h1, h2, h3, VC_le hl h4⟩
end Go.Proofs.Ytgchhmfobkcnfaa.A
