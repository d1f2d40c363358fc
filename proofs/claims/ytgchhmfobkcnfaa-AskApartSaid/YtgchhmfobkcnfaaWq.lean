/- wire: what is read of a shape. No condition. -/
import Derived.Test.YtgchhmfobkcnfaaWk
import Derived.Test.YtgchhmfobkcnfaaLm
namespace Go.Proofs.Ytgchhmfobkcnfaa.A
open Go
set_option linter.unusedVariables false
set_option linter.unusedSimpArgs false
set_option maxRecDepth 100000
set_option pp.maxSteps 1500

def rd1P (p : Nat × Bool) (s : ByteArray) : Rs It :=
  match p.2 with
  | true => lstP p.1 s
  | false => rdP p.1 s
def begN (L : List (Nat × Bool)) (s : ByteArray) : Nat → Rs (List It)
  | 0 => .ok [] 0
  | j + 1 => match begN L s j with
    | .err e => .err e
    | .ok l m => match L[j]? with
      | none => .ok l m
      | some p => match rd1P p (rest s m) with
        | .err e => .err e
        | .ok x k => .ok (l ++ [x]) (m + k)
def begP (b : List Nat) (s : ByteArray) : Rs (List It) :=
  match shP b with
  | none => .err 1
  | some L => begN L s L.length
theorem begN_ok {L : List (Nat × Bool)} {s : ByteArray} {j : Nat} {l : List It} {m : Nat} {p : Nat × Bool} (h : begN L s j = .ok l m) (hp : L[j]? = some p) : begN L s (j + 1) = match rd1P p (rest s m) with
      | .err e => .err e
      | .ok x k => .ok (l ++ [x]) (m + k) := by
  show (match begN L s j with | .err e => _ | .ok l m => _) = _
  rw [h]
  show (match L[j]? with | none => _ | some p => _) = _
  rw [hp]
theorem begN_err {L : List (Nat × Bool)} {s : ByteArray} {j : Nat} {e : Int} (h : begN L s j = .err e) : ∀ i, begN L s (j + i) = .err e
  | 0 => h
  | i + 1 => by
    show (match begN L s (j + i) with | .err e => _ | .ok l m => _) = _
    rw [begN_err h i]
theorem rdP_le {c : Nat} {s : ByteArray} {x : It} {k : Nat} (h : rdP c s = .ok x k) : 0 < k ∧ k ≤ s.size := by
  unfold rdP at h
  split at h
  · split at h
    · cases h
    · cases h
      omega
  · split at h
    · cases hc : cntP (byL s) with
      | err e => rw [hc] at h; cases h
      | ok n k' =>
        rw [hc] at h
        cases h
        have := cntP_lt hc
        rw [byL_len] at this
        exact ⟨this.2.1, this.2.2⟩
    · split at h
      · cases hc : cntM 200 (byL s) with
        | err e => rw [hc] at h; cases h
        | ok n k' =>
          rw [hc] at h
          dsimp only at h
          have := cntM_lt hc
          rw [byL_len] at this
          split at h
          · cases h
          · cases h
            omega
      · split at h
        · split at h
          · cases h
          · split at h
            · cases h
              omega
            · cases h
        · split at h
          · rename_i he
            cases h
            have := unpL_n he
            exact ⟨this.2.2.1, this.2.1⟩
          · cases h
theorem unpL_e {s : ByteArray} : (unpL s).e = 0 ∨ 0 < (unpL s).e := by
  unfold unpL
  repeat' split
  all_goals first | (left; rfl) | (right; show (0 : Int) < 3; decide) | (right; show (0 : Int) < 4; decide)
theorem cntG_e : ∀ (b : List Nat) (i acc : Nat) (e : Int), cntG b i acc = .err e → 0 < e
  | [], i, acc, e, h => by cases h; decide
  | c :: r, i, acc, e, h => by
    rw [cntG_cons] at h
    split at h
    · cases h; decide
    · split at h
      · split at h
        · cases h; decide
        · cases h
      · exact cntG_e r _ _ e h
theorem cntM_e {m : Nat} {b : List Nat} {e : Int} (h : cntM m b = .err e) : 0 < e := by
  unfold cntM at h
  cases hc : cntP b with
  | err e' => rw [hc] at h; cases h; exact cntG_e _ _ _ _ hc
  | ok n k =>
    rw [hc] at h
    dsimp only at h
    split at h
    · cases h
    · cases h; decide
theorem ukE_e (s : ByteArray) : ukE s = 0 ∨ 0 < ukE s := by
  unfold ukE
  split
  · right; decide
  · split
    · right; decide
    · left; rfl
theorem rdP_e {c : Nat} {s : ByteArray} {e : Int} (h : rdP c s = .err e) : 0 < e := by
  unfold rdP at h
  split at h
  · split at h
    · cases h; decide
    · cases h
  · split at h
    · cases hc : cntP (byL s) with
      | err e' => rw [hc] at h; cases h; exact cntG_e _ _ _ _ hc
      | ok n k' => rw [hc] at h; cases h
    · split at h
      · cases hc : cntM 200 (byL s) with
        | err e' => rw [hc] at h; cases h; exact cntM_e hc
        | ok n k' =>
          rw [hc] at h
          dsimp only at h
          split at h
          · cases h; decide
          · cases h
      · split at h
        · split at h
          · cases h; decide
          · split at h
            · cases h
            · rename_i hu
              cases h
              exact (ukE_e _).resolve_left hu
        · split at h
          · cases h
          · rename_i hu
            cases h
            exact unpL_e.resolve_left hu
theorem kidsN_le {c : Nat} {s : ByteArray} : ∀ {j : Nat} {l : List It} {m : Nat}, kidsN c s j = .ok l m → m ≤ s.size
  | 0, l, m, h => by cases h; exact Nat.zero_le _
  | j + 1, l, m, h => by
    cases hq : kidsN c s j with
    | err e => rw [show kidsN c s (j + 1) = _ from kidsN_err hq 1] at h; cases h
    | ok l2 m2 =>
      rw [kidsN_ok hq] at h
      cases hr : rdP c (rest s m2) with
      | err e => rw [hr] at h; cases h
      | ok x k =>
        rw [hr] at h
        cases h
        have h1 := kidsN_le hq
        have h2 := (rdP_le hr).2
        rw [rest_size] at h2
        omega
theorem kidsN_e {c : Nat} {s : ByteArray} : ∀ {j : Nat} {e : Int}, kidsN c s j = .err e → 0 < e
  | 0, e, h => by cases h
  | j + 1, e, h => by
    cases hq : kidsN c s j with
    | err e' =>
      rw [show kidsN c s (j + 1) = _ from kidsN_err hq 1] at h
      cases h
      exact kidsN_e hq
    | ok l2 m2 =>
      rw [kidsN_ok hq] at h
      cases hr : rdP c (rest s m2) with
      | err e' => rw [hr] at h; cases h; exact rdP_e hr
      | ok x k => rw [hr] at h; cases h
theorem lstP_le {c : Nat} {s : ByteArray} {x : It} {k : Nat} (h : lstP c s = .ok x k) : 0 < k ∧ k ≤ s.size := by
  unfold lstP at h
  cases hc : cntM 64 (byL s) with
  | err e => rw [hc] at h; cases h
  | ok n k' =>
    rw [hc] at h
    dsimp only at h
    have h1 := cntM_lt hc
    rw [byL_len] at h1
    cases hq : kidsN c (rest s k') n with
    | err e => rw [hq] at h; cases h
    | ok l m =>
      rw [hq] at h
      cases h
      have h2 := kidsN_le hq
      rw [rest_size] at h2
      omega
theorem lstP_e {c : Nat} {s : ByteArray} {e : Int} (h : lstP c s = .err e) : 0 < e := by
  unfold lstP at h
  cases hc : cntM 64 (byL s) with
  | err e' => rw [hc] at h; cases h; exact cntM_e hc
  | ok n k' =>
    rw [hc] at h
    dsimp only at h
    cases hq : kidsN c (rest s k') n with
    | err e' => rw [hq] at h; cases h; exact kidsN_e hq
    | ok l m => rw [hq] at h; cases h
theorem rd1P_le {p : Nat × Bool} {s : ByteArray} {x : It} {k : Nat} (h : rd1P p s = .ok x k) : 0 < k ∧ k ≤ s.size := by
  obtain ⟨c, m⟩ := p
  cases m with
  | true => exact lstP_le h
  | false => exact rdP_le h
theorem rd1P_e {p : Nat × Bool} {s : ByteArray} {e : Int} (h : rd1P p s = .err e) : 0 < e := by
  obtain ⟨c, m⟩ := p
  cases m with
  | true => exact lstP_e h
  | false => exact rdP_e h
theorem begN_le {L : List (Nat × Bool)} {s : ByteArray} : ∀ {j : Nat} {l : List It} {m : Nat}, j ≤ L.length → begN L s j = .ok l m → m ≤ s.size ∧ l.length = j
  | 0, l, m, _, h => by cases h; exact ⟨Nat.zero_le _, rfl⟩
  | j + 1, l, m, hj, h => by
    obtain ⟨p, hp⟩ : ∃ p, L[j]? = some p := ⟨_, List.getElem?_eq_getElem (by omega)⟩
    cases hq : begN L s j with
    | err e => rw [show begN L s (j + 1) = _ from begN_err hq 1] at h; cases h
    | ok l2 m2 =>
      rw [begN_ok hq hp] at h
      cases hr : rd1P p (rest s m2) with
      | err e => rw [hr] at h; cases h
      | ok x k =>
        rw [hr] at h
        cases h
        have h1 := begN_le (by omega) hq
        have h2 := (rd1P_le hr).2
        rw [rest_size] at h2
        rw [List.length_append]
        exact ⟨by omega, by rw [h1.2]; rfl⟩
theorem begN_e {L : List (Nat × Bool)} {s : ByteArray} : ∀ {j : Nat} {e : Int}, j ≤ L.length → begN L s j = .err e → 0 < e
  | 0, e, _, h => by cases h
  | j + 1, e, hj, h => by
    obtain ⟨p, hp⟩ : ∃ p, L[j]? = some p := ⟨_, List.getElem?_eq_getElem (by omega)⟩
    cases hq : begN L s j with
    | err e' =>
      rw [show begN L s (j + 1) = _ from begN_err hq 1] at h
      cases h
      exact begN_e (by omega) hq
    | ok l2 m2 =>
      rw [begN_ok hq hp] at h
      cases hr : rd1P p (rest s m2) with
      | err e' => rw [hr] at h; cases h; exact rd1P_e hr
      | ok x k => rw [hr] at h; cases h
end Go.Proofs.Ytgchhmfobkcnfaa.A

namespace Go.Proofs.Ytgchhmfobkcnfaa.A
open Go
set_option linter.unusedVariables false
set_option linter.unusedSimpArgs false
set_option maxRecDepth 100000
set_option pp.maxSteps 300

end Go.Proofs.Ytgchhmfobkcnfaa.A

namespace Go.Proofs.Ytgchhmfobkcnfaa.A
open Go
set_option linter.unusedVariables false
set_option linter.unusedSimpArgs false
set_option maxRecDepth 100000
set_option pp.maxSteps 300

noncomputable instance : DecidableEq It := fun a b => Classical.propDecidable _
end Go.Proofs.Ytgchhmfobkcnfaa.A

namespace Go.Proofs.Ytgchhmfobkcnfaa.A
open Go
set_option linter.unusedVariables false
set_option linter.unusedSimpArgs false
set_option maxRecDepth 100000
set_option pp.maxSteps 300

end Go.Proofs.Ytgchhmfobkcnfaa.A

namespace Go.Proofs.Ytgchhmfobkcnfaa.A
open Go
set_option linter.unusedVariables false
set_option linter.unusedSimpArgs false
set_option maxRecDepth 100000

theorem rest_append (a : List Nat) (t : ByteArray) : rest (BA a ++ t) a.length = t := by
  apply byL_inj
  rw [rest_byL, byL_append, List.drop_append_of_le_length (by rw [byL_len, BA_size]; exact Nat.le_refl _), List.drop_eq_nil_of_le (by rw [byL_len, BA_size]; exact Nat.le_refl _), List.nil_append]
theorem cntG_num : ∀ (n i acc : Nat) (t : List Nat), n * 128 ^ i < 18446744073709551616 → (i = 0 ∨ 0 < n) → cntG (numN n ++ t) i acc = .ok (acc + n * 128 ^ i) (i + (numN n).length) := by
  intro n
  induction n using Nat.strongRecOn with
  | _ n ih =>
    intro i acc t hn h0
    have hp : ∀ k, k ≤ i → 0 < n → 128 ^ k < 18446744073709551616 := fun k hk hn0 => by
      have h1 : 128 ^ k ≤ 128 ^ i := Nat.pow_le_pow_right (by decide) hk
      have h2 : 1 * 128 ^ i ≤ n * 128 ^ i := Nat.mul_le_mul_right _ hn0
      omega
    have hi : i ≤ 9 := Nat.le_of_not_lt fun h => by
      have := hp 10 h (by omega)
      omega
    have h9 : i = 9 → n ≤ 1 := fun h => by
      subst h
      have : (128 : Nat) ^ 9 = 9223372036854775808 := by decide
      rw [this] at hn
      omega
    by_cases hs : n < 128
    · rw [numN_lt hs]
      show cntG (n :: t) i acc = _
      rw [cntG_cons, if_neg, if_pos hs, if_neg, Nat.mod_eq_of_lt hs]
      · rfl
      · omega
      · rw [Nat.mod_eq_of_lt hs]
        omega
    · rw [numN_ge hs, List.cons_append, cntG_cons, if_neg, if_neg (by omega), show (128 + n % 128) % 128 = n % 128 by omega]
      · have e1 : n / 128 * 128 ^ (i + 1) + n % 128 * 128 ^ i = n * 128 ^ i := by
          rw [Nat.pow_succ, Nat.mul_comm (128 ^ i) 128, ← Nat.mul_assoc, ← Nat.add_mul]
          congr 1
          omega
        rw [ih (n / 128) (by omega) (i + 1) _ t (by omega) (by omega), List.length_cons]
        congr 1 <;> omega
      · rintro (h | ⟨h, h'⟩)
        · omega
        · have := h9 h
          omega
theorem cntP_num {n : Nat} (h : n < 18446744073709551616) (t : List Nat) : cntP (numN n ++ t) = .ok n (numN n).length := by
  unfold cntP
  rw [cntG_num n 0 0 t (by simpa using h) (.inl rfl)]
  simp
theorem cntP_BA {n : Nat} (h : n < 18446744073709551616) (b : List Nat) (t : ByteArray) : cntP (byL (BA (numN n ++ b) ++ t)) = .ok n (numN n).length := by
  rw [← BA_append, byL_append, byL_append, byL_BA (fun x hx => numN_256 n x hx), List.append_assoc]
  exact cntP_num h _
theorem cntM_BA {n m : Nat} (h : n < 18446744073709551616) (hm : n ≤ m) (b : List Nat) (t : ByteArray) : cntM m (byL (BA (numN n ++ b) ++ t)) = .ok n (numN n).length := by
  unfold cntM
  rw [cntP_BA h]
  exact if_pos hm
theorem ext_append (s t : ByteArray) : (s ++ t).extract 0 s.size = s := by
  apply byL_inj
  rw [extractB, byL_append, List.take_append_of_le_length (by rw [byL_len]; exact Nat.le_refl _), List.take_of_length_le (by rw [byL_len]; exact Nat.le_refl _), List.drop_zero]
theorem rdP_b (s : ByteArray) : rdP 98 s = if s.size = 0 then .err 3 else .ok (.mk (octB s 0) emp [] []) 1 := by unfold rdP; rw [if_pos rfl]
theorem rdP_n (s : ByteArray) : rdP 110 s = match cntP (byL s) with
    | .err e => .err e
    | .ok n k => .ok (.mk n emp [] []) k := by unfold rdP; rw [if_neg (by decide), if_pos rfl]; rfl
theorem rdP_t (s : ByteArray) : rdP 116 s = match cntM 200 (byL s) with
    | .err e => .err e
    | .ok n k => if s.size - k < n then .err 3 else .ok (.mk 0 ((rest s k).extract 0 n) [] []) (k + n) := by unfold rdP; rw [if_neg (by decide), if_neg (by decide), if_pos rfl]; rfl
theorem rdP_f (s : ByteArray) : rdP 102 s = if s.size < 8 then .err 3 else if ukE (s.extract 0 8) = 0 then .ok (.mk (bitsB (ukB (s.extract 0 8))) emp [] []) 8 else .err (ukE (s.extract 0 8)) := by unfold rdP; rw [if_neg (by decide), if_neg (by decide), if_neg (by decide), if_pos rfl]
theorem rdP_l (s : ByteArray) : rdP 108 s = if (unpL s).e = 0 then .ok (.mk 0 emp (unpL s).l []) (unpL s).n.toNat else .err (unpL s).e := by unfold rdP; rw [if_neg (by decide), if_neg (by decide), if_neg (by decide), if_neg (by decide)]
theorem rd_one {c : Nat} (hc : isL c = true) {x : It} {b : List Nat} (hw : WI x) (h : oneP c x = some b) (t : ByteArray) : rdP c (BA b ++ t) = .ok x b.length := by
  obtain ⟨n, s, l, k⟩ := x
  cases hw with
  | mk _ _ _ _ w1 w2 w3 w4 w5 w6 =>
  rw [oneP_mk] at h
  split at h
  rotate_left
  · cases h
  rename_i hk
  obtain rfl : k = [] := List.length_eq_zero_iff.1 hk
  have hem : ∀ a b c, emB n s l a b c = true → (a = true ∨ n = 0) ∧ (b = true ∨ s = emp) ∧ (c = true ∨ l = []) := fun a b c h => by
    obtain ⟨h1, h2, h3⟩ := (emB_k n s l a b c).1 h
    exact ⟨h1, h2.imp id strEq_iff.1, h3.imp id List.length_eq_zero_iff.1⟩
  rcases isL_5 hc with rfl | rfl | rfl | rfl | rfl
  · replace h : (if emB n s l true false false = true ∧ n ≤ 255 then some [n] else none) = some b := h
    split at h
    · rename_i hh
      obtain ⟨_, h2, h3⟩ := hem _ _ _ hh.1
      obtain rfl := h2.resolve_left (by decide)
      obtain rfl := h3.resolve_left (by decide)
      cases h
      have hsz : (BA [n] ++ t).size = 1 + t.size := by rw [size_append, BA_size]; rfl
      have ho : octB (BA [n] ++ t) 0 = n := by
        rw [octB_left (by rw [BA_size]; exact Nat.zero_lt_one), octB_BA (fun x hx => by simp only [List.mem_singleton] at hx; omega)]
        rfl
      rw [rdP_b, if_neg (by omega), ho]
      rfl
    · cases h
  · replace h : (if emB n s l true false false = true then some (numN n) else none) = some b := h
    split at h
    · rename_i hh
      obtain ⟨_, h2, h3⟩ := hem _ _ _ hh
      obtain rfl := h2.resolve_left (by decide)
      obtain rfl := h3.resolve_left (by decide)
      cases h
      have := cntP_BA w1 [] t
      rw [List.append_nil] at this
      rw [rdP_n, this]
    · cases h
  · replace h : (if emB n s l false true false = true ∧ s.size ≤ 200 then some (numN s.size ++ byL s) else none) = some b := h
    split at h
    · rename_i hh
      obtain ⟨h1, _, h3⟩ := hem _ _ _ hh.1
      obtain rfl := h1.resolve_left (by decide)
      obtain rfl := h3.resolve_left (by decide)
      cases h
      have e1 : BA (numN s.size ++ byL s) ++ t = BA (numN s.size) ++ (s ++ t) := by
        rw [← BA_append, BA_byL]
        apply byL_inj
        simp only [byL_append, List.append_assoc]
      have hl : (BA (numN s.size ++ byL s) ++ t).size - (numN s.size).length = s.size + t.size := by rw [e1, size_append, BA_size, size_append]; omega
      rw [rdP_t, cntM_BA (by omega) hh.2]
      dsimp only
      rw [if_neg (by omega), e1, rest_append, ext_append, List.length_append, byL_len]
    · cases h
  · replace h : (if emB n s l true false false = true ∧ bitsB n = n then some (keyN n) else none) = some b := h
    split at h
    · rename_i hh
      obtain ⟨_, h2, h3⟩ := hem _ _ _ hh.1
      obtain rfl := h2.resolve_left (by decide)
      obtain rfl := h3.resolve_left (by decide)
      cases h
      have hpl := placeB_lt w1
      have hkl : (keyL (placeB n)).length = 8 := rfl
      have hB : BA (keyN n) = ⟨(keyL (placeB n)).toArray⟩ := by
        unfold keyN
        refine (congrArg BA (show (keyL (placeB n)).map UInt8.toNat = byL ⟨(keyL (placeB n)).toArray⟩ from ?_)).trans (BA_byL _)
        rfl
      have h8 : (BA (keyN n)).size = 8 := by rw [BA_size]; rfl
      have hx : (BA (keyN n) ++ t).extract 0 8 = BA (keyN n) := by
        have := ext_append (BA (keyN n)) t
        rw [h8] at this
        exact this
      have hv : valL (BA (keyN n)).data.toList = placeB n := by
        rw [hB]
        exact valL_keyL (by omega)
      have hE : ukE (BA (keyN n)) = 0 := by
        unfold ukE
        rw [if_neg (by rw [h8]; decide), hv, if_neg (by omega)]
      have hU : ukB (BA (keyN n)) = bitsB n := by
        unfold ukB
        rw [if_pos hE, hv, atB_place w1]
      have hsz : (BA (keyN n) ++ t).size = 8 + t.size := by rw [size_append, h8]
      have h9 : (keyN n).length = 8 := rfl
      rw [rdP_f, if_neg (by omega), hx, if_pos hE, hU, hh.2, hh.2, h9]
    · cases h
  · replace h : (if emB n s l false false true = true ∧ rightB l = true then some (packN l) else none) = some b := h
    split at h
    · rename_i hh
      obtain ⟨h1, h2, _⟩ := hem _ _ _ hh.1
      obtain rfl := h1.resolve_left (by decide)
      obtain rfl := h2.resolve_left (by decide)
      cases h
      have hu := unp_pack hh.2 w3 t
      have hb : BA (packN l) = packB l := rfl
      rw [hb, rdP_l, hu]
      dsimp only
      rw [if_pos rfl, Int.toNat_natCast, ← hb, BA_size]
    · cases h
/-- One behind the other. -/
theorem chain_inv {n : Nat} (S : Nat → Rs (List It)) (rd : Nat → ByteArray → Rs It) (s t : ByteArray) (k : List It) (bs : List (List Nat)) (hS0 : S 0 = .ok [] 0)
    (hS : ∀ j l m, j < n → S j = .ok l m → S (j + 1) = match rd j (rest s m) with
      | .err e => .err e
      | .ok x k => .ok (l ++ [x]) (m + k)) (hn : n = k.length) (hb : bs.length = k.length) (hs : s = BA bs.flatten ++ t)
    (hrd : ∀ (j : Nat) (x : It) (b : List Nat), k[j]? = some x → bs[j]? = some b → ∀ t', rd j (BA b ++ t') = .ok x b.length) : S n = .ok k bs.flatten.length := by
  have key : ∀ j, j ≤ n → S j = .ok (k.take j) (bs.take j).flatten.length := by
    intro j
    induction j with
    | zero => intro _; rw [hS0]; rfl
    | succ j ih =>
      intro hj
      obtain ⟨x, hx⟩ : ∃ x, k[j]? = some x := ⟨_, List.getElem?_eq_getElem (by omega)⟩
      obtain ⟨b, hbj⟩ : ∃ b, bs[j]? = some b := ⟨_, List.getElem?_eq_getElem (by omega)⟩
      have hd : bs.drop j = b :: bs.drop (j + 1) := by
        obtain ⟨h1, rfl⟩ := List.getElem?_eq_some_iff.1 hbj
        exact List.drop_eq_getElem_cons h1
      have hr : rest s (bs.take j).flatten.length = BA b ++ (BA (bs.drop (j + 1)).flatten ++ t) := by
        have e1 : s = BA (bs.take j).flatten ++ (BA b ++ (BA (bs.drop (j + 1)).flatten ++ t)) := by
          have e2 : bs.flatten = (bs.take j).flatten ++ (b ++ (bs.drop (j + 1)).flatten) := by
            rw [← List.flatten_cons, ← hd, ← List.flatten_append, List.take_append_drop]
          rw [hs, e2, ← BA_append, ← BA_append]
          apply byL_inj
          simp only [byL_append, List.append_assoc]
        rw [e1, rest_append]
      rw [hS j _ _ (by omega) (ih (by omega)), hr, hrd j x b hx hbj _]
      show Rs.ok _ _ = _
      rw [take_snocA hx, take_snocA hbj, List.flatten_append, List.length_append]
      simp
  have := key n (Nat.le_refl _)
  rw [List.take_of_length_le (by omega), List.take_of_length_le (by omega)] at this
  exact this
theorem catF_bs {α : Type} {f : α → Option (List Nat)} : ∀ {L : List α} {b : List Nat}, catF f L = some b → ∃ bs : List (List Nat), bs.length = L.length ∧ b = bs.flatten ∧ ∀ (j : Nat) (x : α) (bj : List Nat), L[j]? = some x → bs[j]? = some bj → f x = some bj
  | [], b, h => by
    cases h
    exact ⟨[], rfl, rfl, fun j x bj h => by simp at h⟩
  | x :: r, b, h => by
    have h' : cat2 (f x) (catF f r) = some b := h
    cases h1 : f x with
    | none => rw [h1] at h'; cases h'
    | some b1 =>
      cases h2 : catF f r with
      | none => rw [h1, h2] at h'; cases h'
      | some b2 =>
        rw [h1, h2] at h'
        cases h'
        obtain ⟨bs, g1, g2, g3⟩ := catF_bs h2
        refine ⟨b1 :: bs, by simp [g1], by rw [g2]; rfl, fun j y bj hy hbj => ?_⟩
        cases j with
        | zero => cases hy; cases hbj; exact h1
        | succ j => exact g3 j y bj (by simpa using hy) (by simpa using hbj)
theorem catP_F (c : Nat) : ∀ l : List It, catP c l = catF (oneP c) l
  | [] => rfl
  | x :: r => by rw [catP, catP_F c r, catF]
theorem kids_inv {c : Nat} (hc : isL c = true) {k : List It} {b : List Nat} (hw : ∀ x ∈ k, WI x) (h : catP c k = some b) (t : ByteArray) : kidsN c (BA b ++ t) k.length = .ok k b.length := by
  rw [catP_F] at h
  obtain ⟨bs, h1, rfl, h3⟩ := catF_bs h
  exact chain_inv (kidsN c (BA bs.flatten ++ t)) (fun _ => rdP c) _ t k bs rfl (fun j l m _ hl => kidsN_ok hl) rfl h1 rfl fun j x b hx hb t' => rd_one hc (hw x (List.mem_of_getElem? hx)) (h3 j x b hx hb) t'
theorem lst_inv {c : Nat} (hc : isL c = true) {x : It} {b : List Nat} (hw : WI x) (h : listP c x = some b) (t : ByteArray) : lstP c (BA b ++ t) = .ok x b.length := by
  obtain ⟨n, s, l, k⟩ := x
  cases hw with
  | mk _ _ _ _ w1 w2 w3 w4 w5 w6 =>
  rw [listP_mk] at h
  split at h
  · rename_i hh
    obtain ⟨h1, h2, h3⟩ := (emB_k n s l false false false).1 hh.1
    obtain rfl := h1.resolve_left (by decide)
    obtain rfl : s = emp := strEq_iff.1 (h2.resolve_left (by decide))
    obtain rfl : l = [] := List.length_eq_zero_iff.1 (h3.resolve_left (by decide))
    cases hk : catP c k with
    | none => rw [hk] at h; cases h
    | some b2 =>
      rw [hk] at h
      cases h
      have e1 : rest (BA (numN k.length ++ b2) ++ t) (numN k.length).length = BA b2 ++ t := by
        have e2 : BA (numN k.length ++ b2) ++ t = BA (numN k.length) ++ (BA b2 ++ t) := by
          rw [← BA_append]
          apply byL_inj
          simp only [byL_append, List.append_assoc]
        rw [e2, rest_append]
      unfold lstP
      rw [cntM_BA (by omega) hh.2]
      dsimp only
      rw [e1, kids_inv hc w6 hk t, List.length_append]
  · cases h
theorem rd1_inv {p : Nat × Bool} (hc : isL p.1 = true) {x : It} {b : List Nat} (hw : WI x) (h : one1 (p, x) = some b) (t : ByteArray) : rd1P p (BA b ++ t) = .ok x b.length := by
  obtain ⟨c, m⟩ := p
  cases m with
  | true => exact lst_inv hc hw h t
  | false => exact rd_one hc hw h t
/-- What is put is read as it was, whatever stands behind. -/
theorem beg_inv {sh : List Nat} {l : List It} {b : List Nat} (hw : ∀ x ∈ l, WI x) (h : printS sh l = some b) (t : ByteArray) : begP sh (BA b ++ t) = .ok l b.length := by
  unfold printS at h
  cases hL : shP sh with
  | none => rw [hL] at h; cases h
  | some L =>
    rw [hL] at h
    replace h : prtP L l = some b := h
    unfold prtP at h
    split at h
    · rename_i hl
      unfold begP
      rw [hL]
      dsimp only
      obtain ⟨bs, h1, rfl, h3⟩ := catF_bs h
      have hz : (L.zip l).length = L.length := by rw [List.length_zip]; omega
      refine chain_inv (begN L (BA bs.flatten ++ t)) (fun j s => match L[j]? with | none => .err 0 | some p => rd1P p s) _ t l bs rfl (fun j l2 m hj hl2 => ?_) hl (by rw [h1, hz, hl]) rfl fun j x b hx hb t' => ?_
      · obtain ⟨p, hp⟩ : ∃ p, L[j]? = some p := ⟨_, List.getElem?_eq_getElem (by omega)⟩
        rw [begN_ok hl2 hp]
        simp only [hp]
      · have hjl := (List.getElem?_eq_some_iff.1 hx).1
        obtain ⟨p, hp⟩ : ∃ p, L[j]? = some p := ⟨_, List.getElem?_eq_getElem (by omega)⟩
        rw [hp]
        exact rd1_inv (shP_isL hL p (List.mem_of_getElem? hp)) (hw x (List.mem_of_getElem? hx)) (h3 j (p, x) b (List.getElem?_zip_eq_some.2 ⟨hp, hx⟩) hb) t'
    · cases h
end Go.Proofs.Ytgchhmfobkcnfaa.A

namespace Go.Proofs.Ytgchhmfobkcnfaa.A
open Go
set_option linter.unusedVariables false
set_option linter.unusedSimpArgs false
set_option maxRecDepth 100000
set_option pp.maxSteps 300

/-- Cells that tell no more. -/
def LeL : List AV → List AV → Prop
  | [], [] => True
  | c :: cs, d :: ds => (∀ X v, VR X c v → VR X d v) ∧ LeL cs ds
  | _, _ => False
theorem VC_le {X : Ctx} {a : Option Addr} : ∀ {cs ds : List AV} {k : Nat}, LeL cs ds → VC X a k cs → VC X a k ds
  | [], [], k, _, h => h
  | c :: cs, d :: ds, k, hl, h => by
    simp only [VC] at h ⊢
    obtain ⟨⟨ad, v', h1, h2, h3, h4, h5⟩, h6⟩ := h
    exact ⟨⟨ad, v', h1, h2, h3, h4, hl.1 _ _ h5⟩, VC_le hl.2 h6⟩
  | [], d :: ds, k, hl, h => hl.elim
  | c :: cs, [], k, hl, h => hl.elim
theorem VR_viewLe {X : Ctx} {n : Nat} {cs ds : List AV} (hl : LeL cs ds) {v : Value} (h : VR X (.view n cs) v) : VR X (.view n ds) v := by
  simp only [VR] at h ⊢
  obtain ⟨ad, cap, h1, h2, h3, h4⟩ := h
  exact ⟨ad, cap, h1, h2, h3, VC_le hl h4⟩
end Go.Proofs.Ytgchhmfobkcnfaa.A
