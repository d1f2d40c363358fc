/- ask: what is read of bytes, in plain law. No condition. -/
import Derived.Test.YtgchhmfobkcnfaaSr
import Derived.Test.YtgchhmfobkcnfaaWu
import Derived.Test.YtgchhmfobkcnfaaVd
namespace Go.Proofs.Ytgchhmfobkcnfaa.A
open Go
set_option linter.unusedVariables false
set_option linter.unusedSimpArgs false
set_option maxRecDepth 100000
set_option pp.maxSteps 400

def fdA (f : Nat) (q : Rq) (t : ByteArray) : Option (Rq × Nat) := if f = 9 then fd9 q t else fdP f q t
def fdsP : List Nat → Rq → ByteArray → Option (Rq × ByteArray)
  | [], q, t => some (q, t)
  | f :: L, q, t => match fdA f q t with
    | some (q', m) => fdsP L q' (rest t m)
    | none => none
def q00 (k : Nat) : Rq := ⟨(k : Nat), 0, [], 0, false, 0, ⟨#[]⟩, false, ⟨#[]⟩, 0, ⟨#[]⟩, ⟨#[]⟩, 0, 0, []⟩
/-- What bytes say of a request. -/
def rqP (s : ByteArray) : Option Rq := match begP [98] s with
  | .ok [.mk n _ _ _] m => match fdsP (fldL (n : Nat)) (q00 n) (rest s m) with
    | some (q, t) => if t.size = 0 ∧ rqB q = true then some q else none
    | none => none
  | _ => none
theorem fdA_n {f : Nat} {q : Rq} {t : ByteArray} (h : f ≠ 9) : fdA f q t = fdP f q t := if_neg h
end Go.Proofs.Ytgchhmfobkcnfaa.A

namespace Go.Proofs.Ytgchhmfobkcnfaa.A
open Go
set_option linter.unusedVariables false
set_option linter.unusedSimpArgs false
set_option maxRecDepth 100000
set_option pp.maxSteps 400

theorem oneP98_inv {n : Nat} {s : ByteArray} {l : List Nat} {k : List It} {b : List Nat} (h : oneP 98 (.mk n s l k) = some b) : b = [n] ∧ n ≤ 255 := by
  rw [oneP_mk] at h
  split at h
  · rw [if_pos rfl] at h
    split at h
    · rename_i hh
      cases h
      exact ⟨rfl, hh.2⟩
    · cases h
  · cases h
theorem oneP110_inv {n : Nat} {s : ByteArray} {l : List Nat} {k : List It} {b : List Nat} (h : oneP 110 (.mk n s l k) = some b) : b = numN n := by
  rw [oneP_mk] at h
  split at h
  · rw [if_neg (by decide), if_pos rfl] at h
    split at h
    · cases h; rfl
    · cases h
  · cases h
theorem oneP116_inv {n : Nat} {s : ByteArray} {l : List Nat} {k : List It} {b : List Nat} (h : oneP 116 (.mk n s l k) = some b) : b = numN s.size ++ byL s := by
  rw [oneP_mk] at h
  split at h
  · rw [if_neg (by decide), if_neg (by decide), if_pos rfl] at h
    split at h
    · cases h; rfl
    · cases h
  · cases h
theorem oneP108_inv {n : Nat} {s : ByteArray} {l : List Nat} {k : List It} {b : List Nat} (h : oneP 108 (.mk n s l k) = some b) : b = packN l ∧ rightB l = true := by
  rw [oneP_mk] at h
  split at h
  · rw [if_neg (by decide), if_neg (by decide), if_neg (by decide), if_neg (by decide)] at h
    split at h
    · rename_i hh
      cases h
      exact ⟨rfl, hh.2⟩
    · cases h
  · cases h
theorem cat2_inv {x y : Option (List Nat)} {b : List Nat} (h : cat2 x y = some b) : ∃ u v, x = some u ∧ y = some v ∧ b = u ++ v := by
  cases x with
  | none => cases h
  | some u =>
    cases y with
    | none => cases h
    | some v => cases h; exact ⟨u, v, rfl, rfl, rfl⟩
theorem can_1 {c : Nat} (hc : shP [c] = some [(c, false)]) {t : ByteArray} {n : Nat} {s : ByteArray} {l : List Nat} {k : List It} {m : Nat} (h : begP [c] t = .ok [.mk n s l k] m) : oneP c (.mk n s l k) = some ((byL t).take m) ∧ WI (.mk n s l k) := by
  obtain ⟨hp, _, hw⟩ := beg_can h
  unfold printS at hp
  rw [hc] at hp
  replace hp : cat2 (oneP c (.mk n s l k)) (some []) = some ((byL t).take m) := hp
  obtain ⟨u, v, h1, h2, h3⟩ := cat2_inv hp
  cases h2
  rw [List.append_nil] at h3
  exact ⟨by rw [h1, h3], hw _ (List.mem_singleton.2 rfl)⟩
theorem can_nn {t : ByteArray} {a : Nat} {s1 : ByteArray} {l1 : List Nat} {k1 : List It} {b : Nat} {s2 : ByteArray} {l2 : List Nat} {k2 : List It} {m : Nat} (h : begP [110, 110] t = .ok [.mk a s1 l1 k1, .mk b s2 l2 k2] m) : (byL t).take m = numN a ++ numN b ∧ WI (.mk b s2 l2 k2) := by
  obtain ⟨hp, _, hw⟩ := beg_can h
  unfold printS at hp
  rw [sh_1nn] at hp
  replace hp : cat2 (oneP 110 (.mk a s1 l1 k1)) (cat2 (oneP 110 (.mk b s2 l2 k2)) (some [])) = some ((byL t).take m) := hp
  obtain ⟨u, v, h1, h2, h3⟩ := cat2_inv hp
  obtain ⟨u2, v2, h4, h5, h6⟩ := cat2_inv h2
  cases h5
  refine ⟨?_, hw _ (by simp)⟩
  rw [h3, h6, oneP110_inv h1, oneP110_inv h4]
  simp
theorem can_ttn {t : ByteArray} {a : Nat} {s1 : ByteArray} {l1 : List Nat} {k1 : List It} {n2 : Nat} {s2 : ByteArray} {l2 : List Nat} {k2 : List It} {n3 : Nat} {s3 : ByteArray} {l3 : List Nat} {k3 : List It} {m : Nat} (h : begP [116, 116, 110] t = .ok [.mk a s1 l1 k1, .mk n2 s2 l2 k2, .mk n3 s3 l3 k3] m) : (byL t).take m = txB s1 ++ (txB s2 ++ numN n3) := by
  have hp := (beg_can h).1
  unfold printS at hp
  rw [sh_ttn] at hp
  replace hp : cat2 (oneP 116 (.mk a s1 l1 k1)) (cat2 (oneP 116 (.mk n2 s2 l2 k2)) (cat2 (oneP 110 (.mk n3 s3 l3 k3)) (some []))) = some ((byL t).take m) := hp
  obtain ⟨u, v, h1, h2, h3⟩ := cat2_inv hp
  obtain ⟨u2, v2, h4, h5, h6⟩ := cat2_inv h2
  obtain ⟨u3, v3, h7, h8, h9⟩ := cat2_inv h5
  cases h8
  rw [h3, h6, h9, oneP116_inv h1, oneP116_inv h4, oneP110_inv h7]
  unfold txB
  simp
theorem beg_1 {c : Nat} (hc : shP [c] = some [(c, false)]) {t : ByteArray} {l : List It} {m : Nat} (h : begP [c] t = .ok l m) : ∃ n s q k, l = [.mk n s q k] := by
  have hl := begP_length hc h
  match l, hl with
  | [.mk n s q k], _ => exact ⟨n, s, q, k, rfl⟩
theorem smP_can {t : ByteArray} {n m : Nat} (h : smP t = some (n, m)) : numN n = (byL t).take m ∧ n ≤ 2147483647 := by
  unfold smP at h
  cases hp : begP [110] t with
  | err e => rw [hp] at h; cases h
  | ok l j =>
    obtain ⟨n', s, q, k, rfl⟩ := beg_1 sh_1n hp
    rw [hp] at h
    dsimp only at h
    split at h
    · rename_i hh
      cases h
      exact ⟨(oneP110_inv (can_1 sh_1n hp).1).symm, hh⟩
    · cases h
theorem anP_can {t : ByteArray} {n m : Nat} (h : anP t = some (n, m)) : numN n = (byL t).take m ∧ n < 18446744073709551616 := by
  unfold anP at h
  cases hp : begP [110] t with
  | err e => rw [hp] at h; cases h
  | ok l j =>
    obtain ⟨n', s, q, k, rfl⟩ := beg_1 sh_1n hp
    rw [hp] at h
    cases h
    obtain ⟨h1, h2⟩ := can_1 sh_1n hp
    refine ⟨(oneP110_inv h1).symm, ?_⟩
    cases h2
    assumption
theorem trP_can {t : ByteArray} {b : Bool} {m : Nat} (h : trP t = some (b, m)) : [bN b] = (byL t).take m := by
  unfold trP at h
  cases hp : begP [98] t with
  | err e => rw [hp] at h; cases h
  | ok l j =>
    obtain ⟨n', s, q, k, rfl⟩ := beg_1 sh_1b hp
    rw [hp] at h
    dsimp only at h
    split at h
    · rename_i hh
      cases h
      rw [(oneP98_inv (can_1 sh_1b hp).1).1]
      by_cases h1 : n' = 1
      · rw [h1]; rfl
      · rw [decide_eq_false h1]; show [0] = [n']; rw [show n' = 0 by omega]
    · cases h
theorem laP_can {t : ByteArray} {l : List Nat} {m : Nat} (h : laP t = some (l, m)) : packN l = (byL t).take m ∧ rightB l = true ∧ ∀ y ∈ l, y < 18446744073709551616 := by
  unfold laP at h
  cases hp : begP [108] t with
  | err e => rw [hp] at h; cases h
  | ok l' j =>
    obtain ⟨n', s, q, k, rfl⟩ := beg_1 sh_1l hp
    rw [hp] at h
    cases h
    obtain ⟨h1, h2⟩ := can_1 sh_1l hp
    obtain ⟨h3, h4⟩ := oneP108_inv h1
    refine ⟨h3.symm, h4, ?_⟩
    cases h2
    assumption
theorem teP_can {t : ByteArray} {s : ByteArray} {m : Nat} (h : teP t = some (s, m)) : txB s = (byL t).take m := by
  unfold teP at h
  cases hp : begP [116] t with
  | err e => rw [hp] at h; cases h
  | ok l j =>
    obtain ⟨n', s', q, k, rfl⟩ := beg_1 sh_1t hp
    rw [hp] at h
    cases h
    exact (oneP116_inv (can_1 sh_1t hp).1).symm
theorem vaP_can {t : ByteArray} {n : Bool} {x : ByteArray} {b m : Nat} (h : vaP t = some ((n, x, b), m)) : txB (packV n x b) = (byL t).take m ∧ b < 18446744073709551616 ∧ rightV n x b = true := by
  unfold vaP at h
  cases hp : begP [116] t with
  | err e => rw [hp] at h; cases h
  | ok l j =>
    obtain ⟨n', s', q, k, rfl⟩ := beg_1 sh_1t hp
    rw [hp] at h
    dsimp only at h
    split at h
    · rename_i he
      cases h
      have hc := (oneP116_inv (can_1 sh_1t hp).1).symm
      generalize hu : upV s' = u at *
      obtain ⟨n, x, b, e⟩ := u
      dsimp only at he ⊢
      subst he
      obtain ⟨r1, r2, r3⟩ := up_right hu
      refine ⟨?_, r1, r2⟩
      rw [r3]
      exact hc
    · cases h
theorem raP_can {t : ByteArray} {s u : ByteArray} {n m : Nat} (h : raP t = some ((s, u, n), m)) : txB s ++ (txB u ++ numN n) = (byL t).take m ∧ n ≤ 2147483647 := by
  unfold raP at h
  cases hp : begP [116, 116, 110] t with
  | err e => rw [hp] at h; cases h
  | ok l j =>
    have hl := begP_length sh_ttn hp
    match l, hl, h, hp with
    | [.mk a s1 l1 k1, .mk b s2 l2 k2, .mk c s3 l3 k3], _, h0, hp =>
      rw [hp] at h0
      have h : (if c ≤ 2147483647 then some ((s1, s2, c), j) else none) = some ((s, u, n), m) := h0
      clear h0
      split at h
      · rename_i hh
        cases h
        exact ⟨(can_ttn hp).symm, hh⟩
      · cases h
theorem ccP_can {t : ByteArray} {x : Int × Nat} {m : Nat} (h : ccP t = some (x, m)) : cdB x = (byL t).take m ∧ x.2 < 18446744073709551616 := by
  unfold ccP at h
  cases hp : begP [110, 110] t with
  | err e => rw [hp] at h; cases h
  | ok l j =>
    have hl := begP_length sh_1nn hp
    match l, hl, h, hp with
    | [.mk a s1 l1 k1, .mk b s2 l2 k2], _, h0, hp =>
      rw [hp] at h0
      have h : (if a ≤ 2147483647 then some ((((a : Nat) : Int), b), j) else none) = some (x, m) := h0
      clear h0
      split at h
      · cases h
        obtain ⟨h1, h2⟩ := can_nn hp
        refine ⟨?_, ?_⟩
        · rw [h1]; unfold cdB; rw [Int.toNat_natCast]
        · cases h2
          assumption
      · cases h
theorem csP_can : ∀ {n : Nat} {t : ByteArray} {c : List (Int × Nat)} {m : Nat}, csP n t = some (c, m) → c.length = n ∧ c.flatMap cdB = (byL t).take m ∧ ∀ y ∈ c, y.2 < 18446744073709551616
  | 0, t, c, m, h => by
    cases h
    exact ⟨rfl, rfl, fun y hy => by cases hy⟩
  | n + 1, t, c, m, h => by
    unfold csP at h
    cases hc : ccP t with
    | none => rw [hc] at h; cases h
    | some xk =>
      obtain ⟨x, k⟩ := xk
      rw [hc] at h
      dsimp only at h
      cases hr : csP n (rest t k) with
      | none => rw [hr] at h; cases h
      | some r =>
        obtain ⟨c', m'⟩ := r
        rw [hr] at h
        cases h
        obtain ⟨h1, h2, h3⟩ := csP_can hr
        obtain ⟨h4, h5⟩ := ccP_can hc
        refine ⟨by rw [List.length_cons, h1], ?_, fun y hy => ?_⟩
        · show (x :: c').flatMap cdB = (byL t).take (k + m')
          rw [List.flatMap_cons, h2, h4, rest_byL, List.take_add]
        · rcases List.mem_cons.1 hy with rfl | hy
          · exact h5
          · exact h3 y hy
theorem fd9_can {q q' : Rq} {t : ByteArray} {m : Nat} (h : fd9 q t = some (q', m)) : ∃ c : List (Int × Nat), q' = { q with c := c } ∧ numN c.length ++ c.flatMap cdB = (byL t).take m ∧ c.length ≤ 32 ∧ ∀ y ∈ c, y.2 < 18446744073709551616 := by
  unfold fd9 at h
  cases hs : smP t with
  | none => rw [hs] at h; cases h
  | some nm =>
    obtain ⟨n, j⟩ := nm
    rw [hs] at h
    dsimp only at h
    split at h
    · rename_i h32
      cases hc : csP n (rest t j) with
      | none => rw [hc] at h; cases h
      | some r =>
        obtain ⟨c, k⟩ := r
        rw [hc] at h
        cases h
        obtain ⟨h1, h2, h3⟩ := csP_can hc
        refine ⟨c, rfl, ?_, by omega, h3⟩
        show _ = (byL t).take (j + k)
        rw [h2, h1, (smP_can hs).1, rest_byL, List.take_add]
    · cases h
theorem map_some {α β : Type} {o : Option α} {f : α → β} {y : β} (h : o.map f = some y) : ∃ x, o = some x ∧ f x = y := by
  cases o with
  | none => cases h
  | some x => cases h; exact ⟨x, rfl, rfl⟩
/-- What a field is read as has these bytes; all else stays as it was. -/
theorem fd_can {f : Nat} (hf : f ≤ 9) {q q' : Rq} {t : ByteArray} {m : Nat} (h : fdA f q t = some (q', m)) (hq : q.ok) : q'.ok ∧ fB q' f = (byL t).take m ∧ (∀ g, g ≤ 9 → g ≠ f → fB q' g = fB q g) ∧ q'.k = q.k ∧ (f ≠ 9 → q'.c = q.c) ∧ (f ≠ 1 → q'.l = q.l) := by
  obtain ⟨hl, hx, hg, hvb, hc, hb⟩ := hq
  obtain ⟨k, w, l, g, mm, r, key, vn, vt, vb, fr, tt, lim, n, c⟩ := q
  dsimp only at hl hx hg hvb hc hb
  match f, hf, h with
  | 0, _, h =>
    obtain ⟨⟨x, j⟩, h1, h2⟩ := map_some (show (smP t).map _ = _ from h)
    cases h2
    refine ⟨⟨hl, hx, hg, hvb, hc, hb⟩, (smP_can h1).1, ?_, rfl, fun _ => rfl, fun _ => rfl⟩
    intro g hg hgn
    match g, hg, hgn with
    | 0, _, hgn => first | exact absurd rfl hgn | rfl
    | 1, _, hgn => first | exact absurd rfl hgn | rfl
    | 2, _, hgn => first | exact absurd rfl hgn | rfl
    | 3, _, hgn => first | exact absurd rfl hgn | rfl
    | 4, _, hgn => first | exact absurd rfl hgn | rfl
    | 5, _, hgn => first | exact absurd rfl hgn | rfl
    | 6, _, hgn => first | exact absurd rfl hgn | rfl
    | 7, _, hgn => first | exact absurd rfl hgn | rfl
    | 8, _, hgn => first | exact absurd rfl hgn | rfl
    | 9, _, hgn => first | exact absurd rfl hgn | rfl
    | g + 10, hg, _ => exact absurd hg (by omega)
  | 1, _, h =>
    obtain ⟨⟨x, j⟩, h1, h2⟩ := map_some (show (laP t).map _ = _ from h)
    cases h2
    obtain ⟨c1, c2, c3⟩ := laP_can h1
    refine ⟨⟨by have := rightB_len c2; show x.length < _; omega, c3, hg, hvb, hc, hb⟩, c1, ?_, rfl, fun _ => rfl, fun hh => absurd rfl hh⟩
    intro g hg hgn
    match g, hg, hgn with
    | 0, _, hgn => first | exact absurd rfl hgn | rfl
    | 1, _, hgn => first | exact absurd rfl hgn | rfl
    | 2, _, hgn => first | exact absurd rfl hgn | rfl
    | 3, _, hgn => first | exact absurd rfl hgn | rfl
    | 4, _, hgn => first | exact absurd rfl hgn | rfl
    | 5, _, hgn => first | exact absurd rfl hgn | rfl
    | 6, _, hgn => first | exact absurd rfl hgn | rfl
    | 7, _, hgn => first | exact absurd rfl hgn | rfl
    | 8, _, hgn => first | exact absurd rfl hgn | rfl
    | 9, _, hgn => first | exact absurd rfl hgn | rfl
    | g + 10, hg, _ => exact absurd hg (by omega)
  | 2, _, h =>
    obtain ⟨⟨x, j⟩, h1, h2⟩ := map_some (show (anP t).map _ = _ from h)
    cases h2
    refine ⟨⟨hl, hx, (anP_can h1).2, hvb, hc, hb⟩, (anP_can h1).1, ?_, rfl, fun _ => rfl, fun _ => rfl⟩
    intro g hg hgn
    match g, hg, hgn with
    | 0, _, hgn => first | exact absurd rfl hgn | rfl
    | 1, _, hgn => first | exact absurd rfl hgn | rfl
    | 2, _, hgn => first | exact absurd rfl hgn | rfl
    | 3, _, hgn => first | exact absurd rfl hgn | rfl
    | 4, _, hgn => first | exact absurd rfl hgn | rfl
    | 5, _, hgn => first | exact absurd rfl hgn | rfl
    | 6, _, hgn => first | exact absurd rfl hgn | rfl
    | 7, _, hgn => first | exact absurd rfl hgn | rfl
    | 8, _, hgn => first | exact absurd rfl hgn | rfl
    | 9, _, hgn => first | exact absurd rfl hgn | rfl
    | g + 10, hg, _ => exact absurd hg (by omega)
  | 3, _, h =>
    obtain ⟨⟨x, j⟩, h1, h2⟩ := map_some (show (trP t).map _ = _ from h)
    cases h2
    refine ⟨⟨hl, hx, hg, hvb, hc, hb⟩, trP_can h1, ?_, rfl, fun _ => rfl, fun _ => rfl⟩
    intro g hg hgn
    match g, hg, hgn with
    | 0, _, hgn => first | exact absurd rfl hgn | rfl
    | 1, _, hgn => first | exact absurd rfl hgn | rfl
    | 2, _, hgn => first | exact absurd rfl hgn | rfl
    | 3, _, hgn => first | exact absurd rfl hgn | rfl
    | 4, _, hgn => first | exact absurd rfl hgn | rfl
    | 5, _, hgn => first | exact absurd rfl hgn | rfl
    | 6, _, hgn => first | exact absurd rfl hgn | rfl
    | 7, _, hgn => first | exact absurd rfl hgn | rfl
    | 8, _, hgn => first | exact absurd rfl hgn | rfl
    | 9, _, hgn => first | exact absurd rfl hgn | rfl
    | g + 10, hg, _ => exact absurd hg (by omega)
  | 4, _, h =>
    obtain ⟨⟨x, j⟩, h1, h2⟩ := map_some (show (smP t).map _ = _ from h)
    cases h2
    refine ⟨⟨hl, hx, hg, hvb, hc, hb⟩, (smP_can h1).1, ?_, rfl, fun _ => rfl, fun _ => rfl⟩
    intro g hg hgn
    match g, hg, hgn with
    | 0, _, hgn => first | exact absurd rfl hgn | rfl
    | 1, _, hgn => first | exact absurd rfl hgn | rfl
    | 2, _, hgn => first | exact absurd rfl hgn | rfl
    | 3, _, hgn => first | exact absurd rfl hgn | rfl
    | 4, _, hgn => first | exact absurd rfl hgn | rfl
    | 5, _, hgn => first | exact absurd rfl hgn | rfl
    | 6, _, hgn => first | exact absurd rfl hgn | rfl
    | 7, _, hgn => first | exact absurd rfl hgn | rfl
    | 8, _, hgn => first | exact absurd rfl hgn | rfl
    | 9, _, hgn => first | exact absurd rfl hgn | rfl
    | g + 10, hg, _ => exact absurd hg (by omega)
  | 5, _, h =>
    obtain ⟨⟨x, j⟩, h1, h2⟩ := map_some (show (teP t).map _ = _ from h)
    cases h2
    refine ⟨⟨hl, hx, hg, hvb, hc, hb⟩, teP_can h1, ?_, rfl, fun _ => rfl, fun _ => rfl⟩
    intro g hg hgn
    match g, hg, hgn with
    | 0, _, hgn => first | exact absurd rfl hgn | rfl
    | 1, _, hgn => first | exact absurd rfl hgn | rfl
    | 2, _, hgn => first | exact absurd rfl hgn | rfl
    | 3, _, hgn => first | exact absurd rfl hgn | rfl
    | 4, _, hgn => first | exact absurd rfl hgn | rfl
    | 5, _, hgn => first | exact absurd rfl hgn | rfl
    | 6, _, hgn => first | exact absurd rfl hgn | rfl
    | 7, _, hgn => first | exact absurd rfl hgn | rfl
    | 8, _, hgn => first | exact absurd rfl hgn | rfl
    | 9, _, hgn => first | exact absurd rfl hgn | rfl
    | g + 10, hg, _ => exact absurd hg (by omega)
  | 6, _, h =>
    obtain ⟨⟨⟨xn, xt, xb⟩, j⟩, h1, h2⟩ := map_some (show (vaP t).map _ = _ from h)
    cases h2
    obtain ⟨c1, c2, c3⟩ := vaP_can h1
    refine ⟨⟨hl, hx, hg, c2, hc, hb⟩, c1, ?_, rfl, fun _ => rfl, fun _ => rfl⟩
    intro g hg hgn
    match g, hg, hgn with
    | 0, _, hgn => first | exact absurd rfl hgn | rfl
    | 1, _, hgn => first | exact absurd rfl hgn | rfl
    | 2, _, hgn => first | exact absurd rfl hgn | rfl
    | 3, _, hgn => first | exact absurd rfl hgn | rfl
    | 4, _, hgn => first | exact absurd rfl hgn | rfl
    | 5, _, hgn => first | exact absurd rfl hgn | rfl
    | 6, _, hgn => first | exact absurd rfl hgn | rfl
    | 7, _, hgn => first | exact absurd rfl hgn | rfl
    | 8, _, hgn => first | exact absurd rfl hgn | rfl
    | 9, _, hgn => first | exact absurd rfl hgn | rfl
    | g + 10, hg, _ => exact absurd hg (by omega)
  | 7, _, h =>
    obtain ⟨⟨⟨xs, xu, xn⟩, j⟩, h1, h2⟩ := map_some (show (raP t).map _ = _ from h)
    cases h2
    refine ⟨⟨hl, hx, hg, hvb, hc, hb⟩, (raP_can h1).1, ?_, rfl, fun _ => rfl, fun _ => rfl⟩
    intro g hg hgn
    match g, hg, hgn with
    | 0, _, hgn => first | exact absurd rfl hgn | rfl
    | 1, _, hgn => first | exact absurd rfl hgn | rfl
    | 2, _, hgn => first | exact absurd rfl hgn | rfl
    | 3, _, hgn => first | exact absurd rfl hgn | rfl
    | 4, _, hgn => first | exact absurd rfl hgn | rfl
    | 5, _, hgn => first | exact absurd rfl hgn | rfl
    | 6, _, hgn => first | exact absurd rfl hgn | rfl
    | 7, _, hgn => first | exact absurd rfl hgn | rfl
    | 8, _, hgn => first | exact absurd rfl hgn | rfl
    | 9, _, hgn => first | exact absurd rfl hgn | rfl
    | g + 10, hg, _ => exact absurd hg (by omega)
  | 8, _, h =>
    obtain ⟨⟨x, j⟩, h1, h2⟩ := map_some (show (smP t).map _ = _ from h)
    cases h2
    refine ⟨⟨hl, hx, hg, hvb, hc, hb⟩, (smP_can h1).1, ?_, rfl, fun _ => rfl, fun _ => rfl⟩
    intro g hg hgn
    match g, hg, hgn with
    | 0, _, hgn => first | exact absurd rfl hgn | rfl
    | 1, _, hgn => first | exact absurd rfl hgn | rfl
    | 2, _, hgn => first | exact absurd rfl hgn | rfl
    | 3, _, hgn => first | exact absurd rfl hgn | rfl
    | 4, _, hgn => first | exact absurd rfl hgn | rfl
    | 5, _, hgn => first | exact absurd rfl hgn | rfl
    | 6, _, hgn => first | exact absurd rfl hgn | rfl
    | 7, _, hgn => first | exact absurd rfl hgn | rfl
    | 8, _, hgn => first | exact absurd rfl hgn | rfl
    | 9, _, hgn => first | exact absurd rfl hgn | rfl
    | g + 10, hg, _ => exact absurd hg (by omega)
  | 9, _, h =>
    obtain ⟨c2, h1, h2, h3, h4⟩ := fd9_can (show fd9 _ t = _ from h)
    subst h1
    refine ⟨⟨hl, hx, hg, hvb, by show c2.length < _; omega, h4⟩, h2, ?_, rfl, fun hh => absurd rfl hh, fun _ => rfl⟩
    intro g hg hgn
    match g, hg, hgn with
    | 0, _, hgn => first | exact absurd rfl hgn | rfl
    | 1, _, hgn => first | exact absurd rfl hgn | rfl
    | 2, _, hgn => first | exact absurd rfl hgn | rfl
    | 3, _, hgn => first | exact absurd rfl hgn | rfl
    | 4, _, hgn => first | exact absurd rfl hgn | rfl
    | 5, _, hgn => first | exact absurd rfl hgn | rfl
    | 6, _, hgn => first | exact absurd rfl hgn | rfl
    | 7, _, hgn => first | exact absurd rfl hgn | rfl
    | 8, _, hgn => first | exact absurd rfl hgn | rfl
    | 9, _, hgn => first | exact absurd rfl hgn | rfl
    | g + 10, hg, _ => exact absurd hg (by omega)
  | f + 10, h, _ => exact absurd h (by omega)
theorem fds_can : ∀ {L : List Nat}, L.Nodup → (∀ f ∈ L, f ≤ 9) → ∀ {q q' : Rq} {t t' : ByteArray}, fdsP L q t = some (q', t') → q.ok → q'.ok ∧ L.flatMap (fB q') ++ byL t' = byL t ∧ (∀ g, g ≤ 9 → ¬ g ∈ L → fB q' g = fB q g) ∧ q'.k = q.k
  | [], _, _, q, q', t, t', h, hq => by
    cases h
    exact ⟨hq, rfl, fun _ _ _ => rfl, rfl⟩
  | f :: L, hn, hL, q, q', t, t', h, hq => by
    obtain ⟨n1, n2⟩ := List.nodup_cons.1 hn
    have hf := hL f (List.mem_cons_self ..)
    unfold fdsP at h
    cases hd : fdA f q t with
    | none => rw [hd] at h; cases h
    | some qm =>
      obtain ⟨q1, m⟩ := qm
      rw [hd] at h
      dsimp only at h
      obtain ⟨c1, c2, c3, c4, _, _⟩ := fd_can hf hd hq
      obtain ⟨d1, d2, d3, d4⟩ := fds_can n2 (fun x hx => hL x (List.mem_cons_of_mem _ hx)) h c1
      refine ⟨d1, ?_, fun g hg hgn => ?_, d4.trans c4⟩
      · rw [List.flatMap_cons, List.append_assoc, d2, d3 f hf n1, c2, rest_byL, List.take_append_drop]
      · rw [List.mem_cons, not_or] at hgn
        rw [d3 g hg hgn.2, c3 g hg hgn.1]
theorem fldL_nodup (k : Int) : (fldL k).Nodup := by
  unfold fldL
  repeat' split
  all_goals decide
theorem q00_ok (n : Nat) : (q00 n).ok := ⟨(by decide : (0 : Nat) < 4611686018427387904), (fun y hy => by cases hy), (by decide : (0 : Nat) < 18446744073709551616), (by decide : (0 : Nat) < 18446744073709551616), (by decide : (0 : Nat) < 4611686018427387904), (fun y hy => by cases hy)⟩
/-- What is read of bytes has these bytes, and may be. -/
theorem rq_can {s : ByteArray} {q : Rq} (h : rqP s = some q) : BA (pkB q) = s ∧ q.ok ∧ rqB q = true := by
  unfold rqP at h
  cases hp : begP [98] s with
  | err e => rw [hp] at h; cases h
  | ok l j =>
    obtain ⟨n, s', q', k, rfl⟩ := beg_1 sh_1b hp
    rw [hp] at h
    dsimp only at h
    cases hf : fdsP (fldL (n : Nat)) (q00 n) (rest s j) with
    | none => rw [hf] at h; cases h
    | some r =>
      obtain ⟨a, t⟩ := r
      rw [hf] at h
      dsimp only at h
      split at h
      · rename_i hh
        cases h
        obtain ⟨c1, c2, c3, c4⟩ := fds_can (fldL_nodup _) (fun f hf => by have := fldL_lt hf; omega) hf (q00_ok n)
        refine ⟨?_, c1, hh.2⟩
        have hk : q.k = (n : Nat) := c4
        have ht : byL t = [] := List.eq_nil_of_length_eq_zero (by rw [byL_len]; exact hh.1)
        rw [ht, List.append_nil] at c2
        have h98 := (oneP98_inv (can_1 sh_1b hp).1).1
        unfold pkB
        rw [hk, c2, Int.toNat_natCast, rest_byL, show n :: (byL s).drop j = [n] ++ (byL s).drop j from rfl, ← h98, List.take_append_drop, BA_byL]
      · cases h
end Go.Proofs.Ytgchhmfobkcnfaa.A
