/- ask: no beginning is a request's, or a response's: plain law. No condition. -/
import Derived.Test.YtgchhmfobkcnfaaTb
namespace Go.Proofs.Ytgchhmfobkcnfaa.A
open Go
set_option linter.unusedVariables false
set_option linter.unusedSimpArgs false
set_option maxRecDepth 100000
set_option pp.maxSteps 400

theorem smP_app {t u : ByteArray} {n m : Nat} (h : smP t = some (n, m)) : smP (t ++ u) = some (n, m) ∧ m ≤ t.size := by
  unfold smP at h ⊢
  cases hp : begP [110] t with
  | err e => rw [hp] at h; cases h
  | ok l j =>
    obtain ⟨n', s, q, k, rfl⟩ := beg_1 sh_1n hp
    have hm := begP_le hp
    rw [begP_app hp]
    rw [hp] at h
    dsimp only at h ⊢
    split at h
    · rename_i hh
      cases h
      exact ⟨if_pos hh, hm⟩
    · cases h
theorem vaP_app {t u : ByteArray} {x : Bool × ByteArray × Nat} {m : Nat} (h : vaP t = some (x, m)) : vaP (t ++ u) = some (x, m) ∧ m ≤ t.size := by
  unfold vaP at h ⊢
  cases hp : begP [116] t with
  | err e => rw [hp] at h; cases h
  | ok l j =>
    obtain ⟨n', s, q, k, rfl⟩ := beg_1 sh_1t hp
    have hm := begP_le hp
    rw [begP_app hp]
    rw [hp] at h
    dsimp only at h ⊢
    split at h
    · rename_i hh
      cases h
      exact ⟨if_pos hh, hm⟩
    · cases h
theorem ccP_app {t u : ByteArray} {x : Int × Nat} {m : Nat} (h : ccP t = some (x, m)) : ccP (t ++ u) = some (x, m) ∧ m ≤ t.size := by
  unfold ccP at h ⊢
  cases hp : begP [110, 110] t with
  | err e => rw [hp] at h; cases h
  | ok l j =>
    have hl := begP_length sh_1nn hp
    have hm := begP_le hp
    rw [begP_app hp]
    match l, hl, h, hp with
    | [.mk a s1 l1 k1, .mk b s2 l2 k2], _, h, hp =>
      rw [hp] at h
      dsimp only at h ⊢
      split at h
      · rename_i hh
        cases h
        exact ⟨if_pos hh, hm⟩
      · cases h
theorem csP_app : ∀ {n : Nat} {t : ByteArray} {c : List (Int × Nat)} {m : Nat} (u : ByteArray), csP n t = some (c, m) → csP n (t ++ u) = some (c, m) ∧ m ≤ t.size
  | 0, t, c, m, u, h => by cases h; exact ⟨rfl, Nat.zero_le _⟩
  | n + 1, t, c, m, u, h => by
    unfold csP at h ⊢
    cases hc : ccP t with
    | none => rw [hc] at h; cases h
    | some xk =>
      obtain ⟨x, k⟩ := xk
      obtain ⟨h1, h2⟩ := ccP_app (u := u) hc
      rw [hc] at h
      rw [h1]
      dsimp only at h ⊢
      cases hr : csP n (rest t k) with
      | none => rw [hr] at h; cases h
      | some r =>
        obtain ⟨c', m'⟩ := r
        obtain ⟨h3, h4⟩ := csP_app u hr
        rw [hr] at h
        cases h
        rw [rest_size] at h4
        rw [rest_app h2, h3]
        exact ⟨rfl, by dsimp only; omega⟩
theorem fd_app {f : Nat} (hf : f ≤ 9) {q q' : Rq} {t : ByteArray} {m : Nat} (u : ByteArray) (h : fdA f q t = some (q', m)) : fdA f q (t ++ u) = some (q', m) ∧ m ≤ t.size := by
  have key : ∀ {α : Type} {P : ByteArray → Option (α × Nat)} {g : α × Nat → Rq × Nat} (e : (P t).map g = some (q', m)) (hg : ∀ x, (g x).2 = x.2) (k : ∀ x j, P t = some (x, j) → P (t ++ u) = some (x, j) ∧ j ≤ t.size), (P (t ++ u)).map g = some (q', m) ∧ m ≤ t.size := by
    intro α P g e hg k
    obtain ⟨⟨x, j⟩, h1, h2⟩ := map_some e
    obtain ⟨h3, h4⟩ := k x j h1
    have := hg (x, j)
    rw [h2] at this
    refine ⟨by rw [h3]; exact congrArg some h2, ?_⟩
    have e2 : m = j := this
    omega
  by_cases h9 : f = 9
  · subst h9
    have h : fd9 q t = some (q', m) := h
    show fd9 q (t ++ u) = some (q', m) ∧ m ≤ t.size
    unfold fd9 at h ⊢
    cases hs : smP t with
    | none => rw [hs] at h; cases h
    | some nm =>
      obtain ⟨n, j⟩ := nm
      obtain ⟨h1, h2⟩ := smP_app (u := u) hs
      rw [hs] at h
      rw [h1]
      dsimp only at h ⊢
      split at h
      · rename_i h32
        rw [if_pos h32]
        cases hc : csP n (rest t j) with
        | none => rw [hc] at h; cases h
        | some r =>
          obtain ⟨c, k⟩ := r
          obtain ⟨h3, h4⟩ := csP_app u hc
          rw [hc] at h
          cases h
          rw [rest_size] at h4
          rw [rest_app h2, h3]
          exact ⟨rfl, by dsimp only; omega⟩
      · cases h
  have hf : f ≤ 8 := by omega
  rw [fdA_n h9] at h ⊢
  clear h9
  match f, hf, h with
  | 0, _, h => exact key (P := smP) (show (smP t).map _ = _ from h) (fun _ => rfl) fun x j hx => smP_app hx
  | 4, _, h => exact key (P := smP) (show (smP t).map _ = _ from h) (fun _ => rfl) fun x j hx => smP_app hx
  | 8, _, h => exact key (P := smP) (show (smP t).map _ = _ from h) (fun _ => rfl) fun x j hx => smP_app hx
  | 1, _, h =>
    refine key (P := laP) (show (laP t).map _ = _ from h) (fun _ => rfl) fun x j hx => ?_
    unfold laP at hx ⊢
    cases hp : begP [108] t with
    | err e => rw [hp] at hx; cases hx
    | ok l i =>
      obtain ⟨n', s, q, k, rfl⟩ := beg_1 sh_1l hp
      rw [begP_app hp]
      rw [hp] at hx
      cases hx
      exact ⟨rfl, begP_le hp⟩
  | 2, _, h =>
    refine key (P := anP) (show (anP t).map _ = _ from h) (fun _ => rfl) fun x j hx => ?_
    unfold anP at hx ⊢
    cases hp : begP [110] t with
    | err e => rw [hp] at hx; cases hx
    | ok l i =>
      obtain ⟨n', s, q, k, rfl⟩ := beg_1 sh_1n hp
      rw [begP_app hp]
      rw [hp] at hx
      cases hx
      exact ⟨rfl, begP_le hp⟩
  | 3, _, h =>
    refine key (P := trP) (show (trP t).map _ = _ from h) (fun _ => rfl) fun x j hx => ?_
    unfold trP at hx ⊢
    cases hp : begP [98] t with
    | err e => rw [hp] at hx; cases hx
    | ok l i =>
      obtain ⟨n', s, q, k, rfl⟩ := beg_1 sh_1b hp
      rw [begP_app hp]
      rw [hp] at hx
      dsimp only at hx ⊢
      split at hx
      · rename_i hh
        cases hx
        exact ⟨if_pos hh, begP_le hp⟩
      · cases hx
  | 5, _, h =>
    refine key (P := teP) (show (teP t).map _ = _ from h) (fun _ => rfl) fun x j hx => ?_
    unfold teP at hx ⊢
    cases hp : begP [116] t with
    | err e => rw [hp] at hx; cases hx
    | ok l i =>
      obtain ⟨n', s, q, k, rfl⟩ := beg_1 sh_1t hp
      rw [begP_app hp]
      rw [hp] at hx
      cases hx
      exact ⟨rfl, begP_le hp⟩
  | 6, _, h => exact key (P := vaP) (show (vaP t).map _ = _ from h) (fun _ => rfl) fun x j hx => vaP_app hx
  | 7, _, h =>
    refine key (P := raP) (show (raP t).map _ = _ from h) (fun _ => rfl) fun x j hx => ?_
    unfold raP at hx ⊢
    cases hp : begP [116, 116, 110] t with
    | err e => rw [hp] at hx; cases hx
    | ok l i =>
      have hl := begP_length sh_ttn hp
      have hm := begP_le hp
      rw [begP_app hp]
      match l, hl, hx, hp with
      | [.mk a s1 l1 k1, .mk b s2 l2 k2, .mk c s3 l3 k3], _, hx, hp =>
        rw [hp] at hx
        dsimp only at hx ⊢
        split at hx
        · rename_i hh
          cases hx
          exact ⟨if_pos hh, hm⟩
        · cases hx
  | f + 9, h, _ => exact absurd h (by omega)
theorem fds_app : ∀ {L : List Nat}, (∀ f ∈ L, f ≤ 9) → ∀ {q q' : Rq} {t t' : ByteArray} (u : ByteArray), fdsP L q t = some (q', t') → fdsP L q (t ++ u) = some (q', t' ++ u)
  | [], _, q, q', t, t', u, h => by cases h; rfl
  | f :: L, hL, q, q', t, t', u, h => by
    unfold fdsP at h ⊢
    cases hd : fdA f q t with
    | none => rw [hd] at h; cases h
    | some qm =>
      obtain ⟨q1, m⟩ := qm
      obtain ⟨h1, h2⟩ := fd_app (hL f (List.mem_cons_self ..)) u hd
      rw [hd] at h
      rw [h1]
      dsimp only at h ⊢
      rw [rest_app h2]
      exact fds_app (fun x hx => hL x (List.mem_cons_of_mem _ hx)) u h
theorem ext_rest {X : ByteArray} {n : Nat} (h : n < X.size) : X = X.extract 0 n ++ rest X n ∧ (rest X n).size ≠ 0 := by
  refine ⟨?_, by rw [rest_size]; omega⟩
  apply byL_inj
  rw [byL_append, rest_byL, extractB, List.drop_zero, List.take_append_drop]
/-- No proper beginning of a request's bytes is one. -/
theorem rq_apart {X : ByteArray} {q : Rq} (h : rqP X = some q) {n : Nat} (hn : n < X.size) : rqP (X.extract 0 n) = none := by
  obtain ⟨e1, e2⟩ := ext_rest hn
  generalize X.extract 0 n = p at e1 ⊢
  generalize rest X n = u at e1 e2
  subst e1
  cases hq : rqP p with
  | none => rfl
  | some q' =>
    exfalso
    unfold rqP at h hq
    cases hp : begP [98] p with
    | err e => rw [hp] at hq; cases hq
    | ok l j =>
      obtain ⟨k, s, x, y, rfl⟩ := beg_1 sh_1b hp
      have hm := begP_le hp
      rw [begP_app hp] at h
      rw [hp] at hq
      dsimp only at h hq
      rw [rest_app hm] at h
      cases hf : fdsP (fldL (k : Nat)) (q00 k) (rest p j) with
      | none => rw [hf] at hq; cases hq
      | some r =>
        obtain ⟨a, t⟩ := r
        rw [fds_app (fun f hf => by have := fldL_lt hf; omega) u hf] at h
        dsimp only at h
        split at h
        · rename_i hh
          have := hh.1
          rw [size_append] at this
          omega
        · cases h
/-! ### Responses: what is left behind one -/
def rwP (t : ByteArray) : Option ByteArray := match begP [110, 116] t with
  | .ok [.mk a _ _ _, .mk _ _ _ _] m => if a ≤ 2147483647 then (vaP (rest t m)).map fun x => rest (rest t m) x.2 else none
  | _ => none
def rowsP : Nat → ByteArray → Option ByteArray
  | 0, t => some t
  | n + 1, t => match rwP t with
    | some u => rowsP n u
    | none => none
def tlP (t : ByteArray) : Option ByteArray := match begP [110, 110, 110, 110, 110] t with
  | .ok [.mk a _ _ _, .mk _ _ _ _, .mk _ _ _ _, .mk _ _ _ _, .mk _ _ _ _] m => if a ≤ 2147483647 then some (rest t m) else none
  | _ => none
def vlP (h : Nat) (t : ByteArray) : Option ByteArray := if h = 1 then (vaP t).map fun x => rest t x.2 else some t
def nrP (t : ByteArray) : Option ByteArray := match smP t with
  | some (n, m) => if n ≤ 64 then (match rowsP n (rest t m) with | some u => tlP u | none => none) else none
  | none => none
def bdP (t : ByteArray) : Option ByteArray := match begP [110, 98] t with
  | .ok [.mk _ _ _ _, .mk h _ _ _] m => if h ≤ 1 then (match vlP h (rest t m) with | some u => nrP u | none => none) else none
  | _ => none
def rsP (s : ByteArray) : Option ByteArray := match begP [98] s with
  | .ok [.mk c _ _ _] m => if c = 0 then bdP (rest s m) else some (rest s m)
  | _ => none
theorem sh_nb : shP [110, 98] = some [(110, false), (98, false)] := by decide
theorem sh_nt : shP [110, 116] = some [(110, false), (116, false)] := by decide
theorem sh_n5 : shP [110, 110, 110, 110, 110] = some [(110, false), (110, false), (110, false), (110, false), (110, false)] := by decide
theorem rwP_app {t u v : ByteArray} (h : rwP t = some u) : rwP (t ++ v) = some (u ++ v) := by
  unfold rwP at h ⊢
  cases hp : begP [110, 116] t with
  | err e => rw [hp] at h; cases h
  | ok l j =>
    have hl := begP_length sh_nt hp
    have hm := begP_le hp
    rw [begP_app hp]
    match l, hl, h, hp with
    | [.mk a s1 l1 k1, .mk b s2 l2 k2], _, h, hp =>
      rw [hp] at h
      dsimp only at h ⊢
      split at h
      · rename_i hh
        rw [if_pos hh]
        obtain ⟨⟨x, k⟩, h1, h2⟩ := map_some h
        obtain ⟨h3, h4⟩ := vaP_app (u := v) h1
        dsimp only at h2
        rw [rest_app hm, h3, ← h2]
        show some (rest (rest t j ++ v) k) = _
        rw [rest_app h4]
      · cases h
theorem rowsP_app {v : ByteArray} : ∀ {n : Nat} {t u : ByteArray}, rowsP n t = some u → rowsP n (t ++ v) = some (u ++ v)
  | 0, t, u, h => by cases h; rfl
  | n + 1, t, u, h => by
    unfold rowsP at h ⊢
    cases hr : rwP t with
    | none => rw [hr] at h; cases h
    | some w =>
      rw [hr] at h
      rw [rwP_app hr]
      exact rowsP_app h
theorem tlP_app {t u v : ByteArray} (h : tlP t = some u) : tlP (t ++ v) = some (u ++ v) := by
  unfold tlP at h ⊢
  cases hp : begP [110, 110, 110, 110, 110] t with
  | err e => rw [hp] at h; cases h
  | ok l j =>
    have hl := begP_length sh_n5 hp
    have hm := begP_le hp
    rw [begP_app hp]
    match l, hl, h, hp with
    | [.mk a _ _ _, .mk _ _ _ _, .mk _ _ _ _, .mk _ _ _ _, .mk _ _ _ _], _, h, hp =>
      rw [hp] at h
      dsimp only at h ⊢
      split at h
      · rename_i hh
        rw [if_pos hh, rest_app hm]
        cases h
        rfl
      · cases h
theorem vlP_app {h : Nat} {t u v : ByteArray} (hh : vlP h t = some u) : vlP h (t ++ v) = some (u ++ v) := by
  unfold vlP at hh ⊢
  split at hh
  · rename_i h1
    rw [if_pos h1]
    obtain ⟨⟨x, k⟩, h1, h2⟩ := map_some hh
    obtain ⟨h3, h4⟩ := vaP_app (u := v) h1
    dsimp only at h2
    rw [h3, ← h2]
    show some (rest (t ++ v) k) = _
    rw [rest_app h4]
  · rename_i h1
    rw [if_neg h1]
    cases hh
    rfl
theorem nrP_app {t u v : ByteArray} (h : nrP t = some u) : nrP (t ++ v) = some (u ++ v) := by
  unfold nrP at h ⊢
  cases hs : smP t with
  | none => rw [hs] at h; cases h
  | some nm =>
    obtain ⟨n, m⟩ := nm
    obtain ⟨h1, h2⟩ := smP_app (u := v) hs
    rw [hs] at h
    rw [h1]
    dsimp only at h ⊢
    split at h
    · rename_i h64
      rw [if_pos h64, rest_app h2]
      cases hr : rowsP n (rest t m) with
      | none => rw [hr] at h; cases h
      | some w =>
        rw [hr] at h
        rw [rowsP_app hr]
        exact tlP_app h
    · cases h
theorem bdP_app {t u v : ByteArray} (h : bdP t = some u) : bdP (t ++ v) = some (u ++ v) := by
  unfold bdP at h ⊢
  cases hp : begP [110, 98] t with
  | err e => rw [hp] at h; cases h
  | ok l j =>
    have hl := begP_length sh_nb hp
    have hm := begP_le hp
    rw [begP_app hp]
    match l, hl, h, hp with
    | [.mk a s1 l1 k1, .mk b s2 l2 k2], _, h, hp =>
      rw [hp] at h
      dsimp only at h ⊢
      split at h
      · rename_i hh
        rw [if_pos hh, rest_app hm]
        cases hv : vlP b (rest t j) with
        | none => rw [hv] at h; cases h
        | some w =>
          rw [hv] at h
          rw [vlP_app hv]
          exact nrP_app h
      · cases h
theorem rsP_app {t u v : ByteArray} (h : rsP t = some u) : rsP (t ++ v) = some (u ++ v) := by
  unfold rsP at h ⊢
  cases hp : begP [98] t with
  | err e => rw [hp] at h; cases h
  | ok l j =>
    obtain ⟨k, s, x, y, rfl⟩ := beg_1 sh_1b hp
    have hm := begP_le hp
    rw [begP_app hp]
    rw [hp] at h
    dsimp only at h ⊢
    rw [rest_app hm]
    split at h
    · rename_i hh
      rw [if_pos hh]
      exact bdP_app h
    · rename_i hh
      rw [if_neg hh]
      cases h
      rfl
/-- No proper beginning of bytes that are read to their end is. -/
theorem rs_apart {X : ByteArray} (h : rsP X = some emp) {n : Nat} (hn : n < X.size) : ∀ u, rsP (X.extract 0 n) = some u → u.size ≠ 0 := by
  obtain ⟨e1, e2⟩ := ext_rest hn
  generalize X.extract 0 n = p at e1 ⊢
  generalize rest X n = v at e1 e2
  subst e1
  intro u hu hz
  rw [rsP_app hu] at h
  injection h with h
  have := congrArg ByteArray.size h
  rw [size_append] at this
  have h0 : emp.size = 0 := rfl
  omega
/-! What is told is read to its end. -/
theorem rest_BA (a : List Nat) : rest (BA a) a.length = emp := by
  have := rest_append a emp
  rw [show BA a ++ emp = BA a from by apply byL_inj; rw [byL_append]; exact List.append_nil _] at this
  exact this
theorem rw_inv {w : Rw} (h : fitsB w = true) (hb : w.b < 18446744073709551616) (t : ByteArray) : rwP (BA (rwB w) ++ t) = some t := by
  obtain ⟨_, r2, r3, r4⟩ := rwB_len h
  obtain ⟨r, k, n, x, b⟩ := w
  dsimp only at r2 r3 r4 hb
  obtain ⟨r, rfl⟩ : ∃ m : Nat, r = (m : Int) := ⟨r.toNat, by omega⟩
  have e : BA (rwB ⟨r, k, n, x, b⟩) = BA (numN r ++ txB k) ++ BA (txB (packV n x b)) := by
    rw [BA_append]
    unfold rwB
    rw [List.append_assoc]
    rfl
  have hp : printS [110, 116] [Pi.it ⟨r, emp⟩, Pi.it ⟨0, k⟩] = some (numN r ++ txB k) := by
    unfold printS
    rw [sh_nt]
    show cat2 (oneP 110 (Pi.it ⟨r, emp⟩)) (cat2 (oneP 116 (Pi.it ⟨0, k⟩)) (some [])) = _
    rw [one_n_N, one_t_T r3]
    simp [cat2, txB]
  unfold rwP
  rw [e, ByteArray.append_assoc, beg_inv (l := [Pi.it ⟨r, emp⟩, Pi.it ⟨0, k⟩]) (fun x hx => by
    simp only [List.mem_cons, List.not_mem_nil, or_false] at hx
    rcases hx with rfl | rfl
    · exact wi_pi (by omega) (by decide)
    · exact wi_pi (by decide) (by omega)) hp]
  show (if r ≤ 2147483647 then (vaP (rest _ (numN r ++ txB k).length)).map _ else none) = _
  rw [if_pos (by omega), rest_append, vaP_inv hb r4]
  show some (rest _ _) = _
  rw [rest_append]
theorem rows_inv : ∀ {L : List Rw}, (∀ w ∈ L, fitsB w = true ∧ w.b < 18446744073709551616) → ∀ t, rowsP L.length (BA (L.flatMap rwB) ++ t) = some t
  | [], _, t => by
    show some (BA [] ++ t) = some t
    rw [show BA [] ++ t = t from by apply byL_inj; rw [byL_append]; rfl]
  | w :: L, h, t => by
    obtain ⟨h1, h2⟩ := h w (List.mem_cons_self ..)
    rw [List.flatMap_cons, ← BA_append, ByteArray.append_assoc, List.length_cons]
    unfold rowsP
    rw [rw_inv h1 h2]
    exact rows_inv (fun x hx => h x (List.mem_cons_of_mem _ hx)) t
theorem rs_inv {p : Rp} (hp : p.ok) (hc : p.c = 0) (hr : FitsB p = true) : rsP (BA (rsB p)) = some emp := by
  obtain ⟨hv, hll, hall, htc⟩ := fits_0 hc hr
  have hbn := bN_le p.h
  have e : BA (rsB p) = BA [0] ++ (BA (nbB p) ++ (BA (voB p) ++ (BA (numN p.L.length) ++ (BA (p.L.flatMap rwB) ++ BA (tlB p))))) := by
    simp only [BA_append]
    unfold rsB hdB
    simp only [List.append_assoc]
  unfold rsP
  rw [e, beg_inv (l := [Pi.it ⟨0, emp⟩]) (fun x hx => by rw [List.mem_singleton.1 hx]; exact wi_pi (by decide) (by decide)) (pr_b (by decide))]
  show (if 0 = 0 then bdP (rest _ [0].length) else _) = _
  rw [if_pos rfl, rest_append]
  unfold bdP
  rw [show nbB p = numN p.n ++ [bN p.h] from rfl, beg_inv (l := [Pi.it ⟨p.n, emp⟩, Pi.it ⟨bN p.h, emp⟩]) (fun x hx => by
    simp only [List.mem_cons, List.not_mem_nil, or_false] at hx
    rcases hx with rfl | rfl
    · exact wi_pi hp.n (by decide)
    · exact wi_pi (by omega) (by decide)) (pr_nb p.n (by omega))]
  show (if bN p.h ≤ 1 then (match vlP (bN p.h) (rest _ (numN p.n ++ [bN p.h]).length) with | some u => nrP u | none => none) else none) = _
  rw [if_pos hbn, rest_append]
  have hvl : ∀ t, vlP (bN p.h) (BA (voB p) ++ t) = some t := fun t => by
    unfold vlP voB
    cases p.h with
    | true =>
      rw [if_pos (show bN true = 1 from rfl)]
      show (vaP (BA (txB (packV p.vn p.vt p.vb)) ++ t)).map _ = _
      rw [vaP_inv hp.vb hv]
      show some (rest (BA (txB (packV p.vn p.vt p.vb)) ++ t) (txB (packV p.vn p.vt p.vb)).length) = some t
      rw [rest_append]
    | false =>
      rw [if_neg (show ¬ bN false = 1 from by decide)]
      show some (BA [] ++ t) = some t
      rw [show BA [] ++ t = t from by apply byL_inj; rw [byL_append]; rfl]
  rw [hvl]
  dsimp only
  unfold nrP
  rw [smP_inv (by omega)]
  dsimp only
  rw [if_pos hll, rest_append, rows_inv fun w hw => ⟨hall w hw, hp.b w hw⟩]
  dsimp only
  unfold tlP
  obtain ⟨k, hk⟩ : ∃ k : Nat, p.tc = (k : Int) := ⟨p.tc.toNat, by omega⟩
  have et : tlB p = numN k ++ (numN p.ts ++ (numN p.tl ++ (numN p.tm ++ numN p.te))) := by unfold tlB; rw [hk, Int.toNat_natCast]
  have hb := beg_inv (l := [Pi.it ⟨k, emp⟩, Pi.it ⟨p.ts, emp⟩, Pi.it ⟨p.tl, emp⟩, Pi.it ⟨p.tm, emp⟩, Pi.it ⟨p.te, emp⟩]) (fun x hx => by
    simp only [List.mem_cons, List.not_mem_nil, or_false] at hx
    rcases hx with rfl | rfl | rfl | rfl | rfl
    · exact wi_pi (by omega) (by decide)
    · exact wi_pi hp.ts (by decide)
    · exact wi_pi hp.tl (by decide)
    · exact wi_pi hp.tm (by decide)
    · exact wi_pi hp.te (by decide)) (pr_n5 k p.ts p.tl p.tm p.te) emp
  rw [show ∀ a, BA a ++ emp = BA a from fun a => by apply byL_inj; rw [byL_append]; exact List.append_nil _, ← et] at hb
  rw [hb]
  show (if k ≤ 2147483647 then some (rest (BA (tlB p)) (tlB p).length) else none) = _
  rw [if_pos (by omega), rest_BA]
theorem rs_code {c : Nat} (h0 : c ≠ 0) (h : c ≤ 20) : rsP (BA [c]) = some emp := by
  have hb := beg_inv (l := [Pi.it ⟨c, emp⟩]) (fun x hx => by rw [List.mem_singleton.1 hx]; exact wi_pi (by omega) (by decide)) (pr_b (n := c) (by omega)) emp
  rw [show BA [c] ++ emp = BA [c] from by apply byL_inj; rw [byL_append]; exact List.append_nil _] at hb
  unfold rsP
  rw [hb]
  show (if c = 0 then _ else some (rest (BA [c]) [c].length)) = _
  rw [if_neg h0, rest_BA]
end Go.Proofs.Ytgchhmfobkcnfaa.A
