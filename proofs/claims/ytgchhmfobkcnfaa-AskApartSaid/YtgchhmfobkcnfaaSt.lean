/- ask: what is read of bytes, in plain law. No condition. -/
import Derived.Test.YtgchhmfobkcnfaaSr
import Derived.Test.YtgchhmfobkcnfaaWu
import Derived.Test.YtgchhmfobkcnfaaVd
namespace Go.Proofs.Ytgchhmfobkcnfaa.A
open Go
set_option linter.unusedVariables false
set_option linter.unusedSimpArgs false
set_option maxRecDepth 100000
set_option pp.maxSteps 400

def fdA (f : Nat) (q : Rq) (t : ByteArray) : Option (Rq × Nat) := if f = 9 then fd9 q t else fdP f q t
def fdsP : List Nat → Rq → ByteArray → Option (Rq × ByteArray)
  | [], q, t => some (q, t)
  | f :: L, q, t => match fdA f q t with
    | some (q', m) => fdsP L q' (rest t m)
    | none => none
def q00 (k : Nat) : Rq := ⟨(k : Nat), 0, [], 0, false, 0, ⟨#[]⟩, false, ⟨#[]⟩, 0, ⟨#[]⟩, ⟨#[]⟩, 0, 0, []⟩
/-- What bytes say of a request. -/
def rqP (s : ByteArray) : Option Rq := match begP [98] s with
  | .ok [.mk n _ _ _] m => match fdsP (fldL (n : Nat)) (q00 n) (rest s m) with
    | some (q, t) => if t.size = 0 ∧ rqB q = true then some q else none
    | none => none
  | _ => none
/-- A field of a request, laid into another. -/
def cpF (q a : Rq) : Nat → Rq
  | 0 => { a with w := q.w }
  | 1 => { a with l := q.l }
  | 2 => { a with g := q.g }
  | 3 => { a with m := q.m }
  | 4 => { a with r := q.r }
  | 5 => { a with key := q.key }
  | 6 => { a with vn := q.vn, vt := q.vt, vb := q.vb }
  | 7 => { a with f := q.f, t := q.t, lim := q.lim }
  | 8 => { a with n := q.n }
  | _ => { a with c := q.c }
theorem smP_inv {n : Nat} (h : n ≤ 2147483647) (t : ByteArray) : smP (BA (numN n) ++ t) = some (n, (numN n).length) := by
  unfold smP
  rw [beg_inv (l := [Pi.it ⟨n, emp⟩]) (fun x hx => by rw [List.mem_singleton.1 hx]; exact wi_pi (by omega) (by decide)) (pr_n n) t]
  show (if n ≤ 2147483647 then some (n, (numN n).length) else none) = _
  rw [if_pos h]
theorem anP_inv {n : Nat} (h : n < 18446744073709551616) (t : ByteArray) : anP (BA (numN n) ++ t) = some (n, (numN n).length) := by
  unfold anP
  rw [beg_inv (l := [Pi.it ⟨n, emp⟩]) (fun x hx => by rw [List.mem_singleton.1 hx]; exact wi_pi h (by decide)) (pr_n n) t]
  rfl
theorem teP_inv {s : ByteArray} (h : s.size ≤ 200) (t : ByteArray) : teP (BA (txB s) ++ t) = some (s, (txB s).length) := by
  unfold teP
  rw [beg_inv (l := [Pi.it ⟨0, s⟩]) (fun x hx => by rw [List.mem_singleton.1 hx]; exact wi_pi (by decide) (by omega)) (pr_t h) t]
  rfl
theorem trP_inv (m : Bool) (t : ByteArray) : trP (BA [bN m] ++ t) = some (m, 1) := by
  have hb := bN_le m
  unfold trP
  rw [beg_inv (l := [Pi.it ⟨bN m, emp⟩]) (fun x hx => by rw [List.mem_singleton.1 hx]; exact wi_pi (by omega) (by decide)) (pr_b (by omega)) t]
  show (if bN m ≤ 1 then some (decide (bN m = 1), 1) else none) = _
  rw [if_pos hb]
  cases m <;> rfl
theorem laP_inv {l : List Nat} (h : rightB l = true) (hx : ∀ y ∈ l, y < 18446744073709551616) (t : ByteArray) : laP (BA (packN l) ++ t) = some (l, (packN l).length) := by
  unfold laP
  rw [beg_inv (l := [.mk 0 emp l []]) (fun x hx2 => by rw [List.mem_singleton.1 hx2]; exact .mk _ _ _ _ (by decide) (by have := rightB_len h; omega) hx (by decide) (by decide) (by simp)) (pr_l h) t]
theorem vaP_inv {n : Bool} {x : ByteArray} {b : Nat} (hb : b < 18446744073709551616) (h : rightV n x b = true) (t : ByteArray) : vaP (BA (txB (packV n x b)) ++ t) = some ((n, x, b), (txB (packV n x b)).length) := by
  have hz := spackV_size h
  unfold vaP
  rw [beg_inv (l := [Pi.it ⟨0, packV n x b⟩]) (fun y hx => by rw [List.mem_singleton.1 hx]; exact wi_pi (by decide) (by omega)) (pr_t (by omega)) t]
  show (if (upV (packV n x b)).2.2.2 = 0 then some (((upV (packV n x b)).1, (upV (packV n x b)).2.1, (upV (packV n x b)).2.2.1), (txB (packV n x b)).length) else none) = _
  rw [up_pack hb h]
  exact if_pos rfl
theorem raP_inv {s u : ByteArray} {n : Nat} (h : s.size ≤ 200) (h' : u.size ≤ 200) (hn : n ≤ 2147483647) (t : ByteArray) : raP (BA (txB s ++ (txB u ++ numN n)) ++ t) = some ((s, u, n), (txB s ++ (txB u ++ numN n)).length) := by
  unfold raP
  rw [beg_inv (l := [Pi.it ⟨0, s⟩, Pi.it ⟨0, u⟩, Pi.it ⟨n, emp⟩]) (fun x hx => by
    simp only [List.mem_cons, List.not_mem_nil, or_false] at hx
    rcases hx with rfl | rfl | rfl
    · exact wi_pi (by decide) (by omega)
    · exact wi_pi (by decide) (by omega)
    · exact wi_pi (by omega) (by decide)) (pr_ttn n h h') t]
  show (if n ≤ 2147483647 then some ((s, u, n), _) else none) = _
  rw [if_pos hn]
theorem ccP_inv {a b : Nat} (h : a ≤ 2147483647) (hb : b < 18446744073709551616) (t : ByteArray) : ccP (BA (cdB (((a : Nat) : Int), b)) ++ t) = some ((((a : Nat) : Int), b), (cdB (((a : Nat) : Int), b)).length) := by
  unfold ccP
  rw [show cdB (((a : Nat) : Int), b) = numN a ++ numN b from by unfold cdB; rw [Int.toNat_natCast], beg_inv (l := [Pi.it ⟨a, emp⟩, Pi.it ⟨b, emp⟩]) (fun x hx => by
    simp only [List.mem_cons, List.not_mem_nil, or_false] at hx
    rcases hx with rfl | rfl
    · exact wi_pi (by omega) (by decide)
    · exact wi_pi (by omega) (by decide)) (pr_nn a b) t]
  show (if a ≤ 2147483647 then some ((((a : Nat) : Int), b), _) else none) = _
  rw [if_pos h]
theorem csP_inv : ∀ {c : List (Int × Nat)}, (∀ x ∈ c, 1 ≤ x.1 ∧ x.1 ≤ 16 ∧ x.2 < 18446744073709551616) → ∀ t, csP c.length (BA (c.flatMap cdB) ++ t) = some (c, (c.flatMap cdB).length)
  | [], _, t => rfl
  | (op, b) :: c, h, t => by
    obtain ⟨h1, h2, h3⟩ := h _ (List.mem_cons_self ..)
    dsimp only at h1 h2 h3
    obtain ⟨a, rfl⟩ : ∃ p : Nat, op = (p : Int) := ⟨op.toNat, by omega⟩
    rw [List.flatMap_cons, ← BA_append, ByteArray.append_assoc, List.length_cons]
    unfold csP
    rw [ccP_inv (by omega) h3]
    dsimp only
    rw [rest_append, csP_inv (fun x hx => h x (List.mem_cons_of_mem _ hx)), List.length_append]
    rfl
theorem fd9_inv {c : List (Int × Nat)} (h : rightP c = true) (hb : ∀ y ∈ c, y.2 < 18446744073709551616) (a : Rq) (t : ByteArray) : fd9 a (BA (numN c.length ++ c.flatMap cdB) ++ t) = some ({ a with c := c }, (numN c.length ++ c.flatMap cdB).length) := by
  obtain ⟨h1, h2⟩ := rightP_cd h
  unfold fd9
  rw [← BA_append, ByteArray.append_assoc, smP_inv (by omega)]
  dsimp only
  rw [if_pos h1.2, rest_append, csP_inv fun x hx => ⟨(h2 x hx).1, (h2 x hx).2, hb x hx⟩, List.length_append]
  rfl
theorem fdA_n {f : Nat} {q : Rq} {t : ByteArray} (h : f ≠ 9) : fdA f q t = fdP f q t := if_neg h
/-- A field that was told is read. -/
theorem fd_inv {q : Rq} (h : q.ok) {f : Nat} (hf : f ≤ 9) (hn : nmB q f = true) (a : Rq) (t : ByteArray) : fdA f a (BA (fB q f) ++ t) = some (cpF q a f, (fB q f).length) := by
  obtain ⟨hl, hx, hg, hvb, hc, hb⟩ := h
  obtain ⟨k, w, l, g, m, r, key, vn, vt, vb, fr, tt, lim, n, c⟩ := q
  dsimp only at hl hx hg hvb hc hb
  match f, hf, hn with
  | 0, _, hn =>
    have hn' : 0 ≤ w ∧ w ≤ 7 := of_decide_eq_true hn
    obtain ⟨w, rfl⟩ : ∃ n9 : Nat, w = (n9 : Int) := ⟨w.toNat, by omega⟩
    rw [fdA_n (by decide), show fB _ _ = numN w from rfl]
    unfold fdP
    rw [smP_inv (by omega)]
    rfl
  | 1, _, hn =>
    rw [fdA_n (by decide), show fB _ _ = packN l from rfl]
    unfold fdP
    rw [laP_inv hn hx]
    rfl
  | 2, _, hn =>
    rw [fdA_n (by decide), show fB _ _ = numN g from rfl]
    unfold fdP
    rw [anP_inv hg]
    rfl
  | 3, _, hn =>
    rw [fdA_n (by decide), show fB _ _ = [bN m] from rfl]
    unfold fdP
    rw [trP_inv]
    rfl
  | 4, _, hn =>
    have hn' : 0 ≤ r ∧ r ≤ 7 := of_decide_eq_true hn
    obtain ⟨r, rfl⟩ : ∃ n9 : Nat, r = (n9 : Int) := ⟨r.toNat, by omega⟩
    rw [fdA_n (by decide), show fB _ _ = numN r from rfl]
    unfold fdP
    rw [smP_inv (by omega)]
    rfl
  | 5, _, hn =>
    have hk : 1 ≤ key.size ∧ key.size ≤ 32 := of_decide_eq_true hn
    rw [fdA_n (by decide), show fB _ _ = txB key from rfl]
    unfold fdP
    rw [teP_inv (by omega)]
    rfl
  | 6, _, hn =>
    rw [fdA_n (by decide), show fB _ _ = txB (packV vn vt vb) from rfl]
    unfold fdP
    rw [vaP_inv hvb hn]
    rfl
  | 7, _, hn =>
    have hn' : (rngB fr tt lim && (decide (fr.size ≤ 32) && decide (tt.size ≤ 32))) = true := hn
    simp only [Bool.and_eq_true, decide_eq_true_eq] at hn'
    have hr := of_decide_eq_true hn'.1
    obtain ⟨lim, rfl⟩ : ∃ n9 : Nat, lim = (n9 : Int) := ⟨lim.toNat, by omega⟩
    rw [fdA_n (by decide), show fB _ _ = txB fr ++ (txB tt ++ numN lim) from rfl]
    unfold fdP
    rw [raP_inv (by omega) (by omega) (by omega)]
    rfl
  | 8, _, hn =>
    have hn' : 1 ≤ n ∧ n ≤ 4 := of_decide_eq_true hn
    obtain ⟨n, rfl⟩ : ∃ n9 : Nat, n = (n9 : Int) := ⟨n.toNat, by omega⟩
    rw [fdA_n (by decide), show fB _ _ = numN n from rfl]
    unfold fdP
    rw [smP_inv (by omega)]
    rfl
  | 9, _, hn => exact fd9_inv hn hb a t
  | f + 10, h, _ => exact absurd h (by omega)
theorem fds_inv {q : Rq} (h : q.ok) : ∀ {L : List Nat}, (∀ f ∈ L, f ≤ 9 ∧ nmB q f = true) → ∀ (a : Rq) (t : ByteArray), fdsP L a (BA (L.flatMap (fB q)) ++ t) = some (L.foldl (cpF q) a, t)
  | [], _, a, t => by
    show some (a, BA [] ++ t) = _
    rw [show BA [] ++ t = t from by apply byL_inj; rw [byL_append]; rfl]
    rfl
  | f :: L, hL, a, t => by
    obtain ⟨h1, h2⟩ := hL f (List.mem_cons_self ..)
    rw [List.flatMap_cons, ← BA_append, ByteArray.append_assoc]
    unfold fdsP
    rw [fd_inv h h1 h2]
    dsimp only
    rw [rest_append, fds_inv h fun x hx => hL x (List.mem_cons_of_mem _ hx)]
    rfl
theorem fold_bare (q : Rq) (n : Nat) (h : q.k = (n : Nat)) : (fldL (n : Nat)).foldl (cpF q) (q00 n) = bareQ q := by
  unfold bareQ
  rw [h]
  unfold fldL
  obtain ⟨k, w, l, g, m, r, key, vn, vt, vb, fr, tt, lim, n', c⟩ := q
  dsimp only at h
  subst h
  repeat' split
  all_goals rfl
/-- What was told of a request is read as it was. -/
theorem rq_inv {q : Rq} (h : q.ok) (hr : rqB q = true) : rqP (BA (pkB q)) = some q := by
  obtain ⟨hk, hb, hn⟩ := (rq_iff q).1 hr
  obtain ⟨n, hn'⟩ : ∃ n : Nat, q.k = (n : Int) := ⟨q.k.toNat, by omega⟩
  have hbeg := beg_inv (l := [Pi.it ⟨n, emp⟩]) (b := [n]) (fun x hx => by rw [List.mem_singleton.1 hx]; exact wi_pi (by omega) (by decide)) (pr_b (by omega)) (BA ((fldL (n : Nat)).flatMap (fB q)))
  have e : BA (pkB q) = BA [n] ++ BA ((fldL (n : Nat)).flatMap (fB q)) := by
    rw [BA_append]
    unfold pkB
    rw [hn', Int.toNat_natCast]
    rfl
  have hf := fds_inv h (L := fldL (n : Nat)) (fun f hf => by rw [← hn'] at hf; exact ⟨by have := fldL_lt hf; omega, hn f hf⟩) (q00 n) (BA [])
  rw [show BA ((fldL (n : Nat)).flatMap (fB q)) ++ BA [] = BA ((fldL (n : Nat)).flatMap (fB q)) from by rw [BA_append, List.append_nil], fold_bare q n hn', ← hb] at hf
  unfold rqP
  rw [e, hbeg]
  show (match fdsP (fldL (n : Nat)) (q00 n) (rest (BA [n] ++ BA ((fldL (n : Nat)).flatMap (fB q))) [n].length) with
    | some (q, t) => if t.size = 0 ∧ rqB q = true then some q else none
    | none => none) = _
  rw [rest_append, hf]
  show (if (BA []).size = 0 ∧ rqB q = true then some q else none) = _
  rw [if_pos ⟨by rw [BA_size]; rfl, hr⟩]
end Go.Proofs.Ytgchhmfobkcnfaa.A

namespace Go.Proofs.Ytgchhmfobkcnfaa.A
open Go
set_option linter.unusedVariables false
set_option linter.unusedSimpArgs false
set_option maxRecDepth 100000
set_option pp.maxSteps 400

theorem oneP98_inv {n : Nat} {s : ByteArray} {l : List Nat} {k : List It} {b : List Nat} (h : oneP 98 (.mk n s l k) = some b) : b = [n] ∧ n ≤ 255 := by
  rw [oneP_mk] at h
  split at h
  · rw [if_pos rfl] at h
    split at h
    · rename_i hh
      cases h
      exact ⟨rfl, hh.2⟩
    · cases h
  · cases h
theorem oneP110_inv {n : Nat} {s : ByteArray} {l : List Nat} {k : List It} {b : List Nat} (h : oneP 110 (.mk n s l k) = some b) : b = numN n := by
  rw [oneP_mk] at h
  split at h
  · rw [if_neg (by decide), if_pos rfl] at h
    split at h
    · cases h; rfl
    · cases h
  · cases h
theorem oneP116_inv {n : Nat} {s : ByteArray} {l : List Nat} {k : List It} {b : List Nat} (h : oneP 116 (.mk n s l k) = some b) : b = numN s.size ++ byL s := by
  rw [oneP_mk] at h
  split at h
  · rw [if_neg (by decide), if_neg (by decide), if_pos rfl] at h
    split at h
    · cases h; rfl
    · cases h
  · cases h
theorem oneP108_inv {n : Nat} {s : ByteArray} {l : List Nat} {k : List It} {b : List Nat} (h : oneP 108 (.mk n s l k) = some b) : b = packN l ∧ rightB l = true := by
  rw [oneP_mk] at h
  split at h
  · rw [if_neg (by decide), if_neg (by decide), if_neg (by decide), if_neg (by decide)] at h
    split at h
    · rename_i hh
      cases h
      exact ⟨rfl, hh.2⟩
    · cases h
  · cases h
theorem cat2_inv {x y : Option (List Nat)} {b : List Nat} (h : cat2 x y = some b) : ∃ u v, x = some u ∧ y = some v ∧ b = u ++ v := by
  cases x with
  | none => cases h
  | some u =>
    cases y with
    | none => cases h
    | some v => cases h; exact ⟨u, v, rfl, rfl, rfl⟩
theorem can_1 {c : Nat} (hc : shP [c] = some [(c, false)]) {t : ByteArray} {n : Nat} {s : ByteArray} {l : List Nat} {k : List It} {m : Nat} (h : begP [c] t = .ok [.mk n s l k] m) : oneP c (.mk n s l k) = some ((byL t).take m) ∧ WI (.mk n s l k) := by
  obtain ⟨hp, _, hw⟩ := beg_can h
  unfold printS at hp
  rw [hc] at hp
  replace hp : cat2 (oneP c (.mk n s l k)) (some []) = some ((byL t).take m) := hp
  obtain ⟨u, v, h1, h2, h3⟩ := cat2_inv hp
  cases h2
  rw [List.append_nil] at h3
  exact ⟨by rw [h1, h3], hw _ (List.mem_singleton.2 rfl)⟩
theorem can_nn {t : ByteArray} {a : Nat} {s1 : ByteArray} {l1 : List Nat} {k1 : List It} {b : Nat} {s2 : ByteArray} {l2 : List Nat} {k2 : List It} {m : Nat} (h : begP [110, 110] t = .ok [.mk a s1 l1 k1, .mk b s2 l2 k2] m) : (byL t).take m = numN a ++ numN b ∧ WI (.mk b s2 l2 k2) := by
  obtain ⟨hp, _, hw⟩ := beg_can h
  unfold printS at hp
  rw [sh_1nn] at hp
  replace hp : cat2 (oneP 110 (.mk a s1 l1 k1)) (cat2 (oneP 110 (.mk b s2 l2 k2)) (some [])) = some ((byL t).take m) := hp
  obtain ⟨u, v, h1, h2, h3⟩ := cat2_inv hp
  obtain ⟨u2, v2, h4, h5, h6⟩ := cat2_inv h2
  cases h5
  refine ⟨?_, hw _ (by simp)⟩
  rw [h3, h6, oneP110_inv h1, oneP110_inv h4]
  simp
theorem can_ttn {t : ByteArray} {a : Nat} {s1 : ByteArray} {l1 : List Nat} {k1 : List It} {n2 : Nat} {s2 : ByteArray} {l2 : List Nat} {k2 : List It} {n3 : Nat} {s3 : ByteArray} {l3 : List Nat} {k3 : List It} {m : Nat} (h : begP [116, 116, 110] t = .ok [.mk a s1 l1 k1, .mk n2 s2 l2 k2, .mk n3 s3 l3 k3] m) : (byL t).take m = txB s1 ++ (txB s2 ++ numN n3) := by
  have hp := (beg_can h).1
  unfold printS at hp
  rw [sh_ttn] at hp
  replace hp : cat2 (oneP 116 (.mk a s1 l1 k1)) (cat2 (oneP 116 (.mk n2 s2 l2 k2)) (cat2 (oneP 110 (.mk n3 s3 l3 k3)) (some []))) = some ((byL t).take m) := hp
  obtain ⟨u, v, h1, h2, h3⟩ := cat2_inv hp
  obtain ⟨u2, v2, h4, h5, h6⟩ := cat2_inv h2
  obtain ⟨u3, v3, h7, h8, h9⟩ := cat2_inv h5
  cases h8
  rw [h3, h6, h9, oneP116_inv h1, oneP116_inv h4, oneP110_inv h7]
  unfold txB
  simp
theorem beg_1 {c : Nat} (hc : shP [c] = some [(c, false)]) {t : ByteArray} {l : List It} {m : Nat} (h : begP [c] t = .ok l m) : ∃ n s q k, l = [.mk n s q k] := by
  have hl := begP_length hc h
  match l, hl with
  | [.mk n s q k], _ => exact ⟨n, s, q, k, rfl⟩
theorem smP_can {t : ByteArray} {n m : Nat} (h : smP t = some (n, m)) : numN n = (byL t).take m ∧ n ≤ 2147483647 := by
  unfold smP at h
  cases hp : begP [110] t with
  | err e => rw [hp] at h; cases h
  | ok l j =>
    obtain ⟨n', s, q, k, rfl⟩ := beg_1 sh_1n hp
    rw [hp] at h
    dsimp only at h
    split at h
    · rename_i hh
      cases h
      exact ⟨(oneP110_inv (can_1 sh_1n hp).1).symm, hh⟩
    · cases h
theorem anP_can {t : ByteArray} {n m : Nat} (h : anP t = some (n, m)) : numN n = (byL t).take m ∧ n < 18446744073709551616 := by
  unfold anP at h
  cases hp : begP [110] t with
  | err e => rw [hp] at h; cases h
  | ok l j =>
    obtain ⟨n', s, q, k, rfl⟩ := beg_1 sh_1n hp
    rw [hp] at h
    cases h
    obtain ⟨h1, h2⟩ := can_1 sh_1n hp
    refine ⟨(oneP110_inv h1).symm, ?_⟩
    cases h2
    assumption
theorem trP_can {t : ByteArray} {b : Bool} {m : Nat} (h : trP t = some (b, m)) : [bN b] = (byL t).take m := by
  unfold trP at h
  cases hp : begP [98] t with
  | err e => rw [hp] at h; cases h
  | ok l j =>
    obtain ⟨n', s, q, k, rfl⟩ := beg_1 sh_1b hp
    rw [hp] at h
    dsimp only at h
    split at h
    · rename_i hh
      cases h
      rw [(oneP98_inv (can_1 sh_1b hp).1).1]
      by_cases h1 : n' = 1
      · rw [h1]; rfl
      · rw [decide_eq_false h1]; show [0] = [n']; rw [show n' = 0 by omega]
    · cases h
theorem laP_can {t : ByteArray} {l : List Nat} {m : Nat} (h : laP t = some (l, m)) : packN l = (byL t).take m ∧ rightB l = true ∧ ∀ y ∈ l, y < 18446744073709551616 := by
  unfold laP at h
  cases hp : begP [108] t with
  | err e => rw [hp] at h; cases h
  | ok l' j =>
    obtain ⟨n', s, q, k, rfl⟩ := beg_1 sh_1l hp
    rw [hp] at h
    cases h
    obtain ⟨h1, h2⟩ := can_1 sh_1l hp
    obtain ⟨h3, h4⟩ := oneP108_inv h1
    refine ⟨h3.symm, h4, ?_⟩
    cases h2
    assumption
theorem teP_can {t : ByteArray} {s : ByteArray} {m : Nat} (h : teP t = some (s, m)) : txB s = (byL t).take m := by
  unfold teP at h
  cases hp : begP [116] t with
  | err e => rw [hp] at h; cases h
  | ok l j =>
    obtain ⟨n', s', q, k, rfl⟩ := beg_1 sh_1t hp
    rw [hp] at h
    cases h
    exact (oneP116_inv (can_1 sh_1t hp).1).symm
theorem vaP_can {t : ByteArray} {n : Bool} {x : ByteArray} {b m : Nat} (h : vaP t = some ((n, x, b), m)) : txB (packV n x b) = (byL t).take m ∧ b < 18446744073709551616 ∧ rightV n x b = true := by
  unfold vaP at h
  cases hp : begP [116] t with
  | err e => rw [hp] at h; cases h
  | ok l j =>
    obtain ⟨n', s', q, k, rfl⟩ := beg_1 sh_1t hp
    rw [hp] at h
    dsimp only at h
    split at h
    · rename_i he
      cases h
      have hc := (oneP116_inv (can_1 sh_1t hp).1).symm
      generalize hu : upV s' = u at *
      obtain ⟨n, x, b, e⟩ := u
      dsimp only at he ⊢
      subst he
      obtain ⟨r1, r2, r3⟩ := up_right hu
      refine ⟨?_, r1, r2⟩
      rw [r3]
      exact hc
    · cases h
theorem raP_can {t : ByteArray} {s u : ByteArray} {n m : Nat} (h : raP t = some ((s, u, n), m)) : txB s ++ (txB u ++ numN n) = (byL t).take m ∧ n ≤ 2147483647 := by
  unfold raP at h
  cases hp : begP [116, 116, 110] t with
  | err e => rw [hp] at h; cases h
  | ok l j =>
    have hl := begP_length sh_ttn hp
    match l, hl, h, hp with
    | [.mk a s1 l1 k1, .mk b s2 l2 k2, .mk c s3 l3 k3], _, h0, hp =>
      rw [hp] at h0
      have h : (if c ≤ 2147483647 then some ((s1, s2, c), j) else none) = some ((s, u, n), m) := h0
      clear h0
      split at h
      · rename_i hh
        cases h
        exact ⟨(can_ttn hp).symm, hh⟩
      · cases h
theorem ccP_can {t : ByteArray} {x : Int × Nat} {m : Nat} (h : ccP t = some (x, m)) : cdB x = (byL t).take m ∧ x.2 < 18446744073709551616 := by
  unfold ccP at h
  cases hp : begP [110, 110] t with
  | err e => rw [hp] at h; cases h
  | ok l j =>
    have hl := begP_length sh_1nn hp
    match l, hl, h, hp with
    | [.mk a s1 l1 k1, .mk b s2 l2 k2], _, h0, hp =>
      rw [hp] at h0
      have h : (if a ≤ 2147483647 then some ((((a : Nat) : Int), b), j) else none) = some (x, m) := h0
      clear h0
      split at h
      · cases h
        obtain ⟨h1, h2⟩ := can_nn hp
        refine ⟨?_, ?_⟩
        · rw [h1]; unfold cdB; rw [Int.toNat_natCast]
        · cases h2
          assumption
      · cases h
theorem csP_can : ∀ {n : Nat} {t : ByteArray} {c : List (Int × Nat)} {m : Nat}, csP n t = some (c, m) → c.length = n ∧ c.flatMap cdB = (byL t).take m ∧ ∀ y ∈ c, y.2 < 18446744073709551616
  | 0, t, c, m, h => by
    cases h
    exact ⟨rfl, rfl, fun y hy => by cases hy⟩
  | n + 1, t, c, m, h => by
    unfold csP at h
    cases hc : ccP t with
    | none => rw [hc] at h; cases h
    | some xk =>
      obtain ⟨x, k⟩ := xk
      rw [hc] at h
      dsimp only at h
      cases hr : csP n (rest t k) with
      | none => rw [hr] at h; cases h
      | some r =>
        obtain ⟨c', m'⟩ := r
        rw [hr] at h
        cases h
        obtain ⟨h1, h2, h3⟩ := csP_can hr
        obtain ⟨h4, h5⟩ := ccP_can hc
        refine ⟨by rw [List.length_cons, h1], ?_, fun y hy => ?_⟩
        · show (x :: c').flatMap cdB = (byL t).take (k + m')
          rw [List.flatMap_cons, h2, h4, rest_byL, List.take_add]
        · rcases List.mem_cons.1 hy with rfl | hy
          · exact h5
          · exact h3 y hy
theorem fd9_can {q q' : Rq} {t : ByteArray} {m : Nat} (h : fd9 q t = some (q', m)) : ∃ c : List (Int × Nat), q' = { q with c := c } ∧ numN c.length ++ c.flatMap cdB = (byL t).take m ∧ c.length ≤ 32 ∧ ∀ y ∈ c, y.2 < 18446744073709551616 := by
  unfold fd9 at h
  cases hs : smP t with
  | none => rw [hs] at h; cases h
  | some nm =>
    obtain ⟨n, j⟩ := nm
    rw [hs] at h
    dsimp only at h
    split at h
    · rename_i h32
      cases hc : csP n (rest t j) with
      | none => rw [hc] at h; cases h
      | some r =>
        obtain ⟨c, k⟩ := r
        rw [hc] at h
        cases h
        obtain ⟨h1, h2, h3⟩ := csP_can hc
        refine ⟨c, rfl, ?_, by omega, h3⟩
        show _ = (byL t).take (j + k)
        rw [h2, h1, (smP_can hs).1, rest_byL, List.take_add]
    · cases h
theorem map_some {α β : Type} {o : Option α} {f : α → β} {y : β} (h : o.map f = some y) : ∃ x, o = some x ∧ f x = y := by
  cases o with
  | none => cases h
  | some x => cases h; exact ⟨x, rfl, rfl⟩
/-- What a field is read as has these bytes; all else stays as it was. -/
theorem fd_can {f : Nat} (hf : f ≤ 9) {q q' : Rq} {t : ByteArray} {m : Nat} (h : fdA f q t = some (q', m)) (hq : q.ok) : q'.ok ∧ fB q' f = (byL t).take m ∧ (∀ g, g ≤ 9 → g ≠ f → fB q' g = fB q g) ∧ q'.k = q.k ∧ (f ≠ 9 → q'.c = q.c) ∧ (f ≠ 1 → q'.l = q.l) := by
  obtain ⟨hl, hx, hg, hvb, hc, hb⟩ := hq
  obtain ⟨k, w, l, g, mm, r, key, vn, vt, vb, fr, tt, lim, n, c⟩ := q
  dsimp only at hl hx hg hvb hc hb
  match f, hf, h with
  | 0, _, h =>
    obtain ⟨⟨x, j⟩, h1, h2⟩ := map_some (show (smP t).map _ = _ from h)
    cases h2
    refine ⟨⟨hl, hx, hg, hvb, hc, hb⟩, (smP_can h1).1, ?_, rfl, fun _ => rfl, fun _ => rfl⟩
    intro g hg hgn
    match g, hg, hgn with
    | 0, _, hgn => first | exact absurd rfl hgn | rfl
    | 1, _, hgn => first | exact absurd rfl hgn | rfl
    | 2, _, hgn => first | exact absurd rfl hgn | rfl
    | 3, _, hgn => first | exact absurd rfl hgn | rfl
    | 4, _, hgn => first | exact absurd rfl hgn | rfl
    | 5, _, hgn => first | exact absurd rfl hgn | rfl
    | 6, _, hgn => first | exact absurd rfl hgn | rfl
    | 7, _, hgn => first | exact absurd rfl hgn | rfl
    | 8, _, hgn => first | exact absurd rfl hgn | rfl
    | 9, _, hgn => first | exact absurd rfl hgn | rfl
    | g + 10, hg, _ => exact absurd hg (by omega)
  | 1, _, h =>
    obtain ⟨⟨x, j⟩, h1, h2⟩ := map_some (show (laP t).map _ = _ from h)
    cases h2
    obtain ⟨c1, c2, c3⟩ := laP_can h1
    refine ⟨⟨by have := rightB_len c2; show x.length < _; omega, c3, hg, hvb, hc, hb⟩, c1, ?_, rfl, fun _ => rfl, fun hh => absurd rfl hh⟩
    intro g hg hgn
    match g, hg, hgn with
    | 0, _, hgn => first | exact absurd rfl hgn | rfl
    | 1, _, hgn => first | exact absurd rfl hgn | rfl
    | 2, _, hgn => first | exact absurd rfl hgn | rfl
    | 3, _, hgn => first | exact absurd rfl hgn | rfl
    | 4, _, hgn => first | exact absurd rfl hgn | rfl
    | 5, _, hgn => first | exact absurd rfl hgn | rfl
    | 6, _, hgn => first | exact absurd rfl hgn | rfl
    | 7, _, hgn => first | exact absurd rfl hgn | rfl
    | 8, _, hgn => first | exact absurd rfl hgn | rfl
    | 9, _, hgn => first | exact absurd rfl hgn | rfl
    | g + 10, hg, _ => exact absurd hg (by omega)
  | 2, _, h =>
    obtain ⟨⟨x, j⟩, h1, h2⟩ := map_some (show (anP t).map _ = _ from h)
    cases h2
    refine ⟨⟨hl, hx, (anP_can h1).2, hvb, hc, hb⟩, (anP_can h1).1, ?_, rfl, fun _ => rfl, fun _ => rfl⟩
    intro g hg hgn
    match g, hg, hgn with
    | 0, _, hgn => first | exact absurd rfl hgn | rfl
    | 1, _, hgn => first | exact absurd rfl hgn | rfl
    | 2, _, hgn => first | exact absurd rfl hgn | rfl
    | 3, _, hgn => first | exact absurd rfl hgn | rfl
    | 4, _, hgn => first | exact absurd rfl hgn | rfl
    | 5, _, hgn => first | exact absurd rfl hgn | rfl
    | 6, _, hgn => first | exact absurd rfl hgn | rfl
    | 7, _, hgn => first | exact absurd rfl hgn | rfl
    | 8, _, hgn => first | exact absurd rfl hgn | rfl
    | 9, _, hgn => first | exact absurd rfl hgn | rfl
    | g + 10, hg, _ => exact absurd hg (by omega)
  | 3, _, h =>
    obtain ⟨⟨x, j⟩, h1, h2⟩ := map_some (show (trP t).map _ = _ from h)
    cases h2
    refine ⟨⟨hl, hx, hg, hvb, hc, hb⟩, trP_can h1, ?_, rfl, fun _ => rfl, fun _ => rfl⟩
    intro g hg hgn
    match g, hg, hgn with
    | 0, _, hgn => first | exact absurd rfl hgn | rfl
    | 1, _, hgn => first | exact absurd rfl hgn | rfl
    | 2, _, hgn => first | exact absurd rfl hgn | rfl
    | 3, _, hgn => first | exact absurd rfl hgn | rfl
    | 4, _, hgn => first | exact absurd rfl hgn | rfl
    | 5, _, hgn => first | exact absurd rfl hgn | rfl
    | 6, _, hgn => first | exact absurd rfl hgn | rfl
    | 7, _, hgn => first | exact absurd rfl hgn | rfl
    | 8, _, hgn => first | exact absurd rfl hgn | rfl
    | 9, _, hgn => first | exact absurd rfl hgn | rfl
    | g + 10, hg, _ => exact absurd hg (by omega)
  | 4, _, h =>
    obtain ⟨⟨x, j⟩, h1, h2⟩ := map_some (show (smP t).map _ = _ from h)
    cases h2
    refine ⟨⟨hl, hx, hg, hvb, hc, hb⟩, (smP_can h1).1, ?_, rfl, fun _ => rfl, fun _ => rfl⟩
    intro g hg hgn
    match g, hg, hgn with
    | 0, _, hgn => first | exact absurd rfl hgn | rfl
    | 1, _, hgn => first | exact absurd rfl hgn | rfl
    | 2, _, hgn => first | exact absurd rfl hgn | rfl
    | 3, _, hgn => first | exact absurd rfl hgn | rfl
    | 4, _, hgn => first | exact absurd rfl hgn | rfl
    | 5, _, hgn => first | exact absurd rfl hgn | rfl
    | 6, _, hgn => first | exact absurd rfl hgn | rfl
    | 7, _, hgn => first | exact absurd rfl hgn | rfl
    | 8, _, hgn => first | exact absurd rfl hgn | rfl
    | 9, _, hgn => first | exact absurd rfl hgn | rfl
    | g + 10, hg, _ => exact absurd hg (by omega)
  | 5, _, h =>
    obtain ⟨⟨x, j⟩, h1, h2⟩ := map_some (show (teP t).map _ = _ from h)
    cases h2
    refine ⟨⟨hl, hx, hg, hvb, hc, hb⟩, teP_can h1, ?_, rfl, fun _ => rfl, fun _ => rfl⟩
    intro g hg hgn
    match g, hg, hgn with
    | 0, _, hgn => first | exact absurd rfl hgn | rfl
    | 1, _, hgn => first | exact absurd rfl hgn | rfl
    | 2, _, hgn => first | exact absurd rfl hgn | rfl
    | 3, _, hgn => first | exact absurd rfl hgn | rfl
    | 4, _, hgn => first | exact absurd rfl hgn | rfl
    | 5, _, hgn => first | exact absurd rfl hgn | rfl
    | 6, _, hgn => first | exact absurd rfl hgn | rfl
    | 7, _, hgn => first | exact absurd rfl hgn | rfl
    | 8, _, hgn => first | exact absurd rfl hgn | rfl
    | 9, _, hgn => first | exact absurd rfl hgn | rfl
    | g + 10, hg, _ => exact absurd hg (by omega)
  | 6, _, h =>
    obtain ⟨⟨⟨xn, xt, xb⟩, j⟩, h1, h2⟩ := map_some (show (vaP t).map _ = _ from h)
    cases h2
    obtain ⟨c1, c2, c3⟩ := vaP_can h1
    refine ⟨⟨hl, hx, hg, c2, hc, hb⟩, c1, ?_, rfl, fun _ => rfl, fun _ => rfl⟩
    intro g hg hgn
    match g, hg, hgn with
    | 0, _, hgn => first | exact absurd rfl hgn | rfl
    | 1, _, hgn => first | exact absurd rfl hgn | rfl
    | 2, _, hgn => first | exact absurd rfl hgn | rfl
    | 3, _, hgn => first | exact absurd rfl hgn | rfl
    | 4, _, hgn => first | exact absurd rfl hgn | rfl
    | 5, _, hgn => first | exact absurd rfl hgn | rfl
    | 6, _, hgn => first | exact absurd rfl hgn | rfl
    | 7, _, hgn => first | exact absurd rfl hgn | rfl
    | 8, _, hgn => first | exact absurd rfl hgn | rfl
    | 9, _, hgn => first | exact absurd rfl hgn | rfl
    | g + 10, hg, _ => exact absurd hg (by omega)
  | 7, _, h =>
    obtain ⟨⟨⟨xs, xu, xn⟩, j⟩, h1, h2⟩ := map_some (show (raP t).map _ = _ from h)
    cases h2
    refine ⟨⟨hl, hx, hg, hvb, hc, hb⟩, (raP_can h1).1, ?_, rfl, fun _ => rfl, fun _ => rfl⟩
    intro g hg hgn
    match g, hg, hgn with
    | 0, _, hgn => first | exact absurd rfl hgn | rfl
    | 1, _, hgn => first | exact absurd rfl hgn | rfl
    | 2, _, hgn => first | exact absurd rfl hgn | rfl
    | 3, _, hgn => first | exact absurd rfl hgn | rfl
    | 4, _, hgn => first | exact absurd rfl hgn | rfl
    | 5, _, hgn => first | exact absurd rfl hgn | rfl
    | 6, _, hgn => first | exact absurd rfl hgn | rfl
    | 7, _, hgn => first | exact absurd rfl hgn | rfl
    | 8, _, hgn => first | exact absurd rfl hgn | rfl
    | 9, _, hgn => first | exact absurd rfl hgn | rfl
    | g + 10, hg, _ => exact absurd hg (by omega)
  | 8, _, h =>
    obtain ⟨⟨x, j⟩, h1, h2⟩ := map_some (show (smP t).map _ = _ from h)
    cases h2
    refine ⟨⟨hl, hx, hg, hvb, hc, hb⟩, (smP_can h1).1, ?_, rfl, fun _ => rfl, fun _ => rfl⟩
    intro g hg hgn
    match g, hg, hgn with
    | 0, _, hgn => first | exact absurd rfl hgn | rfl
    | 1, _, hgn => first | exact absurd rfl hgn | rfl
    | 2, _, hgn => first | exact absurd rfl hgn | rfl
    | 3, _, hgn => first | exact absurd rfl hgn | rfl
    | 4, _, hgn => first | exact absurd rfl hgn | rfl
    | 5, _, hgn => first | exact absurd rfl hgn | rfl
    | 6, _, hgn => first | exact absurd rfl hgn | rfl
    | 7, _, hgn => first | exact absurd rfl hgn | rfl
    | 8, _, hgn => first | exact absurd rfl hgn | rfl
    | 9, _, hgn => first | exact absurd rfl hgn | rfl
    | g + 10, hg, _ => exact absurd hg (by omega)
  | 9, _, h =>
    obtain ⟨c2, h1, h2, h3, h4⟩ := fd9_can (show fd9 _ t = _ from h)
    subst h1
    refine ⟨⟨hl, hx, hg, hvb, by show c2.length < _; omega, h4⟩, h2, ?_, rfl, fun hh => absurd rfl hh, fun _ => rfl⟩
    intro g hg hgn
    match g, hg, hgn with
    | 0, _, hgn => first | exact absurd rfl hgn | rfl
    | 1, _, hgn => first | exact absurd rfl hgn | rfl
    | 2, _, hgn => first | exact absurd rfl hgn | rfl
    | 3, _, hgn => first | exact absurd rfl hgn | rfl
    | 4, _, hgn => first | exact absurd rfl hgn | rfl
    | 5, _, hgn => first | exact absurd rfl hgn | rfl
    | 6, _, hgn => first | exact absurd rfl hgn | rfl
    | 7, _, hgn => first | exact absurd rfl hgn | rfl
    | 8, _, hgn => first | exact absurd rfl hgn | rfl
    | 9, _, hgn => first | exact absurd rfl hgn | rfl
    | g + 10, hg, _ => exact absurd hg (by omega)
  | f + 10, h, _ => exact absurd h (by omega)
theorem q00_ok (n : Nat) : (q00 n).ok := ⟨(by decide : (0 : Nat) < 4611686018427387904), (fun y hy => by cases hy), (by decide : (0 : Nat) < 18446744073709551616), (by decide : (0 : Nat) < 18446744073709551616), (by decide : (0 : Nat) < 4611686018427387904), (fun y hy => by cases hy)⟩
end Go.Proofs.Ytgchhmfobkcnfaa.A
