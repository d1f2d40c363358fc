/- ask, the reference: Right. No condition. -/
import Derived.Test.YtgchhmfobkcnfaaSg
namespace Go.Proofs.Ytgchhmfobkcnfaa.A
open Go
set_option linter.unusedVariables false
set_option linter.unusedSimpArgs false
set_option maxRecDepth 100000
set_option pp.maxSteps 400

theorem bareQ_ok {q : Rq} (h : q.ok) : (bareQ q).ok := by
  have hi : ∀ {α : Type} (f : Nat) (x y : α) (P : α → Prop), P x → P y → P (if f ∈ fldL q.k then x else y) := fun f x y P hx hy => by
    by_cases hm : f ∈ fldL q.k
    · rw [if_pos hm]; exact hx
    · rw [if_neg hm]; exact hy
  exact ⟨hi 1 q.l [] (fun z => z.length < 4611686018427387904) h.l (by decide), hi 1 q.l [] (fun z => ∀ y ∈ z, y < 18446744073709551616) h.x (by simp), hi 2 q.g 0 (fun z => z < 18446744073709551616) h.g (by decide), hi 6 q.vb 0 (fun z => z < 18446744073709551616) h.vb (by decide), hi 9 q.c [] (fun z => z.length < 4611686018427387904) h.c (by decide), hi 9 q.c [] (fun z => ∀ y ∈ z, y.2 < 18446744073709551616) h.b (by simp)⟩
theorem rr_low (q : Rq) (hk : ¬ (1 ≤ q.k ∧ q.k ≤ 17)) : ACalls Try.prog 10 [.agg q.C] [] (Ret (bo false)) := by
  obtain ⟨k, w, l, g, m, r, key, vn, vt, vb, fr, t, lim, n, c⟩ := q
  dsimp only at hk
  refine acalls_of_awp hT mixed Try.func10 rfl (by kernel_rfl) (by kernel_rfl) (Nat.le_of_ble_eq_true rfl) ?_
  refine ⟨[0, 0, 0, 0, 0, 0, 0, 0, 0, 0, 0, 1, 2, 2, 2], [[], [0], [0, 1], [0, 1, 2], [0, 1, 2, 3], [0, 1, 2, 3, 4], [0, 1, 2, 3, 4, 5], [0, 1, 2, 3, 4, 5, 6], [0, 1, 2, 3, 4, 5, 6, 7], [0, 1, 2, 3, 4, 5, 6, 7, 8], [0, 1, 2, 3, 4, 5, 6, 7, 8], [0, 1, 2, 3, 4, 5, 6, 7, 8, 10], [0, 1, 2, 3, 4, 5, 6, 7, 8, 9, 10, 11], [0, 1, 2, 3, 4, 5, 6, 7, 8, 9, 10, 11, 12], [0, 1, 2, 3, 4, 5, 6, 7, 8, 9, 10, 11, 12, 13]], [0, 0, 0, 0, 0, 0, 0, 0, 0, 0, 0, 0, 0, 0, 0], [11, 12], [[1], [4], [5], [6], [1, 7], [8, 7], [9, 7], [7, 10], [11], [1, 12], [1, 12], [14, 12], [13, 15, 12], [16, 12], [12, 17]], Ob.intro (by kernel_rfl) ?_⟩
  repeat refine same ?_
  refine forkD (fun a => ?_) (fun a => ?_)
  · repeat refine same ?_
    refine end0 rfl rfl rfl rfl
  repeat refine same ?_
  refine forkD (fun b => ?_) (fun b => ?_)
  · repeat refine same ?_
    refine end0 rfl rfl rfl rfl
  exact absurd (show 1 ≤ k ∧ k ≤ 17 from ⟨by have : ¬ k < 1 := a; omega, by have : ¬ k > 17 := b; omega⟩) hk
set_option maxHeartbeats 4000000 in
theorem rr_odd (q b : Rq) (hk : 1 ≤ q.k ∧ q.k ≤ 17) (hb : ACalls Try.prog 28 [.agg q.C] [] (Ret (.agg b.C))) (hs : ACalls Try.prog 13 [.agg q.C, .agg b.C] [] (Ret (bo false))) : ACalls Try.prog 10 [.agg q.C] [] (Ret (bo false)) := by
  obtain ⟨k, w, l, g, m, r, key, vn, vt, vb, fr, t, lim, n, c⟩ := q
  obtain ⟨k', w', l', g', m', r', key', vn', vt', vb', fr', t', lim', n', c'⟩ := b
  dsimp only at hk
  cases m <;> cases vn <;> cases m' <;> cases vn' <;>
  · refine acalls_of_awp hT mixed Try.func10 rfl (by kernel_rfl) (by kernel_rfl) (Nat.le_of_ble_eq_true rfl) ?_
    refine ⟨[0, 0, 0, 0, 0, 0, 0, 0, 0, 0, 0, 1, 2, 2, 2], [[], [0], [0, 1], [0, 1, 2], [0, 1, 2, 3], [0, 1, 2, 3, 4], [0, 1, 2, 3, 4, 5], [0, 1, 2, 3, 4, 5, 6], [0, 1, 2, 3, 4, 5, 6, 7], [0, 1, 2, 3, 4, 5, 6, 7, 8], [0, 1, 2, 3, 4, 5, 6, 7, 8], [0, 1, 2, 3, 4, 5, 6, 7, 8, 10], [0, 1, 2, 3, 4, 5, 6, 7, 8, 9, 10, 11], [0, 1, 2, 3, 4, 5, 6, 7, 8, 9, 10, 11, 12], [0, 1, 2, 3, 4, 5, 6, 7, 8, 9, 10, 11, 12, 13]], [0, 0, 0, 0, 0, 0, 0, 0, 0, 0, 0, 0, 0, 0, 0], [11, 12], [[1], [4], [5], [6], [1, 7], [8, 7], [9, 7], [7, 10], [11], [1, 12], [1, 12], [14, 12], [13, 15, 12], [16, 12], [12, 17]], Ob.intro (by kernel_rfl) ?_⟩
    repeat refine same ?_
    refine forkD (fun a => absurd (show k < 1 from a) (by omega)) (fun a => ?_)
    repeat refine same ?_
    refine forkD (fun a => absurd (show k > 17 from a) (by omega)) (fun a => ?_)
    repeat refine same ?_
    refine callP hb rfl rfl ?_
    repeat refine same ?_
    refine callP hs rfl rfl ?_
    repeat refine same ?_
    refine end0 rfl rfl rfl rfl
theorem rr_ok (q : Rq) (h : q.ok) : ACalls Try.prog 10 [.agg q.C] [] (Ret (bo (rqB q))) := by
  by_cases hk : 1 ≤ q.k ∧ q.k ≤ 17
  · by_cases hb : q = bareQ q
    · have hB : ACalls Try.prog 28 [.agg q.C] [] (Ret (.agg q.C)) := by
        have := bare_ok q
        rw [show bareQ q = q from hb.symm] at this
        exact this
      have hS := rqsame_ok q q h h
      rw [decide_eq_true rfl] at hS
      have hR : rqB q = true ↔ ∀ f ∈ fldL q.k, nmB q f = true := ⟨fun e => ((rq_iff q).1 e).2.2, fun e => (rq_iff q).2 ⟨hk, hb, e⟩⟩
      obtain ⟨k, w, l, g, m, r, key, vn, vt, vb, fr, t, lim, n, c⟩ := q
      obtain ⟨hl, hx, hg, hvb, hc, hcb⟩ := h
      obtain ⟨-, h0, h1, h2, h3, h4, h5, ⟨h6, h6', h6''⟩, ⟨h7, h7', h7''⟩, h8, h9⟩ := mem_sw.1 hb
      clear hb
      dsimp only at *
      have hk17 : k = 1 ∨ k = 2 ∨ k = 3 ∨ k = 4 ∨ k = 5 ∨ k = 6 ∨ k = 7 ∨ k = 8 ∨ k = 9 ∨ k = 10 ∨ k = 11 ∨ k = 12 ∨ k = 13 ∨ k = 14 ∨ k = 15 ∨ k = 16 ∨ k = 17 := by omega
      rcases hk17 with rfl | rfl | rfl | rfl | rfl | rfl | rfl | rfl | rfl | rfl | rfl | rfl | rfl | rfl | rfl | rfl | rfl
      · obtain rfl : l = [] := h1
        obtain rfl : g = 0 := h2
        obtain rfl : m = false := h3
        obtain rfl : r = 0 := h4
        obtain rfl : key = emp := h5
        obtain rfl : vn = false := h6
        obtain rfl : vt = emp := h6'
        obtain rfl : vb = 0 := h6''
        obtain rfl : fr = emp := h7
        obtain rfl : t = emp := h7'
        obtain rfl : lim = 0 := h7''
        obtain rfl : n = 0 := h8
        obtain rfl : c = [] := h9
        have e : rqB (Rq.mk 1 w [] 0 false 0 emp false emp 0 emp emp 0 0 []) = (decide (0 ≤ w ∧ w ≤ 7)) := by
          refine Bool.eq_iff_iff.2 (hR.trans ?_)
          show (∀ f ∈ ([0] : List Nat), nmB (Rq.mk 1 w [] 0 false 0 emp false emp 0 emp emp 0 0 []) f = true) ↔ (nmB (Rq.mk 1 w [] 0 false 0 emp false emp 0 emp emp 0 0 []) 0) = true
          simp only [List.forall_mem_cons, Bool.and_eq_true]
          exact ⟨fun h => h.1, fun a => ⟨a, by simp⟩⟩
        rw [e]
        exact rr_1 w hB hS
      · obtain rfl : w = 0 := h0
        obtain rfl : l = [] := h1
        obtain rfl : g = 0 := h2
        obtain rfl : m = false := h3
        obtain rfl : r = 0 := h4
        obtain rfl : key = emp := h5
        obtain rfl : vn = false := h6
        obtain rfl : vt = emp := h6'
        obtain rfl : vb = 0 := h6''
        obtain rfl : fr = emp := h7
        obtain rfl : t = emp := h7'
        obtain rfl : lim = 0 := h7''
        obtain rfl : n = 0 := h8
        obtain rfl : c = [] := h9
        have e : rqB (Rq.mk 2 0 [] 0 false 0 emp false emp 0 emp emp 0 0 []) = true := hR.2 (by show ∀ f ∈ ([] : List Nat), _; simp)
        rw [e]
        exact rr_2  hB hS
      · obtain rfl : w = 0 := h0
        obtain rfl : g = 0 := h2
        obtain rfl : m = false := h3
        obtain rfl : r = 0 := h4
        obtain rfl : key = emp := h5
        obtain rfl : vn = false := h6
        obtain rfl : vt = emp := h6'
        obtain rfl : vb = 0 := h6''
        obtain rfl : fr = emp := h7
        obtain rfl : t = emp := h7'
        obtain rfl : lim = 0 := h7''
        obtain rfl : n = 0 := h8
        obtain rfl : c = [] := h9
        have e : rqB (Rq.mk 3 0 l 0 false 0 emp false emp 0 emp emp 0 0 []) = (rightB l) := by
          refine Bool.eq_iff_iff.2 (hR.trans ?_)
          show (∀ f ∈ ([1] : List Nat), nmB (Rq.mk 3 0 l 0 false 0 emp false emp 0 emp emp 0 0 []) f = true) ↔ (nmB (Rq.mk 3 0 l 0 false 0 emp false emp 0 emp emp 0 0 []) 1) = true
          simp only [List.forall_mem_cons, Bool.and_eq_true]
          exact ⟨fun h => h.1, fun a => ⟨a, by simp⟩⟩
        rw [e]
        exact rr_3 l hl hB hS
      · obtain rfl : w = 0 := h0
        obtain rfl : l = [] := h1
        obtain rfl : m = false := h3
        obtain rfl : r = 0 := h4
        obtain rfl : key = emp := h5
        obtain rfl : vn = false := h6
        obtain rfl : vt = emp := h6'
        obtain rfl : vb = 0 := h6''
        obtain rfl : fr = emp := h7
        obtain rfl : t = emp := h7'
        obtain rfl : lim = 0 := h7''
        obtain rfl : n = 0 := h8
        obtain rfl : c = [] := h9
        have e : rqB (Rq.mk 4 0 [] g false 0 emp false emp 0 emp emp 0 0 []) = (decide (1 ≤ g)) := by
          refine Bool.eq_iff_iff.2 (hR.trans ?_)
          show (∀ f ∈ ([2] : List Nat), nmB (Rq.mk 4 0 [] g false 0 emp false emp 0 emp emp 0 0 []) f = true) ↔ (nmB (Rq.mk 4 0 [] g false 0 emp false emp 0 emp emp 0 0 []) 2) = true
          simp only [List.forall_mem_cons, Bool.and_eq_true]
          exact ⟨fun h => h.1, fun a => ⟨a, by simp⟩⟩
        rw [e]
        exact rr_4 g hB hS
      · obtain rfl : w = 0 := h0
        obtain rfl : l = [] := h1
        obtain rfl : g = 0 := h2
        obtain rfl : m = false := h3
        obtain rfl : r = 0 := h4
        obtain rfl : key = emp := h5
        obtain rfl : vn = false := h6
        obtain rfl : vt = emp := h6'
        obtain rfl : vb = 0 := h6''
        obtain rfl : fr = emp := h7
        obtain rfl : t = emp := h7'
        obtain rfl : lim = 0 := h7''
        obtain rfl : n = 0 := h8
        obtain rfl : c = [] := h9
        have e : rqB (Rq.mk 5 0 [] 0 false 0 emp false emp 0 emp emp 0 0 []) = true := hR.2 (by show ∀ f ∈ ([] : List Nat), _; simp)
        rw [e]
        exact rr_5  hB hS
      · obtain rfl : l = [] := h1
        obtain rfl : r = 0 := h4
        obtain rfl : key = emp := h5
        obtain rfl : vn = false := h6
        obtain rfl : vt = emp := h6'
        obtain rfl : vb = 0 := h6''
        obtain rfl : fr = emp := h7
        obtain rfl : t = emp := h7'
        obtain rfl : lim = 0 := h7''
        obtain rfl : n = 0 := h8
        obtain rfl : c = [] := h9
        have e : rqB (Rq.mk 6 w [] g m 0 emp false emp 0 emp emp 0 0 []) = ((decide (0 ≤ w ∧ w ≤ 7) && (decide (1 ≤ g) && true))) := by
          refine Bool.eq_iff_iff.2 (hR.trans ?_)
          show (∀ f ∈ ([0, 2, 3] : List Nat), nmB (Rq.mk 6 w [] g m 0 emp false emp 0 emp emp 0 0 []) f = true) ↔ ((nmB (Rq.mk 6 w [] g m 0 emp false emp 0 emp emp 0 0 []) 0 && (nmB (Rq.mk 6 w [] g m 0 emp false emp 0 emp emp 0 0 []) 2 && nmB (Rq.mk 6 w [] g m 0 emp false emp 0 emp emp 0 0 []) 3))) = true
          simp only [List.forall_mem_cons, Bool.and_eq_true]
          exact ⟨fun h => ⟨h.1, h.2.1, h.2.2.1⟩, fun a => ⟨a.1, a.2.1, a.2.2, by simp⟩⟩
        rw [e]
        exact rr_6 w g m hB hS
      · obtain rfl : w = 0 := h0
        obtain rfl : l = [] := h1
        obtain rfl : g = 0 := h2
        obtain rfl : m = false := h3
        obtain rfl : r = 0 := h4
        obtain rfl : key = emp := h5
        obtain rfl : vn = false := h6
        obtain rfl : vt = emp := h6'
        obtain rfl : vb = 0 := h6''
        obtain rfl : fr = emp := h7
        obtain rfl : t = emp := h7'
        obtain rfl : lim = 0 := h7''
        obtain rfl : n = 0 := h8
        obtain rfl : c = [] := h9
        have e : rqB (Rq.mk 7 0 [] 0 false 0 emp false emp 0 emp emp 0 0 []) = true := hR.2 (by show ∀ f ∈ ([] : List Nat), _; simp)
        rw [e]
        exact rr_7  hB hS
      · obtain rfl : w = 0 := h0
        obtain rfl : l = [] := h1
        obtain rfl : g = 0 := h2
        obtain rfl : m = false := h3
        obtain rfl : vn = false := h6
        obtain rfl : vt = emp := h6'
        obtain rfl : vb = 0 := h6''
        obtain rfl : fr = emp := h7
        obtain rfl : t = emp := h7'
        obtain rfl : lim = 0 := h7''
        obtain rfl : n = 0 := h8
        obtain rfl : c = [] := h9
        have e : rqB (Rq.mk 8 0 [] 0 false r key false emp 0 emp emp 0 0 []) = ((decide (0 ≤ r ∧ r ≤ 7) && keyB key)) := by
          refine Bool.eq_iff_iff.2 (hR.trans ?_)
          show (∀ f ∈ ([4, 5] : List Nat), nmB (Rq.mk 8 0 [] 0 false r key false emp 0 emp emp 0 0 []) f = true) ↔ ((nmB (Rq.mk 8 0 [] 0 false r key false emp 0 emp emp 0 0 []) 4 && nmB (Rq.mk 8 0 [] 0 false r key false emp 0 emp emp 0 0 []) 5)) = true
          simp only [List.forall_mem_cons, Bool.and_eq_true]
          exact ⟨fun h => ⟨h.1, h.2.1⟩, fun a => ⟨a.1, a.2, by simp⟩⟩
        rw [e]
        exact rr_8 r key hB hS
      · obtain rfl : w = 0 := h0
        obtain rfl : l = [] := h1
        obtain rfl : g = 0 := h2
        obtain rfl : m = false := h3
        obtain rfl : fr = emp := h7
        obtain rfl : t = emp := h7'
        obtain rfl : lim = 0 := h7''
        obtain rfl : n = 0 := h8
        obtain rfl : c = [] := h9
        have e : rqB (Rq.mk 9 0 [] 0 false r key vn vt vb emp emp 0 0 []) = ((decide (0 ≤ r ∧ r ≤ 7) && (keyB key && rightV vn vt vb))) := by
          refine Bool.eq_iff_iff.2 (hR.trans ?_)
          show (∀ f ∈ ([4, 5, 6] : List Nat), nmB (Rq.mk 9 0 [] 0 false r key vn vt vb emp emp 0 0 []) f = true) ↔ ((nmB (Rq.mk 9 0 [] 0 false r key vn vt vb emp emp 0 0 []) 4 && (nmB (Rq.mk 9 0 [] 0 false r key vn vt vb emp emp 0 0 []) 5 && nmB (Rq.mk 9 0 [] 0 false r key vn vt vb emp emp 0 0 []) 6))) = true
          simp only [List.forall_mem_cons, Bool.and_eq_true]
          exact ⟨fun h => ⟨h.1, h.2.1, h.2.2.1⟩, fun a => ⟨a.1, a.2.1, a.2.2, by simp⟩⟩
        rw [e]
        exact rr_9 r key vn vt vb hvb hB hS
      · obtain rfl : w = 0 := h0
        obtain rfl : l = [] := h1
        obtain rfl : g = 0 := h2
        obtain rfl : m = false := h3
        obtain rfl : vn = false := h6
        obtain rfl : vt = emp := h6'
        obtain rfl : vb = 0 := h6''
        obtain rfl : fr = emp := h7
        obtain rfl : t = emp := h7'
        obtain rfl : lim = 0 := h7''
        obtain rfl : n = 0 := h8
        obtain rfl : c = [] := h9
        have e : rqB (Rq.mk 10 0 [] 0 false r key false emp 0 emp emp 0 0 []) = ((decide (0 ≤ r ∧ r ≤ 7) && keyB key)) := by
          refine Bool.eq_iff_iff.2 (hR.trans ?_)
          show (∀ f ∈ ([4, 5] : List Nat), nmB (Rq.mk 10 0 [] 0 false r key false emp 0 emp emp 0 0 []) f = true) ↔ ((nmB (Rq.mk 10 0 [] 0 false r key false emp 0 emp emp 0 0 []) 4 && nmB (Rq.mk 10 0 [] 0 false r key false emp 0 emp emp 0 0 []) 5)) = true
          simp only [List.forall_mem_cons, Bool.and_eq_true]
          exact ⟨fun h => ⟨h.1, h.2.1⟩, fun a => ⟨a.1, a.2, by simp⟩⟩
        rw [e]
        exact rr_10 r key hB hS
      · obtain rfl : w = 0 := h0
        obtain rfl : g = 0 := h2
        obtain rfl : m = false := h3
        obtain rfl : r = 0 := h4
        obtain rfl : key = emp := h5
        obtain rfl : vn = false := h6
        obtain rfl : vt = emp := h6'
        obtain rfl : vb = 0 := h6''
        obtain rfl : n = 0 := h8
        obtain rfl : c = [] := h9
        have e : rqB (Rq.mk 11 0 l 0 false 0 emp false emp 0 fr t lim 0 []) = ((rightB l && (rngB fr t lim && (decide (fr.size ≤ 32) && decide (t.size ≤ 32))))) := by
          refine Bool.eq_iff_iff.2 (hR.trans ?_)
          show (∀ f ∈ ([1, 7] : List Nat), nmB (Rq.mk 11 0 l 0 false 0 emp false emp 0 fr t lim 0 []) f = true) ↔ ((nmB (Rq.mk 11 0 l 0 false 0 emp false emp 0 fr t lim 0 []) 1 && nmB (Rq.mk 11 0 l 0 false 0 emp false emp 0 fr t lim 0 []) 7)) = true
          simp only [List.forall_mem_cons, Bool.and_eq_true]
          exact ⟨fun h => ⟨h.1, h.2.1⟩, fun a => ⟨a.1, a.2, by simp⟩⟩
        rw [e]
        exact rr_11 l fr t lim hl hB hS
      · obtain rfl : w = 0 := h0
        obtain rfl : l = [] := h1
        obtain rfl : g = 0 := h2
        obtain rfl : m = false := h3
        obtain rfl : r = 0 := h4
        obtain rfl : key = emp := h5
        obtain rfl : vn = false := h6
        obtain rfl : vt = emp := h6'
        obtain rfl : vb = 0 := h6''
        obtain rfl : fr = emp := h7
        obtain rfl : t = emp := h7'
        obtain rfl : lim = 0 := h7''
        obtain rfl : n = 0 := h8
        obtain rfl : c = [] := h9
        have e : rqB (Rq.mk 12 0 [] 0 false 0 emp false emp 0 emp emp 0 0 []) = true := hR.2 (by show ∀ f ∈ ([] : List Nat), _; simp)
        rw [e]
        exact rr_12  hB hS
      · obtain rfl : w = 0 := h0
        obtain rfl : l = [] := h1
        obtain rfl : g = 0 := h2
        obtain rfl : m = false := h3
        obtain rfl : r = 0 := h4
        obtain rfl : key = emp := h5
        obtain rfl : vn = false := h6
        obtain rfl : vt = emp := h6'
        obtain rfl : vb = 0 := h6''
        obtain rfl : fr = emp := h7
        obtain rfl : t = emp := h7'
        obtain rfl : lim = 0 := h7''
        obtain rfl : c = [] := h9
        have e : rqB (Rq.mk 13 0 [] 0 false 0 emp false emp 0 emp emp 0 n []) = (decide (1 ≤ n ∧ n ≤ 4)) := by
          refine Bool.eq_iff_iff.2 (hR.trans ?_)
          show (∀ f ∈ ([8] : List Nat), nmB (Rq.mk 13 0 [] 0 false 0 emp false emp 0 emp emp 0 n []) f = true) ↔ (nmB (Rq.mk 13 0 [] 0 false 0 emp false emp 0 emp emp 0 n []) 8) = true
          simp only [List.forall_mem_cons, Bool.and_eq_true]
          exact ⟨fun h => h.1, fun a => ⟨a, by simp⟩⟩
        rw [e]
        exact rr_13 n hB hS
      · obtain rfl : w = 0 := h0
        obtain rfl : l = [] := h1
        obtain rfl : g = 0 := h2
        obtain rfl : m = false := h3
        obtain rfl : r = 0 := h4
        obtain rfl : key = emp := h5
        obtain rfl : vn = false := h6
        obtain rfl : vt = emp := h6'
        obtain rfl : vb = 0 := h6''
        obtain rfl : fr = emp := h7
        obtain rfl : t = emp := h7'
        obtain rfl : lim = 0 := h7''
        obtain rfl : n = 0 := h8
        obtain rfl : c = [] := h9
        have e : rqB (Rq.mk 14 0 [] 0 false 0 emp false emp 0 emp emp 0 0 []) = true := hR.2 (by show ∀ f ∈ ([] : List Nat), _; simp)
        rw [e]
        exact rr_14  hB hS
      · obtain rfl : w = 0 := h0
        obtain rfl : l = [] := h1
        obtain rfl : g = 0 := h2
        obtain rfl : m = false := h3
        obtain rfl : r = 0 := h4
        obtain rfl : key = emp := h5
        obtain rfl : vn = false := h6
        obtain rfl : vt = emp := h6'
        obtain rfl : vb = 0 := h6''
        obtain rfl : fr = emp := h7
        obtain rfl : t = emp := h7'
        obtain rfl : lim = 0 := h7''
        obtain rfl : n = 0 := h8
        obtain rfl : c = [] := h9
        have e : rqB (Rq.mk 15 0 [] 0 false 0 emp false emp 0 emp emp 0 0 []) = true := hR.2 (by show ∀ f ∈ ([] : List Nat), _; simp)
        rw [e]
        exact rr_15  hB hS
      · obtain rfl : w = 0 := h0
        obtain rfl : l = [] := h1
        obtain rfl : g = 0 := h2
        obtain rfl : m = false := h3
        obtain rfl : vn = false := h6
        obtain rfl : vt = emp := h6'
        obtain rfl : vb = 0 := h6''
        obtain rfl : fr = emp := h7
        obtain rfl : t = emp := h7'
        obtain rfl : lim = 0 := h7''
        obtain rfl : n = 0 := h8
        have e : rqB (Rq.mk 16 0 [] 0 false r key false emp 0 emp emp 0 0 c) = ((decide (0 ≤ r ∧ r ≤ 7) && (keyB key && rightP c))) := by
          refine Bool.eq_iff_iff.2 (hR.trans ?_)
          show (∀ f ∈ ([4, 5, 9] : List Nat), nmB (Rq.mk 16 0 [] 0 false r key false emp 0 emp emp 0 0 c) f = true) ↔ ((nmB (Rq.mk 16 0 [] 0 false r key false emp 0 emp emp 0 0 c) 4 && (nmB (Rq.mk 16 0 [] 0 false r key false emp 0 emp emp 0 0 c) 5 && nmB (Rq.mk 16 0 [] 0 false r key false emp 0 emp emp 0 0 c) 9))) = true
          simp only [List.forall_mem_cons, Bool.and_eq_true]
          exact ⟨fun h => ⟨h.1, h.2.1, h.2.2.1⟩, fun a => ⟨a.1, a.2.1, a.2.2, by simp⟩⟩
        rw [e]
        exact rr_16 r key c hc hcb hB hS
      · obtain rfl : w = 0 := h0
        obtain rfl : g = 0 := h2
        obtain rfl : m = false := h3
        obtain rfl : r = 0 := h4
        obtain rfl : key = emp := h5
        obtain rfl : vn = false := h6
        obtain rfl : vt = emp := h6'
        obtain rfl : vb = 0 := h6''
        obtain rfl : n = 0 := h8
        obtain rfl : c = [] := h9
        have e : rqB (Rq.mk 17 0 l 0 false 0 emp false emp 0 fr t lim 0 []) = ((rightB l && (rngB fr t lim && (decide (fr.size ≤ 32) && decide (t.size ≤ 32))))) := by
          refine Bool.eq_iff_iff.2 (hR.trans ?_)
          show (∀ f ∈ ([1, 7] : List Nat), nmB (Rq.mk 17 0 l 0 false 0 emp false emp 0 fr t lim 0 []) f = true) ↔ ((nmB (Rq.mk 17 0 l 0 false 0 emp false emp 0 fr t lim 0 []) 1 && nmB (Rq.mk 17 0 l 0 false 0 emp false emp 0 fr t lim 0 []) 7)) = true
          simp only [List.forall_mem_cons, Bool.and_eq_true]
          exact ⟨fun h => ⟨h.1, h.2.1⟩, fun a => ⟨a.1, a.2, by simp⟩⟩
        rw [e]
        exact rr_17 l fr t lim hl hB hS
    · have hS := rqsame_ok q (bareQ q) h (bareQ_ok h)
      rw [decide_eq_false hb] at hS
      rw [show rqB q = false by cases e : rqB q; rfl; exact absurd ((rq_iff q).1 e).2.1 hb]
      exact rr_odd q (bareQ q) hk (bare_ok q) hS
  · rw [show rqB q = false by cases e : rqB q; rfl; exact absurd ((rq_iff q).1 e).1 hk]
    exact rr_low q hk
end Go.Proofs.Ytgchhmfobkcnfaa.A
