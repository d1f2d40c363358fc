/- ask, the reference: Right. No condition. -/
import Derived.Test.YtgchhmfobkcnfaaSf
namespace Go.Proofs.Ytgchhmfobkcnfaa.A
open Go
set_option linter.unusedVariables false
set_option linter.unusedSimpArgs false
set_option maxRecDepth 100000
set_option pp.maxSteps 400

theorem fldL_lt {k : Int} {f : Nat} (h : f ∈ fldL k) : f < 10 := by
  unfold fldL at h
  repeat' split at h
  all_goals simp at h
  all_goals omega
theorem rqN_iff {L : List Nat} {nm zr : Nat → Bool} : rqN 10 L nm zr = true ↔ ∀ f, f < 10 → rqF L nm zr f = true := by
  unfold rqN
  rw [decide_eq_true_eq]
theorem strEq_emp {s : ByteArray} : strEq s ⟨#[]⟩ = true ↔ s = emp := strEq_iff
theorem rq_iff (q : Rq) : rqB q = true ↔ (1 ≤ q.k ∧ q.k ≤ 17) ∧ q = bareQ q ∧ ∀ f ∈ fldL q.k, nmB q f = true := by
  unfold rqB
  rw [Bool.and_eq_true, decide_eq_true_eq, rqN_iff]
  have z0 : zrB q 0 = true ↔ q.w = 0 := beq_iff_eq
  have z1 : zrB q 1 = true ↔ q.l = [] := by show decide (q.l.length = 0) = true ↔ _; simp
  have z2 : zrB q 2 = true ↔ q.g = 0 := by show ((q.g : Int) == 0) = true ↔ _; rw [beq_iff_eq]; omega
  have z3 : zrB q 3 = true ↔ q.m = false := by show (!q.m) = true ↔ _; simp
  have z4 : zrB q 4 = true ↔ q.r = 0 := beq_iff_eq
  have z5 : zrB q 5 = true ↔ q.key = emp := strEq_emp
  have z6 : zrB q 6 = true ↔ q.vn = false ∧ q.vt = emp ∧ q.vb = 0 := by
    show zeroV _ _ _ = true ↔ _
    unfold zeroV
    simp only [Bool.and_eq_true, beq_iff_eq, strEq_emp, and_true]
    exact ⟨fun h => ⟨h.1, h.2.1, by omega⟩, fun h => ⟨h.1, h.2.1, by omega⟩⟩
  have z7 : zrB q 7 = true ↔ q.f = emp ∧ q.t = emp ∧ q.lim = 0 := by
    show zeroR _ _ _ = true ↔ _
    unfold zeroR
    simp only [Bool.and_eq_true, beq_iff_eq, strEq_emp, and_true]
  have z8 : zrB q 8 = true ↔ q.n = 0 := beq_iff_eq
  have z9 : zrB q 9 = true ↔ q.c = [] := by show decide (q.c.length = 0) = true ↔ _; simp
  have hq : q = bareQ q ↔ ∀ f, f < 10 → ¬ f ∈ fldL q.k → zrB q f = true := by
    unfold bareQ bareL
    rw [mem_sw]
    dsimp only
    generalize fldL q.k = L
    constructor
    · rintro ⟨-, h0, h1, h2, h3, h4, h5, ⟨h6, h6', h6''⟩, ⟨h7, h7', h7''⟩, h8, h9⟩ f hf hn
      match f, hf with
      | 0, _ => rw [if_neg hn] at h0; exact z0.2 h0
      | 1, _ => rw [if_neg hn] at h1; exact z1.2 h1
      | 2, _ => rw [if_neg hn] at h2; exact z2.2 h2
      | 3, _ => rw [if_neg hn] at h3; exact z3.2 h3
      | 4, _ => rw [if_neg hn] at h4; exact z4.2 h4
      | 5, _ => rw [if_neg hn] at h5; exact z5.2 h5
      | 6, _ => rw [if_neg hn] at h6 h6' h6''; exact z6.2 ⟨h6, h6', h6''⟩
      | 7, _ => rw [if_neg hn] at h7 h7' h7''; exact z7.2 ⟨h7, h7', h7''⟩
      | 8, _ => rw [if_neg hn] at h8; exact z8.2 h8
      | 9, _ => rw [if_neg hn] at h9; exact z9.2 h9
      | f + 10, h => exact absurd h (by omega)
    · intro h
      have key : ∀ {α : Type} (f : Nat) (x y : α), (¬ f ∈ L → x = y) → x = if f ∈ L then x else y := fun f x y hh => by
        by_cases hm : f ∈ L
        · rw [if_pos hm]
        · rw [if_neg hm]; exact hh hm
      exact ⟨rfl, key 0 _ _ fun n => z0.1 (h 0 (by omega) n), key 1 _ _ fun n => z1.1 (h 1 (by omega) n), key 2 _ _ fun n => z2.1 (h 2 (by omega) n), key 3 _ _ fun n => z3.1 (h 3 (by omega) n), key 4 _ _ fun n => z4.1 (h 4 (by omega) n), key 5 _ _ fun n => z5.1 (h 5 (by omega) n),
        ⟨key 6 _ _ fun n => (z6.1 (h 6 (by omega) n)).1, key 6 _ _ fun n => (z6.1 (h 6 (by omega) n)).2.1, key 6 _ _ fun n => (z6.1 (h 6 (by omega) n)).2.2⟩, ⟨key 7 _ _ fun n => (z7.1 (h 7 (by omega) n)).1, key 7 _ _ fun n => (z7.1 (h 7 (by omega) n)).2.1, key 7 _ _ fun n => (z7.1 (h 7 (by omega) n)).2.2⟩,
        key 8 _ _ fun n => z8.1 (h 8 (by omega) n), key 9 _ _ fun n => z9.1 (h 9 (by omega) n)⟩
  rw [hq]
  constructor
  · rintro ⟨h1, h2⟩
    refine ⟨h1, fun f hf hn => ?_, fun f hf => ?_⟩
    · have := h2 f hf
      unfold rqF at this
      rw [if_neg hn] at this
      exact this
    · have := h2 f (fldL_lt hf)
      unfold rqF at this
      rw [if_pos hf] at this
      exact this
  · rintro ⟨h1, h2, h3⟩
    refine ⟨h1, fun f hf => ?_⟩
    unfold rqF
    by_cases hm : f ∈ fldL q.k
    · rw [if_pos hm]; exact h3 f hm
    · rw [if_neg hm]; exact h2 f hf hm
set_option maxHeartbeats 1000000 in
theorem rr_1 (w : Int) (hb : ACalls Try.prog 28 [.agg (Rq.C ⟨1, w, [], 0, false, 0, emp, false, emp, 0, emp, emp, 0, 0, []⟩)] [] (Ret (.agg (Rq.C ⟨1, w, [], 0, false, 0, emp, false, emp, 0, emp, emp, 0, 0, []⟩)))) (hs : ACalls Try.prog 13 [.agg (Rq.C ⟨1, w, [], 0, false, 0, emp, false, emp, 0, emp, emp, 0, 0, []⟩), .agg (Rq.C ⟨1, w, [], 0, false, 0, emp, false, emp, 0, emp, emp, 0, 0, []⟩)] [] (Ret (bo true))) : ACalls Try.prog 10 [.agg (Rq.C ⟨1, w, [], 0, false, 0, emp, false, emp, 0, emp, emp, 0, 0, []⟩)] [] (Ret (bo (decide (0 ≤ w ∧ w ≤ 7)))) := by
  have hL := rright_ok [] (by decide)
  rw [show rightB [] = true by decide] at hL
  have hV := rvRight_ok false emp 0 (by decide)
  rw [show rightV false emp 0 = true by decide] at hV
  obtain ⟨O, hO⟩ : ∃ O, O = (decide (0 ≤ w ∧ w ≤ 7)) := ⟨_, rfl⟩
  rw [← hO]
  refine acalls_of_awp hT mixed Try.func10 rfl (by kernel_rfl) (by kernel_rfl) (Nat.le_of_ble_eq_true rfl) ?_
  refine ⟨[0, 0, 0, 0, 0, 0, 0, 0, 0, 0, 0, 1, 2, 2, 2], [[], [0], [0, 1], [0, 1, 2], [0, 1, 2, 3], [0, 1, 2, 3, 4], [0, 1, 2, 3, 4, 5], [0, 1, 2, 3, 4, 5, 6], [0, 1, 2, 3, 4, 5, 6, 7], [0, 1, 2, 3, 4, 5, 6, 7, 8], [0, 1, 2, 3, 4, 5, 6, 7, 8], [0, 1, 2, 3, 4, 5, 6, 7, 8, 10], [0, 1, 2, 3, 4, 5, 6, 7, 8, 9, 10, 11], [0, 1, 2, 3, 4, 5, 6, 7, 8, 9, 10, 11, 12], [0, 1, 2, 3, 4, 5, 6, 7, 8, 9, 10, 11, 12, 13]], [0, 0, 0, 0, 0, 0, 0, 0, 0, 0, 0, 0, 0, 0, 0], [11, 12], [[1], [4], [5], [6], [1, 7], [8, 7], [9, 7], [7, 10], [11], [1, 12], [1, 12], [14, 12], [13, 15, 12], [16, 12], [12, 17]], Ob.intro (by kernel_rfl) ?_⟩
  repeat refine same ?_
  refine callP hb rfl rfl ?_
  repeat refine same ?_
  refine callP hs rfl rfl ?_
  repeat refine same ?_
  repeat' (first
    | refine callP hL rfl rfl ?_
    | refine callP hV rfl rfl ?_
    | refine forkD (fun _ => ?_) (fun _ => ?_)
    | refine fork (fun _ => ?_) (fun _ => ?_)
    | refine end0 rfl rfl rfl (congrArg bo (Eq.symm (hO.trans ?_))))
  all_goals clear hb hs hL hV hO
  all_goals (try simp only [beq_iff_eq, beq_eq_false_iff_ne, ne_eq, ge_iff_le, gt_iff_lt, Bool.and_true, Bool.true_and, Bool.and_false, Bool.false_and] at *)
  all_goals first
    | rfl
    | exact decide_eq_true (by omega)
    | exact decide_eq_false (by omega)
    | (simp; done)
    | (simp; omega)
set_option maxHeartbeats 1000000 in
theorem rr_2  (hb : ACalls Try.prog 28 [.agg (Rq.C ⟨2, 0, [], 0, false, 0, emp, false, emp, 0, emp, emp, 0, 0, []⟩)] [] (Ret (.agg (Rq.C ⟨2, 0, [], 0, false, 0, emp, false, emp, 0, emp, emp, 0, 0, []⟩)))) (hs : ACalls Try.prog 13 [.agg (Rq.C ⟨2, 0, [], 0, false, 0, emp, false, emp, 0, emp, emp, 0, 0, []⟩), .agg (Rq.C ⟨2, 0, [], 0, false, 0, emp, false, emp, 0, emp, emp, 0, 0, []⟩)] [] (Ret (bo true))) : ACalls Try.prog 10 [.agg (Rq.C ⟨2, 0, [], 0, false, 0, emp, false, emp, 0, emp, emp, 0, 0, []⟩)] [] (Ret (bo (true))) := by
  have hL := rright_ok [] (by decide)
  rw [show rightB [] = true by decide] at hL
  have hV := rvRight_ok false emp 0 (by decide)
  rw [show rightV false emp 0 = true by decide] at hV
  obtain ⟨O, hO⟩ : ∃ O, O = (true) := ⟨_, rfl⟩
  rw [← hO]
  refine acalls_of_awp hT mixed Try.func10 rfl (by kernel_rfl) (by kernel_rfl) (Nat.le_of_ble_eq_true rfl) ?_
  refine ⟨[0, 0, 0, 0, 0, 0, 0, 0, 0, 0, 0, 1, 2, 2, 2], [[], [0], [0, 1], [0, 1, 2], [0, 1, 2, 3], [0, 1, 2, 3, 4], [0, 1, 2, 3, 4, 5], [0, 1, 2, 3, 4, 5, 6], [0, 1, 2, 3, 4, 5, 6, 7], [0, 1, 2, 3, 4, 5, 6, 7, 8], [0, 1, 2, 3, 4, 5, 6, 7, 8], [0, 1, 2, 3, 4, 5, 6, 7, 8, 10], [0, 1, 2, 3, 4, 5, 6, 7, 8, 9, 10, 11], [0, 1, 2, 3, 4, 5, 6, 7, 8, 9, 10, 11, 12], [0, 1, 2, 3, 4, 5, 6, 7, 8, 9, 10, 11, 12, 13]], [0, 0, 0, 0, 0, 0, 0, 0, 0, 0, 0, 0, 0, 0, 0], [11, 12], [[1], [4], [5], [6], [1, 7], [8, 7], [9, 7], [7, 10], [11], [1, 12], [1, 12], [14, 12], [13, 15, 12], [16, 12], [12, 17]], Ob.intro (by kernel_rfl) ?_⟩
  repeat refine same ?_
  refine callP hb rfl rfl ?_
  repeat refine same ?_
  refine callP hs rfl rfl ?_
  repeat refine same ?_
  repeat' (first
    | refine callP hL rfl rfl ?_
    | refine callP hV rfl rfl ?_
    | refine forkD (fun _ => ?_) (fun _ => ?_)
    | refine fork (fun _ => ?_) (fun _ => ?_)
    | refine end0 rfl rfl rfl (congrArg bo (Eq.symm (hO.trans ?_))))
  all_goals clear hb hs hL hV hO
  all_goals (try simp only [beq_iff_eq, beq_eq_false_iff_ne, ne_eq, ge_iff_le, gt_iff_lt, Bool.and_true, Bool.true_and, Bool.and_false, Bool.false_and] at *)
  all_goals first
    | rfl
    | exact decide_eq_true (by omega)
    | exact decide_eq_false (by omega)
    | (simp; done)
    | (simp; omega)
set_option maxHeartbeats 1000000 in
theorem rr_3 (l : List Nat) (hl : l.length < 4611686018427387904) (hb : ACalls Try.prog 28 [.agg (Rq.C ⟨3, 0, l, 0, false, 0, emp, false, emp, 0, emp, emp, 0, 0, []⟩)] [] (Ret (.agg (Rq.C ⟨3, 0, l, 0, false, 0, emp, false, emp, 0, emp, emp, 0, 0, []⟩)))) (hs : ACalls Try.prog 13 [.agg (Rq.C ⟨3, 0, l, 0, false, 0, emp, false, emp, 0, emp, emp, 0, 0, []⟩), .agg (Rq.C ⟨3, 0, l, 0, false, 0, emp, false, emp, 0, emp, emp, 0, 0, []⟩)] [] (Ret (bo true))) : ACalls Try.prog 10 [.agg (Rq.C ⟨3, 0, l, 0, false, 0, emp, false, emp, 0, emp, emp, 0, 0, []⟩)] [] (Ret (bo (rightB l))) := by
  have hL := rright_ok l (by omega)
  have hV := rvRight_ok false emp 0 (by decide)
  rw [show rightV false emp 0 = true by decide] at hV
  obtain ⟨O, hO⟩ : ∃ O, O = (rightB l) := ⟨_, rfl⟩
  rw [← hO]
  generalize rightB l = z0 at hL hO
  cases z0 <;>
  · refine acalls_of_awp hT mixed Try.func10 rfl (by kernel_rfl) (by kernel_rfl) (Nat.le_of_ble_eq_true rfl) ?_
    refine ⟨[0, 0, 0, 0, 0, 0, 0, 0, 0, 0, 0, 1, 2, 2, 2], [[], [0], [0, 1], [0, 1, 2], [0, 1, 2, 3], [0, 1, 2, 3, 4], [0, 1, 2, 3, 4, 5], [0, 1, 2, 3, 4, 5, 6], [0, 1, 2, 3, 4, 5, 6, 7], [0, 1, 2, 3, 4, 5, 6, 7, 8], [0, 1, 2, 3, 4, 5, 6, 7, 8], [0, 1, 2, 3, 4, 5, 6, 7, 8, 10], [0, 1, 2, 3, 4, 5, 6, 7, 8, 9, 10, 11], [0, 1, 2, 3, 4, 5, 6, 7, 8, 9, 10, 11, 12], [0, 1, 2, 3, 4, 5, 6, 7, 8, 9, 10, 11, 12, 13]], [0, 0, 0, 0, 0, 0, 0, 0, 0, 0, 0, 0, 0, 0, 0], [11, 12], [[1], [4], [5], [6], [1, 7], [8, 7], [9, 7], [7, 10], [11], [1, 12], [1, 12], [14, 12], [13, 15, 12], [16, 12], [12, 17]], Ob.intro (by kernel_rfl) ?_⟩
    repeat refine same ?_
    refine callP hb rfl rfl ?_
    repeat refine same ?_
    refine callP hs rfl rfl ?_
    repeat refine same ?_
    repeat' (first
      | refine callP hL rfl rfl ?_
      | refine callP hV rfl rfl ?_
      | refine forkD (fun _ => ?_) (fun _ => ?_)
      | refine fork (fun _ => ?_) (fun _ => ?_)
      | refine end0 rfl rfl rfl (congrArg bo (Eq.symm (hO.trans ?_))))
    all_goals clear hb hs hL hV hO
    all_goals (try simp only [beq_iff_eq, beq_eq_false_iff_ne, ne_eq, ge_iff_le, gt_iff_lt, Bool.and_true, Bool.true_and, Bool.and_false, Bool.false_and] at *)
    all_goals first
      | rfl
      | exact decide_eq_true (by omega)
      | exact decide_eq_false (by omega)
      | (simp; done)
      | (simp; omega)
set_option maxHeartbeats 1000000 in
theorem rr_4 (g : Nat) (hb : ACalls Try.prog 28 [.agg (Rq.C ⟨4, 0, [], g, false, 0, emp, false, emp, 0, emp, emp, 0, 0, []⟩)] [] (Ret (.agg (Rq.C ⟨4, 0, [], g, false, 0, emp, false, emp, 0, emp, emp, 0, 0, []⟩)))) (hs : ACalls Try.prog 13 [.agg (Rq.C ⟨4, 0, [], g, false, 0, emp, false, emp, 0, emp, emp, 0, 0, []⟩), .agg (Rq.C ⟨4, 0, [], g, false, 0, emp, false, emp, 0, emp, emp, 0, 0, []⟩)] [] (Ret (bo true))) : ACalls Try.prog 10 [.agg (Rq.C ⟨4, 0, [], g, false, 0, emp, false, emp, 0, emp, emp, 0, 0, []⟩)] [] (Ret (bo (decide (1 ≤ g)))) := by
  have hL := rright_ok [] (by decide)
  rw [show rightB [] = true by decide] at hL
  have hV := rvRight_ok false emp 0 (by decide)
  rw [show rightV false emp 0 = true by decide] at hV
  obtain ⟨O, hO⟩ : ∃ O, O = (decide (1 ≤ g)) := ⟨_, rfl⟩
  rw [← hO]
  refine acalls_of_awp hT mixed Try.func10 rfl (by kernel_rfl) (by kernel_rfl) (Nat.le_of_ble_eq_true rfl) ?_
  refine ⟨[0, 0, 0, 0, 0, 0, 0, 0, 0, 0, 0, 1, 2, 2, 2], [[], [0], [0, 1], [0, 1, 2], [0, 1, 2, 3], [0, 1, 2, 3, 4], [0, 1, 2, 3, 4, 5], [0, 1, 2, 3, 4, 5, 6], [0, 1, 2, 3, 4, 5, 6, 7], [0, 1, 2, 3, 4, 5, 6, 7, 8], [0, 1, 2, 3, 4, 5, 6, 7, 8], [0, 1, 2, 3, 4, 5, 6, 7, 8, 10], [0, 1, 2, 3, 4, 5, 6, 7, 8, 9, 10, 11], [0, 1, 2, 3, 4, 5, 6, 7, 8, 9, 10, 11, 12], [0, 1, 2, 3, 4, 5, 6, 7, 8, 9, 10, 11, 12, 13]], [0, 0, 0, 0, 0, 0, 0, 0, 0, 0, 0, 0, 0, 0, 0], [11, 12], [[1], [4], [5], [6], [1, 7], [8, 7], [9, 7], [7, 10], [11], [1, 12], [1, 12], [14, 12], [13, 15, 12], [16, 12], [12, 17]], Ob.intro (by kernel_rfl) ?_⟩
  repeat refine same ?_
  refine callP hb rfl rfl ?_
  repeat refine same ?_
  refine callP hs rfl rfl ?_
  repeat refine same ?_
  repeat' (first
    | refine callP hL rfl rfl ?_
    | refine callP hV rfl rfl ?_
    | refine forkD (fun _ => ?_) (fun _ => ?_)
    | refine fork (fun _ => ?_) (fun _ => ?_)
    | refine end0 rfl rfl rfl (congrArg bo (Eq.symm (hO.trans ?_))))
  all_goals clear hb hs hL hV hO
  all_goals (try simp only [beq_iff_eq, beq_eq_false_iff_ne, ne_eq, ge_iff_le, gt_iff_lt, Bool.and_true, Bool.true_and, Bool.and_false, Bool.false_and] at *)
  all_goals first
    | rfl
    | exact decide_eq_true (by omega)
    | exact decide_eq_false (by omega)
    | (simp; done)
    | (simp; omega)
set_option maxHeartbeats 1000000 in
theorem rr_5  (hb : ACalls Try.prog 28 [.agg (Rq.C ⟨5, 0, [], 0, false, 0, emp, false, emp, 0, emp, emp, 0, 0, []⟩)] [] (Ret (.agg (Rq.C ⟨5, 0, [], 0, false, 0, emp, false, emp, 0, emp, emp, 0, 0, []⟩)))) (hs : ACalls Try.prog 13 [.agg (Rq.C ⟨5, 0, [], 0, false, 0, emp, false, emp, 0, emp, emp, 0, 0, []⟩), .agg (Rq.C ⟨5, 0, [], 0, false, 0, emp, false, emp, 0, emp, emp, 0, 0, []⟩)] [] (Ret (bo true))) : ACalls Try.prog 10 [.agg (Rq.C ⟨5, 0, [], 0, false, 0, emp, false, emp, 0, emp, emp, 0, 0, []⟩)] [] (Ret (bo (true))) := by
  have hL := rright_ok [] (by decide)
  rw [show rightB [] = true by decide] at hL
  have hV := rvRight_ok false emp 0 (by decide)
  rw [show rightV false emp 0 = true by decide] at hV
  obtain ⟨O, hO⟩ : ∃ O, O = (true) := ⟨_, rfl⟩
  rw [← hO]
  refine acalls_of_awp hT mixed Try.func10 rfl (by kernel_rfl) (by kernel_rfl) (Nat.le_of_ble_eq_true rfl) ?_
  refine ⟨[0, 0, 0, 0, 0, 0, 0, 0, 0, 0, 0, 1, 2, 2, 2], [[], [0], [0, 1], [0, 1, 2], [0, 1, 2, 3], [0, 1, 2, 3, 4], [0, 1, 2, 3, 4, 5], [0, 1, 2, 3, 4, 5, 6], [0, 1, 2, 3, 4, 5, 6, 7], [0, 1, 2, 3, 4, 5, 6, 7, 8], [0, 1, 2, 3, 4, 5, 6, 7, 8], [0, 1, 2, 3, 4, 5, 6, 7, 8, 10], [0, 1, 2, 3, 4, 5, 6, 7, 8, 9, 10, 11], [0, 1, 2, 3, 4, 5, 6, 7, 8, 9, 10, 11, 12], [0, 1, 2, 3, 4, 5, 6, 7, 8, 9, 10, 11, 12, 13]], [0, 0, 0, 0, 0, 0, 0, 0, 0, 0, 0, 0, 0, 0, 0], [11, 12], [[1], [4], [5], [6], [1, 7], [8, 7], [9, 7], [7, 10], [11], [1, 12], [1, 12], [14, 12], [13, 15, 12], [16, 12], [12, 17]], Ob.intro (by kernel_rfl) ?_⟩
  repeat refine same ?_
  refine callP hb rfl rfl ?_
  repeat refine same ?_
  refine callP hs rfl rfl ?_
  repeat refine same ?_
  repeat' (first
    | refine callP hL rfl rfl ?_
    | refine callP hV rfl rfl ?_
    | refine forkD (fun _ => ?_) (fun _ => ?_)
    | refine fork (fun _ => ?_) (fun _ => ?_)
    | refine end0 rfl rfl rfl (congrArg bo (Eq.symm (hO.trans ?_))))
  all_goals clear hb hs hL hV hO
  all_goals (try simp only [beq_iff_eq, beq_eq_false_iff_ne, ne_eq, ge_iff_le, gt_iff_lt, Bool.and_true, Bool.true_and, Bool.and_false, Bool.false_and] at *)
  all_goals first
    | rfl
    | exact decide_eq_true (by omega)
    | exact decide_eq_false (by omega)
    | (simp; done)
    | (simp; omega)
set_option maxHeartbeats 1000000 in
theorem rr_6 (w : Int) (g : Nat) (m : Bool) (hb : ACalls Try.prog 28 [.agg (Rq.C ⟨6, w, [], g, m, 0, emp, false, emp, 0, emp, emp, 0, 0, []⟩)] [] (Ret (.agg (Rq.C ⟨6, w, [], g, m, 0, emp, false, emp, 0, emp, emp, 0, 0, []⟩)))) (hs : ACalls Try.prog 13 [.agg (Rq.C ⟨6, w, [], g, m, 0, emp, false, emp, 0, emp, emp, 0, 0, []⟩), .agg (Rq.C ⟨6, w, [], g, m, 0, emp, false, emp, 0, emp, emp, 0, 0, []⟩)] [] (Ret (bo true))) : ACalls Try.prog 10 [.agg (Rq.C ⟨6, w, [], g, m, 0, emp, false, emp, 0, emp, emp, 0, 0, []⟩)] [] (Ret (bo ((decide (0 ≤ w ∧ w ≤ 7) && (decide (1 ≤ g) && true))))) := by
  have hL := rright_ok [] (by decide)
  rw [show rightB [] = true by decide] at hL
  have hV := rvRight_ok false emp 0 (by decide)
  rw [show rightV false emp 0 = true by decide] at hV
  obtain ⟨O, hO⟩ : ∃ O, O = ((decide (0 ≤ w ∧ w ≤ 7) && (decide (1 ≤ g) && true))) := ⟨_, rfl⟩
  rw [← hO]
  cases m <;>
  · refine acalls_of_awp hT mixed Try.func10 rfl (by kernel_rfl) (by kernel_rfl) (Nat.le_of_ble_eq_true rfl) ?_
    refine ⟨[0, 0, 0, 0, 0, 0, 0, 0, 0, 0, 0, 1, 2, 2, 2], [[], [0], [0, 1], [0, 1, 2], [0, 1, 2, 3], [0, 1, 2, 3, 4], [0, 1, 2, 3, 4, 5], [0, 1, 2, 3, 4, 5, 6], [0, 1, 2, 3, 4, 5, 6, 7], [0, 1, 2, 3, 4, 5, 6, 7, 8], [0, 1, 2, 3, 4, 5, 6, 7, 8], [0, 1, 2, 3, 4, 5, 6, 7, 8, 10], [0, 1, 2, 3, 4, 5, 6, 7, 8, 9, 10, 11], [0, 1, 2, 3, 4, 5, 6, 7, 8, 9, 10, 11, 12], [0, 1, 2, 3, 4, 5, 6, 7, 8, 9, 10, 11, 12, 13]], [0, 0, 0, 0, 0, 0, 0, 0, 0, 0, 0, 0, 0, 0, 0], [11, 12], [[1], [4], [5], [6], [1, 7], [8, 7], [9, 7], [7, 10], [11], [1, 12], [1, 12], [14, 12], [13, 15, 12], [16, 12], [12, 17]], Ob.intro (by kernel_rfl) ?_⟩
    repeat refine same ?_
    refine callP hb rfl rfl ?_
    repeat refine same ?_
    refine callP hs rfl rfl ?_
    repeat refine same ?_
    repeat' (first
      | refine callP hL rfl rfl ?_
      | refine callP hV rfl rfl ?_
      | refine forkD (fun _ => ?_) (fun _ => ?_)
      | refine fork (fun _ => ?_) (fun _ => ?_)
      | refine end0 rfl rfl rfl (congrArg bo (Eq.symm (hO.trans ?_))))
    all_goals clear hb hs hL hV hO
    all_goals (try simp only [beq_iff_eq, beq_eq_false_iff_ne, ne_eq, ge_iff_le, gt_iff_lt, Bool.and_true, Bool.true_and, Bool.and_false, Bool.false_and] at *)
    all_goals first
      | rfl
      | exact decide_eq_true (by omega)
      | exact decide_eq_false (by omega)
      | (simp; done)
      | (simp; omega)
set_option maxHeartbeats 1000000 in
theorem rr_7  (hb : ACalls Try.prog 28 [.agg (Rq.C ⟨7, 0, [], 0, false, 0, emp, false, emp, 0, emp, emp, 0, 0, []⟩)] [] (Ret (.agg (Rq.C ⟨7, 0, [], 0, false, 0, emp, false, emp, 0, emp, emp, 0, 0, []⟩)))) (hs : ACalls Try.prog 13 [.agg (Rq.C ⟨7, 0, [], 0, false, 0, emp, false, emp, 0, emp, emp, 0, 0, []⟩), .agg (Rq.C ⟨7, 0, [], 0, false, 0, emp, false, emp, 0, emp, emp, 0, 0, []⟩)] [] (Ret (bo true))) : ACalls Try.prog 10 [.agg (Rq.C ⟨7, 0, [], 0, false, 0, emp, false, emp, 0, emp, emp, 0, 0, []⟩)] [] (Ret (bo (true))) := by
  have hL := rright_ok [] (by decide)
  rw [show rightB [] = true by decide] at hL
  have hV := rvRight_ok false emp 0 (by decide)
  rw [show rightV false emp 0 = true by decide] at hV
  obtain ⟨O, hO⟩ : ∃ O, O = (true) := ⟨_, rfl⟩
  rw [← hO]
  refine acalls_of_awp hT mixed Try.func10 rfl (by kernel_rfl) (by kernel_rfl) (Nat.le_of_ble_eq_true rfl) ?_
  refine ⟨[0, 0, 0, 0, 0, 0, 0, 0, 0, 0, 0, 1, 2, 2, 2], [[], [0], [0, 1], [0, 1, 2], [0, 1, 2, 3], [0, 1, 2, 3, 4], [0, 1, 2, 3, 4, 5], [0, 1, 2, 3, 4, 5, 6], [0, 1, 2, 3, 4, 5, 6, 7], [0, 1, 2, 3, 4, 5, 6, 7, 8], [0, 1, 2, 3, 4, 5, 6, 7, 8], [0, 1, 2, 3, 4, 5, 6, 7, 8, 10], [0, 1, 2, 3, 4, 5, 6, 7, 8, 9, 10, 11], [0, 1, 2, 3, 4, 5, 6, 7, 8, 9, 10, 11, 12], [0, 1, 2, 3, 4, 5, 6, 7, 8, 9, 10, 11, 12, 13]], [0, 0, 0, 0, 0, 0, 0, 0, 0, 0, 0, 0, 0, 0, 0], [11, 12], [[1], [4], [5], [6], [1, 7], [8, 7], [9, 7], [7, 10], [11], [1, 12], [1, 12], [14, 12], [13, 15, 12], [16, 12], [12, 17]], Ob.intro (by kernel_rfl) ?_⟩
  repeat refine same ?_
  refine callP hb rfl rfl ?_
  repeat refine same ?_
  refine callP hs rfl rfl ?_
  repeat refine same ?_
  repeat' (first
    | refine callP hL rfl rfl ?_
    | refine callP hV rfl rfl ?_
    | refine forkD (fun _ => ?_) (fun _ => ?_)
    | refine fork (fun _ => ?_) (fun _ => ?_)
    | refine end0 rfl rfl rfl (congrArg bo (Eq.symm (hO.trans ?_))))
  all_goals clear hb hs hL hV hO
  all_goals (try simp only [beq_iff_eq, beq_eq_false_iff_ne, ne_eq, ge_iff_le, gt_iff_lt, Bool.and_true, Bool.true_and, Bool.and_false, Bool.false_and] at *)
  all_goals first
    | rfl
    | exact decide_eq_true (by omega)
    | exact decide_eq_false (by omega)
    | (simp; done)
    | (simp; omega)
set_option maxHeartbeats 1000000 in
theorem rr_8 (r : Int) (key : ByteArray) (hb : ACalls Try.prog 28 [.agg (Rq.C ⟨8, 0, [], 0, false, r, key, false, emp, 0, emp, emp, 0, 0, []⟩)] [] (Ret (.agg (Rq.C ⟨8, 0, [], 0, false, r, key, false, emp, 0, emp, emp, 0, 0, []⟩)))) (hs : ACalls Try.prog 13 [.agg (Rq.C ⟨8, 0, [], 0, false, r, key, false, emp, 0, emp, emp, 0, 0, []⟩), .agg (Rq.C ⟨8, 0, [], 0, false, r, key, false, emp, 0, emp, emp, 0, 0, []⟩)] [] (Ret (bo true))) : ACalls Try.prog 10 [.agg (Rq.C ⟨8, 0, [], 0, false, r, key, false, emp, 0, emp, emp, 0, 0, []⟩)] [] (Ret (bo ((decide (0 ≤ r ∧ r ≤ 7) && keyB key)))) := by
  have hL := rright_ok [] (by decide)
  rw [show rightB [] = true by decide] at hL
  have hV := rvRight_ok false emp 0 (by decide)
  rw [show rightV false emp 0 = true by decide] at hV
  have hK := skey_ok key
  obtain ⟨O, hO⟩ : ∃ O, O = ((decide (0 ≤ r ∧ r ≤ 7) && keyB key)) := ⟨_, rfl⟩
  rw [← hO]
  generalize keyB key = z0 at hK hO
  cases z0 <;>
  · refine acalls_of_awp hT mixed Try.func10 rfl (by kernel_rfl) (by kernel_rfl) (Nat.le_of_ble_eq_true rfl) ?_
    refine ⟨[0, 0, 0, 0, 0, 0, 0, 0, 0, 0, 0, 1, 2, 2, 2], [[], [0], [0, 1], [0, 1, 2], [0, 1, 2, 3], [0, 1, 2, 3, 4], [0, 1, 2, 3, 4, 5], [0, 1, 2, 3, 4, 5, 6], [0, 1, 2, 3, 4, 5, 6, 7], [0, 1, 2, 3, 4, 5, 6, 7, 8], [0, 1, 2, 3, 4, 5, 6, 7, 8], [0, 1, 2, 3, 4, 5, 6, 7, 8, 10], [0, 1, 2, 3, 4, 5, 6, 7, 8, 9, 10, 11], [0, 1, 2, 3, 4, 5, 6, 7, 8, 9, 10, 11, 12], [0, 1, 2, 3, 4, 5, 6, 7, 8, 9, 10, 11, 12, 13]], [0, 0, 0, 0, 0, 0, 0, 0, 0, 0, 0, 0, 0, 0, 0], [11, 12], [[1], [4], [5], [6], [1, 7], [8, 7], [9, 7], [7, 10], [11], [1, 12], [1, 12], [14, 12], [13, 15, 12], [16, 12], [12, 17]], Ob.intro (by kernel_rfl) ?_⟩
    repeat refine same ?_
    refine callP hb rfl rfl ?_
    repeat refine same ?_
    refine callP hs rfl rfl ?_
    repeat refine same ?_
    repeat' (first
      | refine callP hL rfl rfl ?_
      | refine callP hV rfl rfl ?_
      | refine callP hK rfl rfl ?_
      | refine forkD (fun _ => ?_) (fun _ => ?_)
      | refine fork (fun _ => ?_) (fun _ => ?_)
      | refine end0 rfl rfl rfl (congrArg bo (Eq.symm (hO.trans ?_))))
    all_goals clear hb hs hL hV hO
    all_goals (try simp only [beq_iff_eq, beq_eq_false_iff_ne, ne_eq, ge_iff_le, gt_iff_lt, Bool.and_true, Bool.true_and, Bool.and_false, Bool.false_and] at *)
    all_goals first
      | rfl
      | exact decide_eq_true (by omega)
      | exact decide_eq_false (by omega)
      | (simp; done)
      | (simp; omega)
set_option maxHeartbeats 1000000 in
theorem rr_9 (r : Int) (key : ByteArray) (vn : Bool) (vt : ByteArray) (vb : Nat) (hvb : vb < 18446744073709551616) (hb : ACalls Try.prog 28 [.agg (Rq.C ⟨9, 0, [], 0, false, r, key, vn, vt, vb, emp, emp, 0, 0, []⟩)] [] (Ret (.agg (Rq.C ⟨9, 0, [], 0, false, r, key, vn, vt, vb, emp, emp, 0, 0, []⟩)))) (hs : ACalls Try.prog 13 [.agg (Rq.C ⟨9, 0, [], 0, false, r, key, vn, vt, vb, emp, emp, 0, 0, []⟩), .agg (Rq.C ⟨9, 0, [], 0, false, r, key, vn, vt, vb, emp, emp, 0, 0, []⟩)] [] (Ret (bo true))) : ACalls Try.prog 10 [.agg (Rq.C ⟨9, 0, [], 0, false, r, key, vn, vt, vb, emp, emp, 0, 0, []⟩)] [] (Ret (bo ((decide (0 ≤ r ∧ r ≤ 7) && (keyB key && rightV vn vt vb))))) := by
  have hL := rright_ok [] (by decide)
  rw [show rightB [] = true by decide] at hL
  have hV := rvRight_ok vn vt vb hvb
  have hK := skey_ok key
  obtain ⟨O, hO⟩ : ∃ O, O = ((decide (0 ≤ r ∧ r ≤ 7) && (keyB key && rightV vn vt vb))) := ⟨_, rfl⟩
  rw [← hO]
  generalize rightV vn vt vb = z0 at hV hO
  generalize keyB key = z1 at hK hO
  cases z0 <;> cases z1 <;> cases vn <;>
  · refine acalls_of_awp hT mixed Try.func10 rfl (by kernel_rfl) (by kernel_rfl) (Nat.le_of_ble_eq_true rfl) ?_
    refine ⟨[0, 0, 0, 0, 0, 0, 0, 0, 0, 0, 0, 1, 2, 2, 2], [[], [0], [0, 1], [0, 1, 2], [0, 1, 2, 3], [0, 1, 2, 3, 4], [0, 1, 2, 3, 4, 5], [0, 1, 2, 3, 4, 5, 6], [0, 1, 2, 3, 4, 5, 6, 7], [0, 1, 2, 3, 4, 5, 6, 7, 8], [0, 1, 2, 3, 4, 5, 6, 7, 8], [0, 1, 2, 3, 4, 5, 6, 7, 8, 10], [0, 1, 2, 3, 4, 5, 6, 7, 8, 9, 10, 11], [0, 1, 2, 3, 4, 5, 6, 7, 8, 9, 10, 11, 12], [0, 1, 2, 3, 4, 5, 6, 7, 8, 9, 10, 11, 12, 13]], [0, 0, 0, 0, 0, 0, 0, 0, 0, 0, 0, 0, 0, 0, 0], [11, 12], [[1], [4], [5], [6], [1, 7], [8, 7], [9, 7], [7, 10], [11], [1, 12], [1, 12], [14, 12], [13, 15, 12], [16, 12], [12, 17]], Ob.intro (by kernel_rfl) ?_⟩
    repeat refine same ?_
    refine callP hb rfl rfl ?_
    repeat refine same ?_
    refine callP hs rfl rfl ?_
    repeat refine same ?_
    repeat' (first
      | refine callP hL rfl rfl ?_
      | refine callP hV rfl rfl ?_
      | refine callP hK rfl rfl ?_
      | refine forkD (fun _ => ?_) (fun _ => ?_)
      | refine fork (fun _ => ?_) (fun _ => ?_)
      | refine end0 rfl rfl rfl (congrArg bo (Eq.symm (hO.trans ?_))))
    all_goals clear hb hs hL hV hO
    all_goals (try simp only [beq_iff_eq, beq_eq_false_iff_ne, ne_eq, ge_iff_le, gt_iff_lt, Bool.and_true, Bool.true_and, Bool.and_false, Bool.false_and] at *)
    all_goals first
      | rfl
      | exact decide_eq_true (by omega)
      | exact decide_eq_false (by omega)
      | (simp; done)
      | (simp; omega)
set_option maxHeartbeats 1000000 in
theorem rr_10 (r : Int) (key : ByteArray) (hb : ACalls Try.prog 28 [.agg (Rq.C ⟨10, 0, [], 0, false, r, key, false, emp, 0, emp, emp, 0, 0, []⟩)] [] (Ret (.agg (Rq.C ⟨10, 0, [], 0, false, r, key, false, emp, 0, emp, emp, 0, 0, []⟩)))) (hs : ACalls Try.prog 13 [.agg (Rq.C ⟨10, 0, [], 0, false, r, key, false, emp, 0, emp, emp, 0, 0, []⟩), .agg (Rq.C ⟨10, 0, [], 0, false, r, key, false, emp, 0, emp, emp, 0, 0, []⟩)] [] (Ret (bo true))) : ACalls Try.prog 10 [.agg (Rq.C ⟨10, 0, [], 0, false, r, key, false, emp, 0, emp, emp, 0, 0, []⟩)] [] (Ret (bo ((decide (0 ≤ r ∧ r ≤ 7) && keyB key)))) := by
  have hL := rright_ok [] (by decide)
  rw [show rightB [] = true by decide] at hL
  have hV := rvRight_ok false emp 0 (by decide)
  rw [show rightV false emp 0 = true by decide] at hV
  have hK := skey_ok key
  obtain ⟨O, hO⟩ : ∃ O, O = ((decide (0 ≤ r ∧ r ≤ 7) && keyB key)) := ⟨_, rfl⟩
  rw [← hO]
  generalize keyB key = z0 at hK hO
  cases z0 <;>
  · refine acalls_of_awp hT mixed Try.func10 rfl (by kernel_rfl) (by kernel_rfl) (Nat.le_of_ble_eq_true rfl) ?_
    refine ⟨[0, 0, 0, 0, 0, 0, 0, 0, 0, 0, 0, 1, 2, 2, 2], [[], [0], [0, 1], [0, 1, 2], [0, 1, 2, 3], [0, 1, 2, 3, 4], [0, 1, 2, 3, 4, 5], [0, 1, 2, 3, 4, 5, 6], [0, 1, 2, 3, 4, 5, 6, 7], [0, 1, 2, 3, 4, 5, 6, 7, 8], [0, 1, 2, 3, 4, 5, 6, 7, 8], [0, 1, 2, 3, 4, 5, 6, 7, 8, 10], [0, 1, 2, 3, 4, 5, 6, 7, 8, 9, 10, 11], [0, 1, 2, 3, 4, 5, 6, 7, 8, 9, 10, 11, 12], [0, 1, 2, 3, 4, 5, 6, 7, 8, 9, 10, 11, 12, 13]], [0, 0, 0, 0, 0, 0, 0, 0, 0, 0, 0, 0, 0, 0, 0], [11, 12], [[1], [4], [5], [6], [1, 7], [8, 7], [9, 7], [7, 10], [11], [1, 12], [1, 12], [14, 12], [13, 15, 12], [16, 12], [12, 17]], Ob.intro (by kernel_rfl) ?_⟩
    repeat refine same ?_
    refine callP hb rfl rfl ?_
    repeat refine same ?_
    refine callP hs rfl rfl ?_
    repeat refine same ?_
    repeat' (first
      | refine callP hL rfl rfl ?_
      | refine callP hV rfl rfl ?_
      | refine callP hK rfl rfl ?_
      | refine forkD (fun _ => ?_) (fun _ => ?_)
      | refine fork (fun _ => ?_) (fun _ => ?_)
      | refine end0 rfl rfl rfl (congrArg bo (Eq.symm (hO.trans ?_))))
    all_goals clear hb hs hL hV hO
    all_goals (try simp only [beq_iff_eq, beq_eq_false_iff_ne, ne_eq, ge_iff_le, gt_iff_lt, Bool.and_true, Bool.true_and, Bool.and_false, Bool.false_and] at *)
    all_goals first
      | rfl
      | exact decide_eq_true (by omega)
      | exact decide_eq_false (by omega)
      | (simp; done)
      | (simp; omega)
set_option maxHeartbeats 1000000 in
theorem rr_11 (l : List Nat) (fr : ByteArray) (t : ByteArray) (lim : Int) (hl : l.length < 4611686018427387904) (hb : ACalls Try.prog 28 [.agg (Rq.C ⟨11, 0, l, 0, false, 0, emp, false, emp, 0, fr, t, lim, 0, []⟩)] [] (Ret (.agg (Rq.C ⟨11, 0, l, 0, false, 0, emp, false, emp, 0, fr, t, lim, 0, []⟩)))) (hs : ACalls Try.prog 13 [.agg (Rq.C ⟨11, 0, l, 0, false, 0, emp, false, emp, 0, fr, t, lim, 0, []⟩), .agg (Rq.C ⟨11, 0, l, 0, false, 0, emp, false, emp, 0, fr, t, lim, 0, []⟩)] [] (Ret (bo true))) : ACalls Try.prog 10 [.agg (Rq.C ⟨11, 0, l, 0, false, 0, emp, false, emp, 0, fr, t, lim, 0, []⟩)] [] (Ret (bo ((rightB l && (rngB fr t lim && (decide (fr.size ≤ 32) && decide (t.size ≤ 32))))))) := by
  have hL := rright_ok l (by omega)
  have hV := rvRight_ok false emp 0 (by decide)
  rw [show rightV false emp 0 = true by decide] at hV
  have hR := rmright_ok fr t lim
  obtain ⟨O, hO⟩ : ∃ O, O = ((rightB l && (rngB fr t lim && (decide (fr.size ≤ 32) && decide (t.size ≤ 32))))) := ⟨_, rfl⟩
  rw [← hO]
  generalize rightB l = z0 at hL hO
  generalize rngB fr t lim = z1 at hR hO
  cases z0 <;> cases z1 <;>
  · refine acalls_of_awp hT mixed Try.func10 rfl (by kernel_rfl) (by kernel_rfl) (Nat.le_of_ble_eq_true rfl) ?_
    refine ⟨[0, 0, 0, 0, 0, 0, 0, 0, 0, 0, 0, 1, 2, 2, 2], [[], [0], [0, 1], [0, 1, 2], [0, 1, 2, 3], [0, 1, 2, 3, 4], [0, 1, 2, 3, 4, 5], [0, 1, 2, 3, 4, 5, 6], [0, 1, 2, 3, 4, 5, 6, 7], [0, 1, 2, 3, 4, 5, 6, 7, 8], [0, 1, 2, 3, 4, 5, 6, 7, 8], [0, 1, 2, 3, 4, 5, 6, 7, 8, 10], [0, 1, 2, 3, 4, 5, 6, 7, 8, 9, 10, 11], [0, 1, 2, 3, 4, 5, 6, 7, 8, 9, 10, 11, 12], [0, 1, 2, 3, 4, 5, 6, 7, 8, 9, 10, 11, 12, 13]], [0, 0, 0, 0, 0, 0, 0, 0, 0, 0, 0, 0, 0, 0, 0], [11, 12], [[1], [4], [5], [6], [1, 7], [8, 7], [9, 7], [7, 10], [11], [1, 12], [1, 12], [14, 12], [13, 15, 12], [16, 12], [12, 17]], Ob.intro (by kernel_rfl) ?_⟩
    repeat refine same ?_
    refine callP hb rfl rfl ?_
    repeat refine same ?_
    refine callP hs rfl rfl ?_
    repeat refine same ?_
    repeat' (first
      | refine callP hL rfl rfl ?_
      | refine callP hV rfl rfl ?_
      | refine callP hR rfl rfl ?_
      | refine forkD (fun _ => ?_) (fun _ => ?_)
      | refine fork (fun _ => ?_) (fun _ => ?_)
      | refine end0 rfl rfl rfl (congrArg bo (Eq.symm (hO.trans ?_))))
    all_goals clear hb hs hL hV hO
    all_goals (try simp only [beq_iff_eq, beq_eq_false_iff_ne, ne_eq, ge_iff_le, gt_iff_lt, Bool.and_true, Bool.true_and, Bool.and_false, Bool.false_and] at *)
    all_goals first
      | rfl
      | exact decide_eq_true (by omega)
      | exact decide_eq_false (by omega)
      | (simp; done)
      | (simp; omega)
set_option maxHeartbeats 1000000 in
theorem rr_12  (hb : ACalls Try.prog 28 [.agg (Rq.C ⟨12, 0, [], 0, false, 0, emp, false, emp, 0, emp, emp, 0, 0, []⟩)] [] (Ret (.agg (Rq.C ⟨12, 0, [], 0, false, 0, emp, false, emp, 0, emp, emp, 0, 0, []⟩)))) (hs : ACalls Try.prog 13 [.agg (Rq.C ⟨12, 0, [], 0, false, 0, emp, false, emp, 0, emp, emp, 0, 0, []⟩), .agg (Rq.C ⟨12, 0, [], 0, false, 0, emp, false, emp, 0, emp, emp, 0, 0, []⟩)] [] (Ret (bo true))) : ACalls Try.prog 10 [.agg (Rq.C ⟨12, 0, [], 0, false, 0, emp, false, emp, 0, emp, emp, 0, 0, []⟩)] [] (Ret (bo (true))) := by
  have hL := rright_ok [] (by decide)
  rw [show rightB [] = true by decide] at hL
  have hV := rvRight_ok false emp 0 (by decide)
  rw [show rightV false emp 0 = true by decide] at hV
  obtain ⟨O, hO⟩ : ∃ O, O = (true) := ⟨_, rfl⟩
  rw [← hO]
  refine acalls_of_awp hT mixed Try.func10 rfl (by kernel_rfl) (by kernel_rfl) (Nat.le_of_ble_eq_true rfl) ?_
  refine ⟨[0, 0, 0, 0, 0, 0, 0, 0, 0, 0, 0, 1, 2, 2, 2], [[], [0], [0, 1], [0, 1, 2], [0, 1, 2, 3], [0, 1, 2, 3, 4], [0, 1, 2, 3, 4, 5], [0, 1, 2, 3, 4, 5, 6], [0, 1, 2, 3, 4, 5, 6, 7], [0, 1, 2, 3, 4, 5, 6, 7, 8], [0, 1, 2, 3, 4, 5, 6, 7, 8], [0, 1, 2, 3, 4, 5, 6, 7, 8, 10], [0, 1, 2, 3, 4, 5, 6, 7, 8, 9, 10, 11], [0, 1, 2, 3, 4, 5, 6, 7, 8, 9, 10, 11, 12], [0, 1, 2, 3, 4, 5, 6, 7, 8, 9, 10, 11, 12, 13]], [0, 0, 0, 0, 0, 0, 0, 0, 0, 0, 0, 0, 0, 0, 0], [11, 12], [[1], [4], [5], [6], [1, 7], [8, 7], [9, 7], [7, 10], [11], [1, 12], [1, 12], [14, 12], [13, 15, 12], [16, 12], [12, 17]], Ob.intro (by kernel_rfl) ?_⟩
  repeat refine same ?_
  refine callP hb rfl rfl ?_
  repeat refine same ?_
  refine callP hs rfl rfl ?_
  repeat refine same ?_
  repeat' (first
    | refine callP hL rfl rfl ?_
    | refine callP hV rfl rfl ?_
    | refine forkD (fun _ => ?_) (fun _ => ?_)
    | refine fork (fun _ => ?_) (fun _ => ?_)
    | refine end0 rfl rfl rfl (congrArg bo (Eq.symm (hO.trans ?_))))
  all_goals clear hb hs hL hV hO
  all_goals (try simp only [beq_iff_eq, beq_eq_false_iff_ne, ne_eq, ge_iff_le, gt_iff_lt, Bool.and_true, Bool.true_and, Bool.and_false, Bool.false_and] at *)
  all_goals first
    | rfl
    | exact decide_eq_true (by omega)
    | exact decide_eq_false (by omega)
    | (simp; done)
    | (simp; omega)
set_option maxHeartbeats 1000000 in
theorem rr_13 (n : Int) (hb : ACalls Try.prog 28 [.agg (Rq.C ⟨13, 0, [], 0, false, 0, emp, false, emp, 0, emp, emp, 0, n, []⟩)] [] (Ret (.agg (Rq.C ⟨13, 0, [], 0, false, 0, emp, false, emp, 0, emp, emp, 0, n, []⟩)))) (hs : ACalls Try.prog 13 [.agg (Rq.C ⟨13, 0, [], 0, false, 0, emp, false, emp, 0, emp, emp, 0, n, []⟩), .agg (Rq.C ⟨13, 0, [], 0, false, 0, emp, false, emp, 0, emp, emp, 0, n, []⟩)] [] (Ret (bo true))) : ACalls Try.prog 10 [.agg (Rq.C ⟨13, 0, [], 0, false, 0, emp, false, emp, 0, emp, emp, 0, n, []⟩)] [] (Ret (bo (decide (1 ≤ n ∧ n ≤ 4)))) := by
  have hL := rright_ok [] (by decide)
  rw [show rightB [] = true by decide] at hL
  have hV := rvRight_ok false emp 0 (by decide)
  rw [show rightV false emp 0 = true by decide] at hV
  obtain ⟨O, hO⟩ : ∃ O, O = (decide (1 ≤ n ∧ n ≤ 4)) := ⟨_, rfl⟩
  rw [← hO]
  refine acalls_of_awp hT mixed Try.func10 rfl (by kernel_rfl) (by kernel_rfl) (Nat.le_of_ble_eq_true rfl) ?_
  refine ⟨[0, 0, 0, 0, 0, 0, 0, 0, 0, 0, 0, 1, 2, 2, 2], [[], [0], [0, 1], [0, 1, 2], [0, 1, 2, 3], [0, 1, 2, 3, 4], [0, 1, 2, 3, 4, 5], [0, 1, 2, 3, 4, 5, 6], [0, 1, 2, 3, 4, 5, 6, 7], [0, 1, 2, 3, 4, 5, 6, 7, 8], [0, 1, 2, 3, 4, 5, 6, 7, 8], [0, 1, 2, 3, 4, 5, 6, 7, 8, 10], [0, 1, 2, 3, 4, 5, 6, 7, 8, 9, 10, 11], [0, 1, 2, 3, 4, 5, 6, 7, 8, 9, 10, 11, 12], [0, 1, 2, 3, 4, 5, 6, 7, 8, 9, 10, 11, 12, 13]], [0, 0, 0, 0, 0, 0, 0, 0, 0, 0, 0, 0, 0, 0, 0], [11, 12], [[1], [4], [5], [6], [1, 7], [8, 7], [9, 7], [7, 10], [11], [1, 12], [1, 12], [14, 12], [13, 15, 12], [16, 12], [12, 17]], Ob.intro (by kernel_rfl) ?_⟩
  repeat refine same ?_
  refine callP hb rfl rfl ?_
  repeat refine same ?_
  refine callP hs rfl rfl ?_
  repeat refine same ?_
  repeat' (first
    | refine callP hL rfl rfl ?_
    | refine callP hV rfl rfl ?_
    | refine forkD (fun _ => ?_) (fun _ => ?_)
    | refine fork (fun _ => ?_) (fun _ => ?_)
    | refine end0 rfl rfl rfl (congrArg bo (Eq.symm (hO.trans ?_))))
  all_goals clear hb hs hL hV hO
  all_goals (try simp only [beq_iff_eq, beq_eq_false_iff_ne, ne_eq, ge_iff_le, gt_iff_lt, Bool.and_true, Bool.true_and, Bool.and_false, Bool.false_and] at *)
  all_goals first
    | rfl
    | exact decide_eq_true (by omega)
    | exact decide_eq_false (by omega)
    | (simp; done)
    | (simp; omega)
set_option maxHeartbeats 1000000 in
theorem rr_14  (hb : ACalls Try.prog 28 [.agg (Rq.C ⟨14, 0, [], 0, false, 0, emp, false, emp, 0, emp, emp, 0, 0, []⟩)] [] (Ret (.agg (Rq.C ⟨14, 0, [], 0, false, 0, emp, false, emp, 0, emp, emp, 0, 0, []⟩)))) (hs : ACalls Try.prog 13 [.agg (Rq.C ⟨14, 0, [], 0, false, 0, emp, false, emp, 0, emp, emp, 0, 0, []⟩), .agg (Rq.C ⟨14, 0, [], 0, false, 0, emp, false, emp, 0, emp, emp, 0, 0, []⟩)] [] (Ret (bo true))) : ACalls Try.prog 10 [.agg (Rq.C ⟨14, 0, [], 0, false, 0, emp, false, emp, 0, emp, emp, 0, 0, []⟩)] [] (Ret (bo (true))) := by
  have hL := rright_ok [] (by decide)
  rw [show rightB [] = true by decide] at hL
  have hV := rvRight_ok false emp 0 (by decide)
  rw [show rightV false emp 0 = true by decide] at hV
  obtain ⟨O, hO⟩ : ∃ O, O = (true) := ⟨_, rfl⟩
  rw [← hO]
  refine acalls_of_awp hT mixed Try.func10 rfl (by kernel_rfl) (by kernel_rfl) (Nat.le_of_ble_eq_true rfl) ?_
  refine ⟨[0, 0, 0, 0, 0, 0, 0, 0, 0, 0, 0, 1, 2, 2, 2], [[], [0], [0, 1], [0, 1, 2], [0, 1, 2, 3], [0, 1, 2, 3, 4], [0, 1, 2, 3, 4, 5], [0, 1, 2, 3, 4, 5, 6], [0, 1, 2, 3, 4, 5, 6, 7], [0, 1, 2, 3, 4, 5, 6, 7, 8], [0, 1, 2, 3, 4, 5, 6, 7, 8], [0, 1, 2, 3, 4, 5, 6, 7, 8, 10], [0, 1, 2, 3, 4, 5, 6, 7, 8, 9, 10, 11], [0, 1, 2, 3, 4, 5, 6, 7, 8, 9, 10, 11, 12], [0, 1, 2, 3, 4, 5, 6, 7, 8, 9, 10, 11, 12, 13]], [0, 0, 0, 0, 0, 0, 0, 0, 0, 0, 0, 0, 0, 0, 0], [11, 12], [[1], [4], [5], [6], [1, 7], [8, 7], [9, 7], [7, 10], [11], [1, 12], [1, 12], [14, 12], [13, 15, 12], [16, 12], [12, 17]], Ob.intro (by kernel_rfl) ?_⟩
  repeat refine same ?_
  refine callP hb rfl rfl ?_
  repeat refine same ?_
  refine callP hs rfl rfl ?_
  repeat refine same ?_
  repeat' (first
    | refine callP hL rfl rfl ?_
    | refine callP hV rfl rfl ?_
    | refine forkD (fun _ => ?_) (fun _ => ?_)
    | refine fork (fun _ => ?_) (fun _ => ?_)
    | refine end0 rfl rfl rfl (congrArg bo (Eq.symm (hO.trans ?_))))
  all_goals clear hb hs hL hV hO
  all_goals (try simp only [beq_iff_eq, beq_eq_false_iff_ne, ne_eq, ge_iff_le, gt_iff_lt, Bool.and_true, Bool.true_and, Bool.and_false, Bool.false_and] at *)
  all_goals first
    | rfl
    | exact decide_eq_true (by omega)
    | exact decide_eq_false (by omega)
    | (simp; done)
    | (simp; omega)
set_option maxHeartbeats 1000000 in
theorem rr_15  (hb : ACalls Try.prog 28 [.agg (Rq.C ⟨15, 0, [], 0, false, 0, emp, false, emp, 0, emp, emp, 0, 0, []⟩)] [] (Ret (.agg (Rq.C ⟨15, 0, [], 0, false, 0, emp, false, emp, 0, emp, emp, 0, 0, []⟩)))) (hs : ACalls Try.prog 13 [.agg (Rq.C ⟨15, 0, [], 0, false, 0, emp, false, emp, 0, emp, emp, 0, 0, []⟩), .agg (Rq.C ⟨15, 0, [], 0, false, 0, emp, false, emp, 0, emp, emp, 0, 0, []⟩)] [] (Ret (bo true))) : ACalls Try.prog 10 [.agg (Rq.C ⟨15, 0, [], 0, false, 0, emp, false, emp, 0, emp, emp, 0, 0, []⟩)] [] (Ret (bo (true))) := by
  have hL := rright_ok [] (by decide)
  rw [show rightB [] = true by decide] at hL
  have hV := rvRight_ok false emp 0 (by decide)
  rw [show rightV false emp 0 = true by decide] at hV
  obtain ⟨O, hO⟩ : ∃ O, O = (true) := ⟨_, rfl⟩
  rw [← hO]
  refine acalls_of_awp hT mixed Try.func10 rfl (by kernel_rfl) (by kernel_rfl) (Nat.le_of_ble_eq_true rfl) ?_
  refine ⟨[0, 0, 0, 0, 0, 0, 0, 0, 0, 0, 0, 1, 2, 2, 2], [[], [0], [0, 1], [0, 1, 2], [0, 1, 2, 3], [0, 1, 2, 3, 4], [0, 1, 2, 3, 4, 5], [0, 1, 2, 3, 4, 5, 6], [0, 1, 2, 3, 4, 5, 6, 7], [0, 1, 2, 3, 4, 5, 6, 7, 8], [0, 1, 2, 3, 4, 5, 6, 7, 8], [0, 1, 2, 3, 4, 5, 6, 7, 8, 10], [0, 1, 2, 3, 4, 5, 6, 7, 8, 9, 10, 11], [0, 1, 2, 3, 4, 5, 6, 7, 8, 9, 10, 11, 12], [0, 1, 2, 3, 4, 5, 6, 7, 8, 9, 10, 11, 12, 13]], [0, 0, 0, 0, 0, 0, 0, 0, 0, 0, 0, 0, 0, 0, 0], [11, 12], [[1], [4], [5], [6], [1, 7], [8, 7], [9, 7], [7, 10], [11], [1, 12], [1, 12], [14, 12], [13, 15, 12], [16, 12], [12, 17]], Ob.intro (by kernel_rfl) ?_⟩
  repeat refine same ?_
  refine callP hb rfl rfl ?_
  repeat refine same ?_
  refine callP hs rfl rfl ?_
  repeat refine same ?_
  repeat' (first
    | refine callP hL rfl rfl ?_
    | refine callP hV rfl rfl ?_
    | refine forkD (fun _ => ?_) (fun _ => ?_)
    | refine fork (fun _ => ?_) (fun _ => ?_)
    | refine end0 rfl rfl rfl (congrArg bo (Eq.symm (hO.trans ?_))))
  all_goals clear hb hs hL hV hO
  all_goals (try simp only [beq_iff_eq, beq_eq_false_iff_ne, ne_eq, ge_iff_le, gt_iff_lt, Bool.and_true, Bool.true_and, Bool.and_false, Bool.false_and] at *)
  all_goals first
    | rfl
    | exact decide_eq_true (by omega)
    | exact decide_eq_false (by omega)
    | (simp; done)
    | (simp; omega)
set_option maxHeartbeats 1000000 in
theorem rr_16 (r : Int) (key : ByteArray) (c : List (Int × Nat)) (hc : c.length < 4611686018427387904) (hcb : ∀ y ∈ c, y.2 < 18446744073709551616) (hb : ACalls Try.prog 28 [.agg (Rq.C ⟨16, 0, [], 0, false, r, key, false, emp, 0, emp, emp, 0, 0, c⟩)] [] (Ret (.agg (Rq.C ⟨16, 0, [], 0, false, r, key, false, emp, 0, emp, emp, 0, 0, c⟩)))) (hs : ACalls Try.prog 13 [.agg (Rq.C ⟨16, 0, [], 0, false, r, key, false, emp, 0, emp, emp, 0, 0, c⟩), .agg (Rq.C ⟨16, 0, [], 0, false, r, key, false, emp, 0, emp, emp, 0, 0, c⟩)] [] (Ret (bo true))) : ACalls Try.prog 10 [.agg (Rq.C ⟨16, 0, [], 0, false, r, key, false, emp, 0, emp, emp, 0, 0, c⟩)] [] (Ret (bo ((decide (0 ≤ r ∧ r ≤ 7) && (keyB key && rightP c))))) := by
  have hL := rright_ok [] (by decide)
  rw [show rightB [] = true by decide] at hL
  have hV := rvRight_ok false emp 0 (by decide)
  rw [show rightV false emp 0 = true by decide] at hV
  have hK := skey_ok key
  have hP := reRight_ok c hcb hc
  obtain ⟨O, hO⟩ : ∃ O, O = ((decide (0 ≤ r ∧ r ≤ 7) && (keyB key && rightP c))) := ⟨_, rfl⟩
  rw [← hO]
  generalize keyB key = z0 at hK hO
  generalize rightP c = z1 at hP hO
  cases z0 <;> cases z1 <;>
  · refine acalls_of_awp hT mixed Try.func10 rfl (by kernel_rfl) (by kernel_rfl) (Nat.le_of_ble_eq_true rfl) ?_
    refine ⟨[0, 0, 0, 0, 0, 0, 0, 0, 0, 0, 0, 1, 2, 2, 2], [[], [0], [0, 1], [0, 1, 2], [0, 1, 2, 3], [0, 1, 2, 3, 4], [0, 1, 2, 3, 4, 5], [0, 1, 2, 3, 4, 5, 6], [0, 1, 2, 3, 4, 5, 6, 7], [0, 1, 2, 3, 4, 5, 6, 7, 8], [0, 1, 2, 3, 4, 5, 6, 7, 8], [0, 1, 2, 3, 4, 5, 6, 7, 8, 10], [0, 1, 2, 3, 4, 5, 6, 7, 8, 9, 10, 11], [0, 1, 2, 3, 4, 5, 6, 7, 8, 9, 10, 11, 12], [0, 1, 2, 3, 4, 5, 6, 7, 8, 9, 10, 11, 12, 13]], [0, 0, 0, 0, 0, 0, 0, 0, 0, 0, 0, 0, 0, 0, 0], [11, 12], [[1], [4], [5], [6], [1, 7], [8, 7], [9, 7], [7, 10], [11], [1, 12], [1, 12], [14, 12], [13, 15, 12], [16, 12], [12, 17]], Ob.intro (by kernel_rfl) ?_⟩
    repeat refine same ?_
    refine callP hb rfl rfl ?_
    repeat refine same ?_
    refine callP hs rfl rfl ?_
    repeat refine same ?_
    repeat' (first
      | refine callP hL rfl rfl ?_
      | refine callP hV rfl rfl ?_
      | refine callP hK rfl rfl ?_
      | refine callP hP rfl rfl ?_
      | refine forkD (fun _ => ?_) (fun _ => ?_)
      | refine fork (fun _ => ?_) (fun _ => ?_)
      | refine end0 rfl rfl rfl (congrArg bo (Eq.symm (hO.trans ?_))))
    all_goals clear hb hs hL hV hO
    all_goals (try simp only [beq_iff_eq, beq_eq_false_iff_ne, ne_eq, ge_iff_le, gt_iff_lt, Bool.and_true, Bool.true_and, Bool.and_false, Bool.false_and] at *)
    all_goals first
      | rfl
      | exact decide_eq_true (by omega)
      | exact decide_eq_false (by omega)
      | (simp; done)
      | (simp; omega)
set_option maxHeartbeats 1000000 in
theorem rr_17 (l : List Nat) (fr : ByteArray) (t : ByteArray) (lim : Int) (hl : l.length < 4611686018427387904) (hb : ACalls Try.prog 28 [.agg (Rq.C ⟨17, 0, l, 0, false, 0, emp, false, emp, 0, fr, t, lim, 0, []⟩)] [] (Ret (.agg (Rq.C ⟨17, 0, l, 0, false, 0, emp, false, emp, 0, fr, t, lim, 0, []⟩)))) (hs : ACalls Try.prog 13 [.agg (Rq.C ⟨17, 0, l, 0, false, 0, emp, false, emp, 0, fr, t, lim, 0, []⟩), .agg (Rq.C ⟨17, 0, l, 0, false, 0, emp, false, emp, 0, fr, t, lim, 0, []⟩)] [] (Ret (bo true))) : ACalls Try.prog 10 [.agg (Rq.C ⟨17, 0, l, 0, false, 0, emp, false, emp, 0, fr, t, lim, 0, []⟩)] [] (Ret (bo ((rightB l && (rngB fr t lim && (decide (fr.size ≤ 32) && decide (t.size ≤ 32))))))) := by
  have hL := rright_ok l (by omega)
  have hV := rvRight_ok false emp 0 (by decide)
  rw [show rightV false emp 0 = true by decide] at hV
  have hR := rmright_ok fr t lim
  obtain ⟨O, hO⟩ : ∃ O, O = ((rightB l && (rngB fr t lim && (decide (fr.size ≤ 32) && decide (t.size ≤ 32))))) := ⟨_, rfl⟩
  rw [← hO]
  generalize rightB l = z0 at hL hO
  generalize rngB fr t lim = z1 at hR hO
  cases z0 <;> cases z1 <;>
  · refine acalls_of_awp hT mixed Try.func10 rfl (by kernel_rfl) (by kernel_rfl) (Nat.le_of_ble_eq_true rfl) ?_
    refine ⟨[0, 0, 0, 0, 0, 0, 0, 0, 0, 0, 0, 1, 2, 2, 2], [[], [0], [0, 1], [0, 1, 2], [0, 1, 2, 3], [0, 1, 2, 3, 4], [0, 1, 2, 3, 4, 5], [0, 1, 2, 3, 4, 5, 6], [0, 1, 2, 3, 4, 5, 6, 7], [0, 1, 2, 3, 4, 5, 6, 7, 8], [0, 1, 2, 3, 4, 5, 6, 7, 8], [0, 1, 2, 3, 4, 5, 6, 7, 8, 10], [0, 1, 2, 3, 4, 5, 6, 7, 8, 9, 10, 11], [0, 1, 2, 3, 4, 5, 6, 7, 8, 9, 10, 11, 12], [0, 1, 2, 3, 4, 5, 6, 7, 8, 9, 10, 11, 12, 13]], [0, 0, 0, 0, 0, 0, 0, 0, 0, 0, 0, 0, 0, 0, 0], [11, 12], [[1], [4], [5], [6], [1, 7], [8, 7], [9, 7], [7, 10], [11], [1, 12], [1, 12], [14, 12], [13, 15, 12], [16, 12], [12, 17]], Ob.intro (by kernel_rfl) ?_⟩
    repeat refine same ?_
    refine callP hb rfl rfl ?_
    repeat refine same ?_
    refine callP hs rfl rfl ?_
    repeat refine same ?_
    repeat' (first
      | refine callP hL rfl rfl ?_
      | refine callP hV rfl rfl ?_
      | refine callP hR rfl rfl ?_
      | refine forkD (fun _ => ?_) (fun _ => ?_)
      | refine fork (fun _ => ?_) (fun _ => ?_)
      | refine end0 rfl rfl rfl (congrArg bo (Eq.symm (hO.trans ?_))))
    all_goals clear hb hs hL hV hO
    all_goals (try simp only [beq_iff_eq, beq_eq_false_iff_ne, ne_eq, ge_iff_le, gt_iff_lt, Bool.and_true, Bool.true_and, Bool.and_false, Bool.false_and] at *)
    all_goals first
      | rfl
      | exact decide_eq_true (by omega)
      | exact decide_eq_false (by omega)
      | (simp; done)
      | (simp; omega)
end Go.Proofs.Ytgchhmfobkcnfaa.A
