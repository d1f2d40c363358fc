/- ask, the reference: Unpack of any bytes; AskReads. No condition. -/
import Derived.Test.YtgchhmfobkcnfaaTf
namespace Go.Proofs.Ytgchhmfobkcnfaa.A
open Go
set_option linter.unusedVariables false
set_option linter.unusedSimpArgs false
set_option maxRecDepth 100000
set_option pp.maxSteps 400

theorem cat_okS {b1 b2 : List Nat} {L1 L2 : List (Nat × Bool)} {s : ByteArray} {l l2 : List It} {m m2 : Nat} (e1 : shP b1 = some L1) (e2 : shP b2 = some L2) (e3 : shP (b1 ++ b2) = some (L1 ++ L2)) (h1 : begP b1 s = .ok l m) (h2 : begP b2 (rest s m) = .ok l2 m2) : begP (b1 ++ b2) s = .ok (l ++ l2) (m + m2) := by
  rw [begP_cat e1 e2 e3, h1]
  dsimp only
  rw [h2]
theorem soctB_hd (x : Nat) (r : List Nat) : octB (BA (x :: r)) 0 = x % 256 := by
  unfold octB
  rw [BA_list]
  show (UInt8.ofNat x).toNat = _
  exact UInt8.toNat_ofNat'
theorem rq_oct {s : ByteArray} {q : Rq} (h : rqP s = some q) : 1 ≤ octB s 0 ∧ octB s 0 ≤ 17 ∧ s.size ≠ 0 := by
  obtain ⟨h1, _, h3⟩ := rq_can h
  have hk := ((rq_iff q).1 h3).1
  have ho := soctB_hd q.k.toNat ((fldL q.k).flatMap (fB q))
  rw [show BA (q.k.toNat :: (fldL q.k).flatMap (fB q)) = s from h1] at ho
  have hz : s.size = (pkB q).length := by rw [← h1, BA_size]
  refine ⟨by omega, by omega, ?_⟩
  rw [hz]
  unfold pkB
  simp
theorem fds_split {f : Nat} {L : List Nat} {q q' : Rq} {t t' : ByteArray} (h : fdsP (f :: L) q t = some (q', t')) : ∃ q1 m, fdA f q t = some (q1, m) ∧ fdsP L q1 (rest t m) = some (q', t') := by
  rw [fdsP_cons] at h
  cases hd : fdA f q t with
  | none => rw [hd] at h; cases h
  | some r =>
    obtain ⟨q1, m⟩ := r
    rw [hd] at h
    exact ⟨_, _, rfl, h⟩
/-- A request that is read has its kind's shape. -/
theorem shape_some {s : ByteArray} {q : Rq} (h : rqP s = some q) : ∃ l m, begP (byL (shK (octB s 0))) s = .ok l m := by
  obtain ⟨o1, o2, _⟩ := rq_oct h
  unfold rqP at h
  cases hp : begP [98] s with
  | err e => rw [hp] at h; cases h
  | ok l0 i =>
    obtain ⟨n, s1, l1, k1, rfl⟩ := beg_1 sh_1b hp
    rw [hp] at h
    dsimp only at h
    have hn := (b_first hp).1
    rw [← hn] at o1 o2 ⊢
    clear hn
    cases hf : fdsP (fldL ((n : Nat) : Int)) (q00 n) (rest s i) with
    | none => rw [hf] at h; cases h
    | some r =>
      obtain ⟨q', t'⟩ := r
      clear h
      have hk : n = 1 ∨ n = 2 ∨ n = 3 ∨ n = 4 ∨ n = 5 ∨ n = 6 ∨ n = 7 ∨ n = 8 ∨ n = 9 ∨ n = 10 ∨ n = 11 ∨ n = 12 ∨ n = 13 ∨ n = 14 ∨ n = 15 ∨ n = 16 ∨ n = 17 := by omega
      rcases hk with rfl | rfl | rfl | rfl | rfl | rfl | rfl | rfl | rfl | rfl | rfl | rfl | rfl | rfl | rfl | rfl | rfl
      · have hL : fldL ((1 : Nat) : Int) = [0] := by decide
        rw [hL] at hf
        obtain ⟨q1, m1, d1, f1⟩ := fds_split hf
        obtain ⟨y1, b1⟩ := fd_shape (by decide) d1
        exact ⟨_, _, cat_okS (b1 := [98]) (b2 := [110]) (L1 := [(98, false)]) (L2 := [(110, false)]) (by decide) (by decide) (by decide) hp b1⟩
      · have hL : fldL ((2 : Nat) : Int) = [] := by decide
        rw [hL] at hf
        exact ⟨_, _, hp⟩
      · have hL : fldL ((3 : Nat) : Int) = [1] := by decide
        rw [hL] at hf
        obtain ⟨q1, m1, d1, f1⟩ := fds_split hf
        obtain ⟨y1, b1⟩ := fd_shape (by decide) d1
        exact ⟨_, _, cat_okS (b1 := [98]) (b2 := [108]) (L1 := [(98, false)]) (L2 := [(108, false)]) (by decide) (by decide) (by decide) hp b1⟩
      · have hL : fldL ((4 : Nat) : Int) = [2] := by decide
        rw [hL] at hf
        obtain ⟨q1, m1, d1, f1⟩ := fds_split hf
        obtain ⟨y1, b1⟩ := fd_shape (by decide) d1
        exact ⟨_, _, cat_okS (b1 := [98]) (b2 := [110]) (L1 := [(98, false)]) (L2 := [(110, false)]) (by decide) (by decide) (by decide) hp b1⟩
      · have hL : fldL ((5 : Nat) : Int) = [] := by decide
        rw [hL] at hf
        exact ⟨_, _, hp⟩
      · have hL : fldL ((6 : Nat) : Int) = [0, 2, 3] := by decide
        rw [hL] at hf
        obtain ⟨q1, m1, d1, f1⟩ := fds_split hf
        obtain ⟨y1, b1⟩ := fd_shape (by decide) d1
        obtain ⟨q2, m2, d2, f2⟩ := fds_split f1
        obtain ⟨y2, b2⟩ := fd_shape (by decide) d2
        obtain ⟨q3, m3, d3, f3⟩ := fds_split f2
        obtain ⟨y3, b3⟩ := fd_shape (by decide) d3
        exact ⟨_, _, cat_okS (b1 := [98]) (b2 := [110, 110, 98]) (L1 := [(98, false)]) (L2 := [(110, false), (110, false), (98, false)]) (by decide) (by decide) (by decide) hp (cat_okS (b1 := [110]) (b2 := [110, 98]) (L1 := [(110, false)]) (L2 := [(110, false), (98, false)]) (by decide) (by decide) (by decide) b1 (cat_okS (b1 := [110]) (b2 := [98]) (L1 := [(110, false)]) (L2 := [(98, false)]) (by decide) (by decide) (by decide) b2 b3))⟩
      · have hL : fldL ((7 : Nat) : Int) = [] := by decide
        rw [hL] at hf
        exact ⟨_, _, hp⟩
      · have hL : fldL ((8 : Nat) : Int) = [4, 5] := by decide
        rw [hL] at hf
        obtain ⟨q1, m1, d1, f1⟩ := fds_split hf
        obtain ⟨y1, b1⟩ := fd_shape (by decide) d1
        obtain ⟨q2, m2, d2, f2⟩ := fds_split f1
        obtain ⟨y2, b2⟩ := fd_shape (by decide) d2
        exact ⟨_, _, cat_okS (b1 := [98]) (b2 := [110, 116]) (L1 := [(98, false)]) (L2 := [(110, false), (116, false)]) (by decide) (by decide) (by decide) hp (cat_okS (b1 := [110]) (b2 := [116]) (L1 := [(110, false)]) (L2 := [(116, false)]) (by decide) (by decide) (by decide) b1 b2)⟩
      · have hL : fldL ((9 : Nat) : Int) = [4, 5, 6] := by decide
        rw [hL] at hf
        obtain ⟨q1, m1, d1, f1⟩ := fds_split hf
        obtain ⟨y1, b1⟩ := fd_shape (by decide) d1
        obtain ⟨q2, m2, d2, f2⟩ := fds_split f1
        obtain ⟨y2, b2⟩ := fd_shape (by decide) d2
        obtain ⟨q3, m3, d3, f3⟩ := fds_split f2
        obtain ⟨y3, b3⟩ := fd_shape (by decide) d3
        exact ⟨_, _, cat_okS (b1 := [98]) (b2 := [110, 116, 116]) (L1 := [(98, false)]) (L2 := [(110, false), (116, false), (116, false)]) (by decide) (by decide) (by decide) hp (cat_okS (b1 := [110]) (b2 := [116, 116]) (L1 := [(110, false)]) (L2 := [(116, false), (116, false)]) (by decide) (by decide) (by decide) b1 (cat_okS (b1 := [116]) (b2 := [116]) (L1 := [(116, false)]) (L2 := [(116, false)]) (by decide) (by decide) (by decide) b2 b3))⟩
      · have hL : fldL ((10 : Nat) : Int) = [4, 5] := by decide
        rw [hL] at hf
        obtain ⟨q1, m1, d1, f1⟩ := fds_split hf
        obtain ⟨y1, b1⟩ := fd_shape (by decide) d1
        obtain ⟨q2, m2, d2, f2⟩ := fds_split f1
        obtain ⟨y2, b2⟩ := fd_shape (by decide) d2
        exact ⟨_, _, cat_okS (b1 := [98]) (b2 := [110, 116]) (L1 := [(98, false)]) (L2 := [(110, false), (116, false)]) (by decide) (by decide) (by decide) hp (cat_okS (b1 := [110]) (b2 := [116]) (L1 := [(110, false)]) (L2 := [(116, false)]) (by decide) (by decide) (by decide) b1 b2)⟩
      · have hL : fldL ((11 : Nat) : Int) = [1, 7] := by decide
        rw [hL] at hf
        obtain ⟨q1, m1, d1, f1⟩ := fds_split hf
        obtain ⟨y1, b1⟩ := fd_shape (by decide) d1
        obtain ⟨q2, m2, d2, f2⟩ := fds_split f1
        obtain ⟨y2, b2⟩ := fd_shape (by decide) d2
        exact ⟨_, _, cat_okS (b1 := [98]) (b2 := [108, 116, 116, 110]) (L1 := [(98, false)]) (L2 := [(108, false), (116, false), (116, false), (110, false)]) (by decide) (by decide) (by decide) hp (cat_okS (b1 := [108]) (b2 := [116, 116, 110]) (L1 := [(108, false)]) (L2 := [(116, false), (116, false), (110, false)]) (by decide) (by decide) (by decide) b1 b2)⟩
      · have hL : fldL ((12 : Nat) : Int) = [] := by decide
        rw [hL] at hf
        exact ⟨_, _, hp⟩
      · have hL : fldL ((13 : Nat) : Int) = [8] := by decide
        rw [hL] at hf
        obtain ⟨q1, m1, d1, f1⟩ := fds_split hf
        obtain ⟨y1, b1⟩ := fd_shape (by decide) d1
        exact ⟨_, _, cat_okS (b1 := [98]) (b2 := [110]) (L1 := [(98, false)]) (L2 := [(110, false)]) (by decide) (by decide) (by decide) hp b1⟩
      · have hL : fldL ((14 : Nat) : Int) = [] := by decide
        rw [hL] at hf
        exact ⟨_, _, hp⟩
      · have hL : fldL ((15 : Nat) : Int) = [] := by decide
        rw [hL] at hf
        exact ⟨_, _, hp⟩
      · have hL : fldL ((16 : Nat) : Int) = [4, 5, 9] := by decide
        rw [hL] at hf
        obtain ⟨q1, m1, d1, f1⟩ := fds_split hf
        obtain ⟨y1, b1⟩ := fd_shape (by decide) d1
        obtain ⟨q2, m2, d2, f2⟩ := fds_split f1
        obtain ⟨y2, b2⟩ := fd_shape (by decide) d2
        obtain ⟨q3, m3, d3, f3⟩ := fds_split f2
        obtain ⟨y3, j3, b3⟩ := fd9_shape d3
        exact ⟨_, _, cat_okS (b1 := [98]) (b2 := [110, 116, 110]) (L1 := [(98, false)]) (L2 := [(110, false), (116, false), (110, false)]) (by decide) (by decide) (by decide) hp (cat_okS (b1 := [110]) (b2 := [116, 110]) (L1 := [(110, false)]) (L2 := [(116, false), (110, false)]) (by decide) (by decide) (by decide) b1 (cat_okS (b1 := [116]) (b2 := [110]) (L1 := [(116, false)]) (L2 := [(110, false)]) (by decide) (by decide) (by decide) b2 b3))⟩
      · have hL : fldL ((17 : Nat) : Int) = [1, 7] := by decide
        rw [hL] at hf
        obtain ⟨q1, m1, d1, f1⟩ := fds_split hf
        obtain ⟨y1, b1⟩ := fd_shape (by decide) d1
        obtain ⟨q2, m2, d2, f2⟩ := fds_split f1
        obtain ⟨y2, b2⟩ := fd_shape (by decide) d2
        exact ⟨_, _, cat_okS (b1 := [98]) (b2 := [108, 116, 116, 110]) (L1 := [(98, false)]) (L2 := [(108, false), (116, false), (116, false), (110, false)]) (by decide) (by decide) (by decide) hp (cat_okS (b1 := [108]) (b2 := [116, 116, 110]) (L1 := [(108, false)]) (L2 := [(116, false), (116, false), (110, false)]) (by decide) (by decide) (by decide) b1 b2)⟩
set_option maxHeartbeats 1000000 in
theorem ru_kind (s : ByteArray) (hs : s.size ≤ 1000000) (hsz : s.size ≠ 0) (k : Nat) (h0 : octB s 0 = k) (h1 : 1 ≤ k ∧ k ≤ 17) (l : List It) (m : Nat) (h : begP (byL (shK k)) s = .ok l m) : ACalls Try.prog 14 [str s] [] (UrW (rqP s)) := by
  have hk : k = 1 ∨ k = 2 ∨ k = 3 ∨ k = 4 ∨ k = 5 ∨ k = 6 ∨ k = 7 ∨ k = 8 ∨ k = 9 ∨ k = 10 ∨ k = 11 ∨ k = 12 ∨ k = 13 ∨ k = 14 ∨ k = 15 ∨ k = 16 ∨ k = 17 := by omega
  rcases hk with rfl | rfl | rfl | rfl | rfl | rfl | rfl | rfl | rfl | rfl | rfl | rfl | rfl | rfl | rfl | rfl | rfl
  · replace h : begP [98, 110] s = .ok l m := h
    have hl := begP_length (show shP [98, 110] = some [(98, false), (110, false)] by decide) h
    match l, hl, h with
    | [.mk _ _ _ _, .mk _ _ _ _], _, h => exact ru_1 s hs h0 hsz h
  · replace h : begP [98] s = .ok l m := h
    have hl := begP_length (show shP [98] = some [(98, false)] by decide) h
    match l, hl, h with
    | [.mk _ _ _ _], _, h => exact ru_2 s hs h0 hsz h
  · replace h : begP [98, 108] s = .ok l m := h
    have hl := begP_length (show shP [98, 108] = some [(98, false), (108, false)] by decide) h
    match l, hl, h with
    | [.mk _ _ _ _, .mk _ _ _ _], _, h => exact ru_3 s hs h0 hsz h
  · replace h : begP [98, 110] s = .ok l m := h
    have hl := begP_length (show shP [98, 110] = some [(98, false), (110, false)] by decide) h
    match l, hl, h with
    | [.mk _ _ _ _, .mk _ _ _ _], _, h => exact ru_4 s hs h0 hsz h
  · replace h : begP [98] s = .ok l m := h
    have hl := begP_length (show shP [98] = some [(98, false)] by decide) h
    match l, hl, h with
    | [.mk _ _ _ _], _, h => exact ru_5 s hs h0 hsz h
  · replace h : begP [98, 110, 110, 98] s = .ok l m := h
    have hl := begP_length (show shP [98, 110, 110, 98] = some [(98, false), (110, false), (110, false), (98, false)] by decide) h
    match l, hl, h with
    | [.mk _ _ _ _, .mk _ _ _ _, .mk _ _ _ _, .mk _ _ _ _], _, h => exact ru_6 s hs h0 hsz h
  · replace h : begP [98] s = .ok l m := h
    have hl := begP_length (show shP [98] = some [(98, false)] by decide) h
    match l, hl, h with
    | [.mk _ _ _ _], _, h => exact ru_7 s hs h0 hsz h
  · replace h : begP [98, 110, 116] s = .ok l m := h
    have hl := begP_length (show shP [98, 110, 116] = some [(98, false), (110, false), (116, false)] by decide) h
    match l, hl, h with
    | [.mk _ _ _ _, .mk _ _ _ _, .mk _ _ _ _], _, h => exact ru_8 s hs h0 hsz h
  · replace h : begP [98, 110, 116, 116] s = .ok l m := h
    have hl := begP_length (show shP [98, 110, 116, 116] = some [(98, false), (110, false), (116, false), (116, false)] by decide) h
    match l, hl, h with
    | [.mk _ _ _ _, .mk _ _ _ _, .mk _ _ _ _, .mk _ _ _ _], _, h => exact ru_9 s hs h0 hsz h
  · replace h : begP [98, 110, 116] s = .ok l m := h
    have hl := begP_length (show shP [98, 110, 116] = some [(98, false), (110, false), (116, false)] by decide) h
    match l, hl, h with
    | [.mk _ _ _ _, .mk _ _ _ _, .mk _ _ _ _], _, h => exact ru_10 s hs h0 hsz h
  · replace h : begP [98, 108, 116, 116, 110] s = .ok l m := h
    have hl := begP_length (show shP [98, 108, 116, 116, 110] = some [(98, false), (108, false), (116, false), (116, false), (110, false)] by decide) h
    match l, hl, h with
    | [.mk _ _ _ _, .mk _ _ _ _, .mk _ _ _ _, .mk _ _ _ _, .mk _ _ _ _], _, h => exact ru_11 s hs h0 hsz h
  · replace h : begP [98] s = .ok l m := h
    have hl := begP_length (show shP [98] = some [(98, false)] by decide) h
    match l, hl, h with
    | [.mk _ _ _ _], _, h => exact ru_12 s hs h0 hsz h
  · replace h : begP [98, 110] s = .ok l m := h
    have hl := begP_length (show shP [98, 110] = some [(98, false), (110, false)] by decide) h
    match l, hl, h with
    | [.mk _ _ _ _, .mk _ _ _ _], _, h => exact ru_13 s hs h0 hsz h
  · replace h : begP [98] s = .ok l m := h
    have hl := begP_length (show shP [98] = some [(98, false)] by decide) h
    match l, hl, h with
    | [.mk _ _ _ _], _, h => exact ru_14 s hs h0 hsz h
  · replace h : begP [98] s = .ok l m := h
    have hl := begP_length (show shP [98] = some [(98, false)] by decide) h
    match l, hl, h with
    | [.mk _ _ _ _], _, h => exact ru_15 s hs h0 hsz h
  · replace h : begP [98, 110, 116, 110] s = .ok l m := h
    have hl := begP_length (show shP [98, 110, 116, 110] = some [(98, false), (110, false), (116, false), (110, false)] by decide) h
    match l, hl, h with
    | [.mk _ _ _ _, .mk _ _ _ _, .mk _ _ _ _, .mk _ _ _ _], _, h => exact ru_16 s hs h0 hsz h
  · replace h : begP [98, 108, 116, 116, 110] s = .ok l m := h
    have hl := begP_length (show shP [98, 108, 116, 116, 110] = some [(98, false), (108, false), (116, false), (116, false), (110, false)] by decide) h
    match l, hl, h with
    | [.mk _ _ _ _, .mk _ _ _ _, .mk _ _ _ _, .mk _ _ _ _, .mk _ _ _ _], _, h => exact ru_17 s hs h0 hsz h
theorem runpack20_ok (s : ByteArray) (hs : s.size ≤ 1000000) : ACalls Try.prog 14 [str s] [] (Ret (urA (rqP s))) := by
  refine ur_weak ?_
  have hn : ∀ {P : Prop}, (∀ q, rqP s = some q → False) → (rqP s = none → P) → P := fun {P} h k => k (by
    cases hq : rqP s with
    | none => rfl
    | some q => exact (h q hq).elim)
  by_cases hz : s.size = 0
  · exact hn (fun q hq => (rq_oct hq).2.2 hz) fun e => by rw [e]; exact ru_empty s hz
  by_cases hlo : octB s 0 = 0
  · exact hn (fun q hq => by have := (rq_oct hq).1; omega) fun e => by rw [e]; exact ru_low s hz hlo
  by_cases hhi : 17 < octB s 0
  · exact hn (fun q hq => by have := (rq_oct hq).2.1; omega) fun e => by rw [e]; exact ru_high s hz hhi
  cases hp : begP (byL (shK (octB s 0))) s with
  | err e =>
    exact hn (fun q hq => by
      obtain ⟨l, m, h⟩ := shape_some hq
      rw [hp] at h
      cases h) fun e2 => by rw [e2]; exact ru_bad s hs hz (by omega) (by omega) e hp
  | ok l m => exact ru_kind s hs hz _ rfl (by omega) l m hp
theorem kreads_long (s : ByteArray) (h : 2000 < s.size) : ACalls Try.prog 4 [str s] [] (Ret (bo true)) := by
  refine acalls_of_awp hT mixed Try.func4 rfl (by kernel_rfl) (by kernel_rfl) (Nat.le_of_ble_eq_true rfl) ?_
  refine callP awake20_ok rfl rfl ?_
  refine forkD (fun _ => end0 rfl rfl rfl rfl) (fun g => absurd (show (s.size : Int) > 2000 by omega) g)
theorem kreads_none (s : ByteArray) (hs : s.size ≤ 2000) (q : Rq) (h1 : ACalls Try.prog 11 [str s] [] (Ret (.tup [.agg q.C, i64 4]))) (h2 : ACalls Try.prog 14 [str s] [] (Ret (.tup [.agg q.C, bo false]))) (h3 : ACalls Try.prog 13 [.agg q.C, .agg q.C] [] (Ret (bo true))) : ACalls Try.prog 4 [str s] [] (Ret (bo true)) := by
  obtain ⟨k, w, l, g, m, r, key, vn, vt, vb, fr, t, lim, n, c⟩ := q
  cases m <;> cases vn <;>
  · refine acalls_of_awp hT mixed Try.func4 rfl (by kernel_rfl) (by kernel_rfl) (Nat.le_of_ble_eq_true rfl) ?_
    refine callP awake20_ok rfl rfl ?_
    refine forkD (fun g => absurd (show (s.size : Int) > 2000 from g) (by omega)) (fun _ => ?_)
    refine callP h1 rfl rfl ?_
    refine callP h2 rfl rfl ?_
    refine callP h3 rfl rfl ?_
    refine end0 rfl rfl rfl rfl
theorem kreads_some (s : ByteArray) (hs : s.size ≤ 2000) (q : Rq) (h1 : ACalls Try.prog 11 [str s] [] (Ret (.tup [.agg q.C, i64 0]))) (h2 : ACalls Try.prog 14 [str s] [] (Ret (.tup [.agg q.C, bo true]))) (h3 : ACalls Try.prog 13 [.agg q.C, .agg q.C] [] (Ret (bo true))) (h4 : ACalls Try.prog 8 [.agg q.C] [] (Ret (.tup [str s, i64 0]))) : ACalls Try.prog 4 [str s] [] (Ret (bo true)) := by
  obtain ⟨k, w, l, g, m, r, key, vn, vt, vb, fr, t, lim, n, c⟩ := q
  cases m <;> cases vn <;>
  · refine acalls_of_awp hT mixed Try.func4 rfl (by kernel_rfl) (by kernel_rfl) (Nat.le_of_ble_eq_true rfl) ?_
    refine callP awake20_ok rfl rfl ?_
    refine forkD (fun g => absurd (show (s.size : Int) > 2000 from g) (by omega)) (fun _ => ?_)
    refine callP h1 rfl rfl ?_
    refine callP h2 rfl rfl ?_
    refine callP h3 rfl rfl ?_
    refine callP h4 rfl rfl ?_
    refine fork (fun _ => ?_) (fun e => absurd (strEq_iff.2 rfl) (by rw [e]; decide))
    refine end0 rfl rfl rfl rfl
theorem askReads_ok (s : ByteArray) (hs : s.size ≤ 2000) : ACalls Try.prog 4 [str s] [] (Ret (bo true)) := by
  have h1 := unpackU20_ok s (by omega)
  have h2 := runpack20_ok s (by omega)
  cases hq : rqP s with
  | none =>
    rw [hq] at h1 h2
    have h3 := rqsame_ok (q00 0) (q00 0) (q00_ok 0) (q00_ok 0)
    rw [decide_eq_true rfl] at h3
    exact kreads_none s hs (q00 0) h1 h2 h3
  | some q =>
    rw [hq] at h1 h2
    obtain ⟨c1, c2, c3⟩ := rq_can hq
    have h3 := rqsame_ok q q c2 c2
    rw [decide_eq_true rfl] at h3
    have h4 := pack_yes q c2 c3
    rw [c1] at h4
    exact kreads_some s hs q h1 h2 h3 h4
theorem askReads_law (l0 : List AV) (w0 : Wf .str l0) : ACalls Try.prog 4 [argA .str l0] [] (Ret (.sc (.bool true))) := by
  obtain ⟨s, rfl, _⟩ := w0
  by_cases h : s.size ≤ 2000
  · exact askReads_ok s h
  · exact kreads_long s (by omega)
end Go.Proofs.Ytgchhmfobkcnfaa.A
