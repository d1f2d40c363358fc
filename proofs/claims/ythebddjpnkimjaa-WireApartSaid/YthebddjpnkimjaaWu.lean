/- law03: WireApart. No condition. -/
import Derived.Test.YthebddjpnkimjaaWt
namespace Go.Proofs.Ythebddjpnkimjaa.A
open Go
set_option linter.unusedVariables false
set_option linter.unusedSimpArgs false
set_option maxRecDepth 100000
set_option pp.maxSteps 300

theorem cntG_app : ∀ {b : List Nat} {i acc n k : Nat} (c : List Nat), cntG b i acc = .ok n k → cntG (b ++ c) i acc = .ok n k
  | [], i, acc, n, k, c, h => by cases h
  | x :: r, i, acc, n, k, c, h => by
    rw [List.cons_append, cntG_cons]
    rw [cntG_cons] at h
    split at h
    · cases h
    · rename_i h1
      rw [if_neg h1]
      split at h
      · rename_i h2
        rw [if_pos h2]
        exact h
      · rename_i h2
        rw [if_neg h2]
        exact cntG_app c h
theorem cntP_app {s u : ByteArray} {n k : Nat} (h : cntP (byL s) = .ok n k) : cntP (byL (s ++ u)) = .ok n k := by
  rw [byL_append]
  exact cntG_app _ h
theorem cntM_app {s u : ByteArray} {m n k : Nat} (h : cntM m (byL s) = .ok n k) : cntM m (byL (s ++ u)) = .ok n k := by
  unfold cntM at h ⊢
  cases hc : cntP (byL s) with
  | err e => rw [hc] at h; cases h
  | ok a b =>
    rw [hc] at h
    rw [cntP_app hc]
    exact h
theorem rest_app {s u : ByteArray} {m : Nat} (h : m ≤ s.size) : rest (s ++ u) m = rest s m ++ u := by
  apply byL_inj
  rw [rest_byL, byL_append, byL_append, rest_byL, List.drop_append_of_le_length (by rw [byL_len]; exact h)]
theorem ext_app {s u : ByteArray} {n : Nat} (h : n ≤ s.size) : (s ++ u).extract 0 n = s.extract 0 n := by
  apply byL_inj
  rw [extractB, extractB, byL_append, List.take_append_of_le_length (by rw [byL_len]; exact h)]
theorem valB_app {s u : ByteArray} {p : Nat} : ∀ {j : Nat}, p + j ≤ s.size → valB (s ++ u) p j = valB s p j
  | 0, _ => rfl
  | j + 1, h => by
    simp only [valB]
    rw [valB_app (by omega), octB_left (by omega)]
theorem tagsB_app {s u : ByteArray} : ∀ {k : Nat}, 1 + 8 * k ≤ s.size → tagsB (s ++ u) k = tagsB s k
  | 0, _ => rfl
  | k + 1, h => by rw [tagsB, tagsB, tagsB_app (by omega), valB_app (by omega)]
theorem unpL_app {s u : ByteArray} (h : (unpL s).e = 0) : unpL (s ++ u) = unpL s := by
  unfold unpL at h ⊢
  split at h
  · cases h
  · split at h
    · cases h
    · split at h
      · cases h
      · rename_i h1 h2 h3
        have ho : octB (s ++ u) 0 = octB s 0 := octB_left (by omega)
        have hz := size_append s u
        rw [ho, if_neg (show ¬ (s ++ u).size = 0 by omega), if_neg h2, if_neg (show ¬ (s ++ u).size < 1 + 8 * octB s 0 by omega), tagsB_app (by omega), if_neg h1, if_neg h2, if_neg h3]
theorem rdP_app {c : Nat} {s u : ByteArray} {x : It} {k : Nat} (hc : isL c = true) (h : rdP c s = .ok x k) : rdP c (s ++ u) = .ok x k := by
  have hz := size_append s u
  rcases isL_5 hc with rfl | rfl | rfl | rfl | rfl
  · rw [rdP_b] at h ⊢
    split at h
    · cases h
    · rename_i h1
      rw [if_neg (by omega), octB_left (by omega)]
      exact h
  · rw [rdP_n] at h ⊢
    cases hq : cntP (byL s) with
    | err e => rw [hq] at h; cases h
    | ok n j => rw [hq] at h; rw [cntP_app hq]; exact h
  · rw [rdP_t] at h ⊢
    cases hq : cntM 200 (byL s) with
    | err e => rw [hq] at h; cases h
    | ok n j =>
      rw [hq] at h
      rw [cntM_app hq]
      dsimp only at h ⊢
      have hl := cntM_lt hq
      rw [byL_len] at hl
      split at h
      · cases h
      · rename_i h1
        rw [if_neg (by omega), rest_app (by omega), ext_app (by rw [rest_size]; omega)]
        exact h
  · rw [rdP_f] at h ⊢
    split at h
    · cases h
    · rename_i h1
      rw [if_neg (by omega), ext_app (by omega)]
      exact h
  · rw [rdP_l] at h ⊢
    split at h
    · rename_i h1
      rw [unpL_app h1, if_pos h1]
      exact h
    · cases h
theorem kidsN_app {c : Nat} {s u : ByteArray} (hc : isL c = true) : ∀ {j : Nat} {l : List It} {m : Nat}, kidsN c s j = .ok l m → kidsN c (s ++ u) j = .ok l m
  | 0, l, m, h => h
  | j + 1, l, m, h => by
    cases hq : kidsN c s j with
    | err e => rw [show kidsN c s (j + 1) = _ from kidsN_err hq 1] at h; cases h
    | ok l2 m2 =>
      rw [kidsN_ok hq] at h
      rw [kidsN_ok (kidsN_app hc hq), rest_app (kidsN_le hq)]
      cases hr : rdP c (rest s m2) with
      | err e => rw [hr] at h; cases h
      | ok x k => rw [hr] at h; rw [rdP_app hc hr]; exact h
theorem lstP_app {c : Nat} {s u : ByteArray} {x : It} {k : Nat} (hc : isL c = true) (h : lstP c s = .ok x k) : lstP c (s ++ u) = .ok x k := by
  unfold lstP at h ⊢
  cases hq : cntM 64 (byL s) with
  | err e => rw [hq] at h; cases h
  | ok n j =>
    rw [hq] at h
    rw [cntM_app hq]
    dsimp only at h ⊢
    have hl := cntM_lt hq
    rw [byL_len] at hl
    rw [rest_app (by omega)]
    cases hk : kidsN c (rest s j) n with
    | err e => rw [hk] at h; cases h
    | ok l m => rw [hk] at h; rw [kidsN_app hc hk]; exact h
theorem rd1P_app {p : Nat × Bool} {s u : ByteArray} {x : It} {k : Nat} (hc : isL p.1 = true) (h : rd1P p s = .ok x k) : rd1P p (s ++ u) = .ok x k := by
  obtain ⟨c, m⟩ := p
  cases m with
  | true => exact lstP_app hc h
  | false => exact rdP_app hc h
theorem begN_app {L : List (Nat × Bool)} {s u : ByteArray} (hL : ∀ p ∈ L, isL p.1 = true) : ∀ {j : Nat} {l : List It} {m : Nat}, j ≤ L.length → begN L s j = .ok l m → begN L (s ++ u) j = .ok l m
  | 0, l, m, _, h => h
  | j + 1, l, m, hj, h => by
    obtain ⟨p, hp⟩ : ∃ p, L[j]? = some p := ⟨_, List.getElem?_eq_getElem (by omega)⟩
    cases hq : begN L s j with
    | err e => rw [show begN L s (j + 1) = _ from begN_err hq 1] at h; cases h
    | ok l2 m2 =>
      rw [begN_ok hq hp] at h
      rw [begN_ok (begN_app hL (by omega) hq) hp, rest_app (begN_le (by omega) hq).1]
      cases hr : rd1P p (rest s m2) with
      | err e => rw [hr] at h; cases h
      | ok x k => rw [hr] at h; rw [rd1P_app (hL p (List.mem_of_getElem? hp)) hr]; exact h
/-- What has been read is read, whatever stands behind. -/
theorem begP_app {b : List Nat} {s u : ByteArray} {l : List It} {m : Nat} (h : begP b s = .ok l m) : begP b (s ++ u) = .ok l m := by
  unfold begP at h ⊢
  cases hL : shP b with
  | none => rw [hL] at h; cases h
  | some L =>
    rw [hL] at h
    exact begN_app (shP_isL hL) (Nat.le_refl _) h
/-- No beginning of what is put is read to its end. -/
theorem apart {sh : List Nat} {l : List It} {b : List Nat} (hw : ∀ x ∈ l, WI x) (h : printS sh l = some b) {n : Nat} (hn : n < b.length) : ∃ e : Int, paA sh ((BA b).extract 0 n) = .tup [itsV [], i64 e] ∧ e ≠ 0 := by
  have h1 := beg_inv hw h emp
  have e1 : BA b ++ emp = (BA b).extract 0 n ++ rest (BA b) n := by
    apply byL_inj
    rw [byL_append, byL_append, rest_byL, extractB, List.drop_zero, List.take_append_drop]
    exact List.append_nil _
  have hz : ((BA b).extract 0 n).size = n := by rw [ByteArray.size_extract, BA_size]; omega
  rw [e1] at h1
  unfold paA
  cases hp : begP sh ((BA b).extract 0 n) with
  | err e => exact ⟨e, rfl, by have := begP_e hp; omega⟩
  | ok l2 m =>
    have := begP_app (u := rest (BA b) n) hp
    rw [this] at h1
    injection h1 with _ hm
    dsimp only
    rw [if_neg (by omega)]
    exact ⟨4, rfl, by decide⟩
theorem apart_long (s : ByteArray) (l : List It) (cut : Int) (hs : 60 < s.size) : ACalls Try.prog 5 [str s, itsV l, i64 cut] [] (Ret (bo true)) := by
  refine acalls_of_awp hT mixed Try.func5 rfl (by kernel_rfl) (by kernel_rfl) (Nat.le_of_ble_eq_true rfl) ?_
  refine callP awakeW_ok rfl rfl ?_
  refine forkD (fun g => ?_) (fun g => absurd (show (60 : Int) < (s.size : Int) by omega) g)
  refine end0 rfl rfl rfl rfl
theorem apart_far (s : ByteArray) (l : List It) (cut : Int) (hs : s.size ≤ 60) (hf : ACalls Try.prog 8 [itsV l, i64 0] [] (Ret (bo true))) : ACalls Try.prog 5 [str s, itsV l, i64 cut] [] (Ret (bo true)) := by
  refine acalls_of_awp hT mixed Try.func5 rfl (by kernel_rfl) (by kernel_rfl) (Nat.le_of_ble_eq_true rfl) ?_
  refine callP awakeW_ok rfl rfl ?_
  refine forkD (fun g => absurd (show (60 : Int) < (s.size : Int) from g) (by omega)) (fun g => ?_)
  refine callP hf rfl rfl ?_
  refine end0 rfl rfl rfl rfl
theorem apart_no (s : ByteArray) (l : List It) (cut : Int) (hs : s.size ≤ 60) (hf : ACalls Try.prog 8 [itsV l, i64 0] [] (Ret (bo false))) (hp : ACalls Try.prog 10 [str s, itsV l] [] (Ret (.tup [str emp, i64 1]))) : ACalls Try.prog 5 [str s, itsV l, i64 cut] [] (Ret (bo true)) := by
  refine acalls_of_awp hT mixed Try.func5 rfl (by kernel_rfl) (by kernel_rfl) (Nat.le_of_ble_eq_true rfl) ?_
  refine callP awakeW_ok rfl rfl ?_
  refine forkD (fun g => absurd (show (60 : Int) < (s.size : Int) from g) (by omega)) (fun g => ?_)
  refine callP hf rfl rfl ?_
  refine callP hp rfl rfl ?_
  refine end0 rfl rfl rfl rfl
theorem apart_nil (s X : ByteArray) (l : List It) (cut : Int) (hs : s.size ≤ 60) (hf : ACalls Try.prog 8 [itsV l, i64 0] [] (Ret (bo false))) (hp : ACalls Try.prog 10 [str s, itsV l] [] (Ret (.tup [str X, i64 0]))) (hX : X = emp) : ACalls Try.prog 5 [str s, itsV l, i64 cut] [] (Ret (bo true)) := by
  refine acalls_of_awp hT mixed Try.func5 rfl (by kernel_rfl) (by kernel_rfl) (Nat.le_of_ble_eq_true rfl) ?_
  refine callP awakeW_ok rfl rfl ?_
  refine forkD (fun g => absurd (show (60 : Int) < (s.size : Int) from g) (by omega)) (fun g => ?_)
  refine callP hf rfl rfl ?_
  refine callP hp rfl rfl ?_
  refine fork (fun g => ?_) (fun g => absurd (show strEq X emp = false from g) (by rw [strEq_iff.2 hX]; decide))
  refine end0 rfl rfl rfl rfl
theorem apart_yes (s X : ByteArray) (l : List It) (cut : Int) (hs : s.size ≤ 60) (hf : ACalls Try.prog 8 [itsV l, i64 0] [] (Ret (bo false))) (hp : ACalls Try.prog 10 [str s, itsV l] [] (Ret (.tup [str X, i64 0]))) (hX : 0 < X.size) (hX2 : X.size ≤ 1000000)
    (ha : ∀ n, n < X.size → ∃ e : Int, e ≠ 0 ∧ ACalls Try.prog 14 [str s, str (X.extract 0 n)] [] (Ret (.tup [itsV [], i64 e]))) : ACalls Try.prog 5 [str s, itsV l, i64 cut] [] (Ret (bo true)) := by
  refine acalls_of_awp hT mixed Try.func5 rfl (by kernel_rfl) (by kernel_rfl) (Nat.le_of_ble_eq_true rfl) ?_
  refine callP awakeW_ok rfl rfl ?_
  refine forkD (fun g => absurd (show (60 : Int) < (s.size : Int) from g) (by omega)) (fun g => ?_)
  refine callP hf rfl rfl ?_
  refine callP hp rfl rfl ?_
  refine fork (fun g => absurd (strEq_iff.1 (show strEq X emp = true from g)) (fun e => by rw [e] at hX; exact absurd hX (by decide))) (fun g => ?_)
  have hw : wrp .u64 (X.size : Int) = ((X.size : Nat) : Int) := by rw [wrpE, wu64]; omega
  have hc0 : 0 ≤ wrp .u64 cut := by rw [wrpE, wu64]; omega
  obtain ⟨n, hn, hA⟩ : ∃ n : Nat, n < X.size ∧ wrp .i64 (hd ((wrp .u64 cut).tmod (wrp .u64 (X.size : Int)))) = ((n : Nat) : Int) := by
    generalize wrp .u64 cut = c at *
    obtain ⟨m, rfl⟩ := Int.eq_ofNat_of_zero_le hc0
    refine ⟨m % X.size, Nat.mod_lt _ hX, ?_⟩
    rw [hw, hd_eq, show ((m : Nat) : Int).tmod ((X.size : Nat) : Int) = ((m % X.size : Nat) : Int) from rfl]
    have := Nat.mod_lt m hX
    rw [wrpE, wi64]
    omega
  obtain ⟨e, he, hpa⟩ := ha n hn
  refine Ob.intro (show wrp .u64 (X.size : Int) ≠ 0 by omega) ?_
  have hn2 : (wrp .i64 (hd ((wrp .u64 cut).tmod (wrp .u64 (X.size : Int))))).toNat = n := by rw [hA]; rfl
  rw [← hn2] at hpa
  refine Ob.intro (show (0 : Int) ≤ 0 ∧ 0 ≤ wrp .i64 (hd ((wrp .u64 cut).tmod (wrp .u64 (X.size : Int)))) ∧ wrp .i64 (hd ((wrp .u64 cut).tmod (wrp .u64 (X.size : Int)))) ≤ (X.size : Int) by rw [hA]; omega) ?_
  refine callP hpa rfl rfl ?_
  refine fork (fun g => ?_) (fun g => absurd (bne_eq_false_iff_eq.1 g) he)
  refine end0 rfl rfl rfl rfl
theorem wireApart_law (l0 : List AV) (w0 : Wf .str l0) (l1 : List It) (w1 : RL l1) (l2 : List AV) (w2 : Wf (.int .i64) l2) : ACalls Try.prog 5 [argA .str l0, itsV l1, argA (.int .i64) l2] [] (Ret (.sc (.bool true))) := by
  obtain ⟨s, rfl, hs⟩ := w0
  obtain ⟨cut, rfl, hc⟩ := w2
  show ACalls Try.prog 5 [str s, itsV l1, i64 cut] [] (Ret (bo true))
  by_cases h : 60 < s.size
  · exact apart_long s l1 cut h
  have h1 : s.size ≤ 60 := by omega
  have f1 := far_ok 4 0 l1 (by decide) rfl
  cases q1 : farI 4 l1 with
  | true => rw [q1] at f1; exact apart_far s l1 cut h1 f1
  | false =>
  rw [q1] at f1
  have v1 := wi_of_far 4 l1 w1 q1
  have hp := print_ok s l1 h1 v1.1 v1.2
  cases hx : printS (byL s) l1 with
  | none => rw [hx] at hp; exact apart_no s l1 cut h1 f1 hp
  | some b =>
    rw [hx] at hp
    have hbl := print_len v1.2 hx
    have hsz := BA_size b
    by_cases hb : b = []
    · exact apart_nil s (BA b) l1 cut h1 f1 hp (by rw [hb]; rfl)
    · have hb0 : 0 < b.length := Nat.pos_of_ne_zero fun e => hb (List.length_eq_zero_iff.1 e)
      refine apart_yes s (BA b) l1 cut h1 f1 hp (by omega) (by omega) fun n hn => ?_
      obtain ⟨e, he1, he2⟩ := apart v1.2 hx (n := n) (by omega)
      have ha := parse_ok s ((BA b).extract 0 n) h1 (by rw [ByteArray.size_extract]; omega)
      rw [he1] at ha
      exact ⟨e, he2, ha⟩
end Go.Proofs.Ythebddjpnkimjaa.A
