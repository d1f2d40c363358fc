/- law03: WirePrints. No condition. -/
import Derived.Test.YthebddjpnkimjaaWr
import Derived.Test.YthebddjpnkimjaaWq
import Derived.Test.YthebddjpnkimjaaOv
namespace Go.Proofs.Ythebddjpnkimjaa.A
open Go
set_option linter.unusedVariables false
set_option linter.unusedSimpArgs false
set_option maxRecDepth 100000
set_option pp.maxSteps 300

theorem parL_len : ∀ {b : List Nat} {star : Bool} {L : List (Nat × Bool)}, parL star b = some L → L.length ≤ b.length
  | [], true, L, h => by cases h
  | [], false, L, h => by cases h; exact Nat.le_refl _
  | c :: r, star, L, h => by
    have h' : (if c = 42 ∧ star = false then parL true r else if isL c = true then (parL false r).map ((c, star) :: ·) else none) = some L := by cases star <;> exact h
    split at h'
    · have := parL_len h'
      simp only [List.length_cons]
      omega
    · split at h'
      · cases hr : parL false r with
        | none => rw [hr] at h'; cases h'
        | some M =>
          rw [hr] at h'
          cases h'
          have := parL_len hr
          simp only [List.length_cons]
          omega
      · cases h'
theorem shP_len {b : List Nat} {L : List (Nat × Bool)} (h : shP b = some L) : L.length ≤ 40 := by
  unfold shP at h
  split at h
  · rename_i h40
    exact Nat.le_trans (parL_len h) h40
  · cases h
theorem catF_len {α : Type} {f : α → Option (List Nat)} {m : Nat} : ∀ {L : List α} {b : List Nat}, (∀ x ∈ L, ∀ b, f x = some b → b.length ≤ m) → catF f L = some b → b.length ≤ m * L.length
  | [], b, _, h => by cases h; exact Nat.zero_le _
  | x :: r, b, hm, h => by
    have h' : cat2 (f x) (catF f r) = some b := h
    cases h1 : f x with
    | none => rw [h1] at h'; cases h'
    | some b1 =>
      cases h2 : catF f r with
      | none => rw [h1, h2] at h'; cases h'
      | some b2 =>
        rw [h1, h2] at h'
        cases h'
        have g1 := hm x (List.mem_cons_self ..) b1 h1
        have g2 := catF_len (fun y hy => hm y (List.mem_cons_of_mem _ hy)) h2
        rw [List.length_append, List.length_cons, Nat.mul_succ]
        omega
theorem one1_lenB {p : Nat × Bool} {x : It} {b : List Nat} (hw : WI x) (h : one1 (p, x) = some b) : b.length ≤ 14000 := by
  obtain ⟨c, m⟩ := p
  cases m with
  | false =>
    have h' : oneP c x = some b := h
    have := oneP_len hw h'
    omega
  | true =>
    obtain ⟨n, s, l, k⟩ := x
    have h' : listP c (.mk n s l k) = some b := h
    rw [listP_mk] at h'
    split at h'
    · rename_i hh
      cases hk : catP c k with
      | none => rw [hk] at h'; cases h'
      | some b2 =>
        rw [hk] at h'
        cases h'
        rw [catP_F] at hk
        cases hw with
        | mk _ _ _ _ w1 w2 w3 w4 w5 w6 =>
        have g := catF_len (m := 210) (fun x hx b hb => oneP_len (w6 x hx) hb) hk
        have g2 := numN_len10 (show k.length < 18446744073709551616 by omega)
        have g3 : 210 * k.length ≤ 210 * 64 := Nat.mul_le_mul_left _ hh.2
        rw [List.length_append]
        omega
    · cases h'
theorem print_len {sh : List Nat} {l : List It} {b : List Nat} (hw : ∀ x ∈ l, WI x) (h : printS sh l = some b) : b.length ≤ 560000 := by
  unfold printS at h
  cases hL : shP sh with
  | none => rw [hL] at h; cases h
  | some L =>
    rw [hL] at h
    replace h : prtP L l = some b := h
    unfold prtP at h
    split at h
    · have h40 := shP_len hL
      have := catF_len (m := 14000) (fun x hx b hb => one1_lenB (hw x.2 (List.of_mem_zip hx).2) (show one1 (x.1, x.2) = some b from hb)) h
      have hz : (L.zip l).length ≤ 40 := by rw [List.length_zip]; omega
      have : 14000 * (L.zip l).length ≤ 14000 * 40 := Nat.mul_le_mul_left _ hz
      omega
    · cases h
theorem prints_long (s t : ByteArray) (l : List It) (hs : 60 < s.size ∨ 300 < t.size) : ACalls Try.prog 6 [str s, itsV l, str t] [] (Ret (bo true)) := by
  refine acalls_of_awp hT mixed Try.func6 rfl (by kernel_rfl) (by kernel_rfl) (Nat.le_of_ble_eq_true rfl) ?_
  refine callP awakeW_ok rfl rfl ?_
  refine forkD (fun g => ?_) (fun g => ?_)
  · refine end0 rfl rfl rfl rfl
  refine forkD (fun g2 => ?_) (fun g2 => ?_)
  · refine end0 rfl rfl rfl rfl
  exfalso
  have g1 : ¬ (s.size : Int) > 60 := g
  have g3 : ¬ (t.size : Int) > 300 := g2
  omega
theorem prints_far (s t : ByteArray) (l : List It) (hs : s.size ≤ 60) (ht : t.size ≤ 300) (hf : ACalls Try.prog 8 [itsV l, i64 0] [] (Ret (bo true))) : ACalls Try.prog 6 [str s, itsV l, str t] [] (Ret (bo true)) := by
  refine acalls_of_awp hT mixed Try.func6 rfl (by kernel_rfl) (by kernel_rfl) (Nat.le_of_ble_eq_true rfl) ?_
  refine callP awakeW_ok rfl rfl ?_
  refine forkD (fun g => absurd (show (60 : Int) < (s.size : Int) from g) (by omega)) (fun g => ?_)
  refine forkD (fun g => absurd (show (300 : Int) < (t.size : Int) from g) (by omega)) (fun g => ?_)
  refine callP hf rfl rfl ?_
  refine end0 rfl rfl rfl rfl
theorem prints_no (s t : ByteArray) (l : List It) (hs : s.size ≤ 60) (ht : t.size ≤ 300) (hf : ACalls Try.prog 8 [itsV l, i64 0] [] (Ret (bo false))) (q : Bool)
    (hp : ACalls Try.prog 10 [str s, itsV l] [] (Ret (.tup [str emp, i64 1]))) (hr : ACalls Try.prog 15 [str s, itsV l] [] (PrR none))
    (hw : ACalls Try.prog 16 [str s] [] (Ret (bo q))) (hv : ACalls Try.prog 17 [str s] [] (Ret (bo q))) : ACalls Try.prog 6 [str s, itsV l, str t] [] (Ret (bo true)) := by
  cases q <;>
  · refine acalls_of_awp hT mixed Try.func6 rfl (by kernel_rfl) (by kernel_rfl) (Nat.le_of_ble_eq_true rfl) ?_
    refine callP awakeW_ok rfl rfl ?_
    refine forkD (fun g => absurd (show (60 : Int) < (s.size : Int) from g) (by omega)) (fun g => ?_)
    refine forkD (fun g => absurd (show (300 : Int) < (t.size : Int) from g) (by omega)) (fun g => ?_)
    refine callP hf rfl rfl ?_
    refine callP hp rfl rfl ?_
    refine callS hr [] True.intro rfl ?_
    rintro E G ⟨rfl, x, rfl, hx⟩ _
    refine ⟨_, _, rfl, rfl, ?_⟩
    refine callP hw rfl rfl ?_
    refine callP hv rfl rfl ?_
    refine fork (fun g => ?_) (fun g => absurd (show strEq emp emp = false from g) (by rw [strEq_iff.2 rfl]; decide))
    exact ⟨rfl, [], bo true, ⟨⟨_, rfl, rfl⟩, True.intro, Nat.zero_le _, rfl⟩, rfl, rfl⟩
theorem prints_yes (s t X : ByteArray) (l : List It) (b : List Nat) (hX : X = BA b) (hs : s.size ≤ 60) (ht : t.size ≤ 300) (hb : X.size ≤ 560000) (hf : ACalls Try.prog 8 [itsV l, i64 0] [] (Ret (bo false)))
    (hp : ACalls Try.prog 10 [str s, itsV l] [] (Ret (.tup [str X, i64 0]))) (hr : ACalls Try.prog 15 [str s, itsV l] [] (PrR (some b)))
    (hw : ACalls Try.prog 16 [str s] [] (Ret (bo true))) (hv : ACalls Try.prog 17 [str s] [] (Ret (bo true)))
    (ha : ACalls Try.prog 14 [str s, str X] [] (Ret (.tup [itsV l, i64 0]))) (hg : ACalls Try.prog 12 [str s, str (X ++ t)] [] (Ret (.tup [itsV l, i64 (X.size : Nat), i64 0])))
    (he : ACalls Try.prog 9 [itsV l, itsV l] [] (Ret (bo true))) : ACalls Try.prog 6 [str s, itsV l, str t] [] (Ret (bo true)) := by
  refine acalls_of_awp hT mixed Try.func6 rfl (by kernel_rfl) (by kernel_rfl) (Nat.le_of_ble_eq_true rfl) ?_
  refine callP awakeW_ok rfl rfl ?_
  refine forkD (fun g => absurd (show (60 : Int) < (s.size : Int) from g) (by omega)) (fun g => ?_)
  refine forkD (fun g => absurd (show (300 : Int) < (t.size : Int) from g) (by omega)) (fun g => ?_)
  refine callP hf rfl rfl ?_
  refine callP hp rfl rfl ?_
  refine callS hr [] True.intro rfl ?_
  rintro E G ⟨rfl, x, rfl, hx⟩ _
  have hx := hx b rfl
  rw [← hX] at hx
  subst hx
  refine ⟨_, _, rfl, rfl, ?_⟩
  refine callP hw rfl rfl ?_
  refine callP hv rfl rfl ?_
  refine callP ha rfl rfl ?_
  refine Ob.intro (show x.size + t.size ≤ 9223372036854775807 by omega) ?_
  refine callP hg rfl rfl ?_
  refine fork (fun g => ?_) (fun g => absurd (show strEq x x = false from g) (by rw [strEq_iff.2 rfl]; decide))
  refine callP he rfl rfl ?_
  refine callP he rfl rfl ?_
  refine fork (fun g => ?_) (fun g => absurd rfl (beq_eq_false_iff_ne.1 g))
  exact ⟨rfl, [], bo true, ⟨⟨_, rfl, rfl⟩, True.intro, Nat.zero_le _, rfl⟩, rfl, rfl⟩
theorem wirePrints_law (l0 : List AV) (w0 : Wf .str l0) (l1 : List It) (w1 : RL l1) (l2 : List AV) (w2 : Wf .str l2) : ACalls Try.prog 6 [argA .str l0, itsV l1, argA .str l2] [] (Ret (.sc (.bool true))) := by
  obtain ⟨s, rfl, hs⟩ := w0
  obtain ⟨t, rfl, ht⟩ := w2
  show ACalls Try.prog 6 [str s, itsV l1, str t] [] (Ret (bo true))
  by_cases h : 60 < s.size ∨ 300 < t.size
  · exact prints_long s t l1 h
  have h1 : s.size ≤ 60 := by omega
  have h2 : t.size ≤ 300 := by omega
  have f1 := far_ok 4 0 l1 (by decide) rfl
  cases q1 : farI 4 l1 with
  | true => rw [q1] at f1; exact prints_far s t l1 h1 h2 f1
  | false =>
  rw [q1] at f1
  have v1 := wi_of_far 4 l1 w1 q1
  have hp := print_ok s l1 h1 v1.1 v1.2
  have hr := rprint_ok s l1 h1 v1.1 v1.2
  have hw := wright_ok s h1
  have hv := rwright_ok s h1
  cases hx : printS (byL s) l1 with
  | none =>
    rw [hx] at hp hr
    exact prints_no s t l1 h1 h2 f1 _ hp hr hw hv
  | some b =>
    rw [hx] at hp hr
    have hsh : (shP (byL s)).isSome = true := by
      unfold printS at hx
      cases hL : shP (byL s) with
      | none => rw [hL] at hx; cases hx
      | some L => rfl
    rw [hsh] at hw hv
    have hbl := print_len v1.2 hx
    have hsz := BA_size b
    have hg := begin_ok s (BA b ++ t) h1 (by rw [size_append]; omega)
    rw [beg_inv v1.2 hx t] at hg
    have ha := parse_ok s (BA b) h1 (by omega)
    have hpa : paA (byL s) (BA b) = .tup [itsV l1, i64 0] := by
      have := beg_inv v1.2 hx emp
      have e : BA b ++ emp = BA b := by
        apply byL_inj
        rw [byL_append]
        exact List.append_nil _
      rw [e] at this
      unfold paA
      rw [this]
      dsimp only
      rw [if_pos hsz.symm]
    rw [hpa] at ha
    have he := rsame_ok _ l1 l1 (Nat.le_refl _) v1 v1
    rw [decide_eq_true rfl] at he
    rw [show bgA (.ok l1 b.length) = .tup [itsV l1, i64 ((BA b).size : Nat), i64 0] by rw [hsz]; rfl] at hg
    exact prints_yes s t (BA b) l1 b rfl h1 h2 (by omega) f1 hp hr hw hv ha hg he
end Go.Proofs.Ythebddjpnkimjaa.A
