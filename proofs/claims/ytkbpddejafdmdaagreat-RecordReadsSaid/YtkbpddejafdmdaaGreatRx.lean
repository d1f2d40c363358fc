/- record, the reference: Undeed, Unrights. No condition. -/
import Derived.Test.YtkbpddejafdmdaaGreatRw
namespace Go.Proofs.YtkbpddejafdmdaaGreat.A
open Go
set_option linter.unusedVariables false
set_option linter.unusedSimpArgs false
set_option maxRecDepth 100000
set_option pp.maxSteps 400

theorem begN_head {L : List (Nat × Bool)} {s : ByteArray} {p : Nat × Bool} (hp : L[0]? = some p) : ∀ {j : Nat} {l : List It} {m : Nat}, j + 1 ≤ L.length → begN L s (j + 1) = .ok l m → ∃ x k, rd1P p (rest s 0) = .ok x k ∧ l.head? = some x
  | 0, l, m, hj, h => by
    rw [begN_ok (l := []) (m := 0) rfl hp] at h
    cases hr : rd1P p (rest s 0) with
    | err e => rw [hr] at h; cases h
    | ok x k => rw [hr] at h; cases h; exact ⟨x, k, rfl, rfl⟩
  | j + 1, l, m, hj, h => by
    obtain ⟨p', hp'⟩ : ∃ p', L[j + 1]? = some p' := ⟨_, List.getElem?_eq_getElem (by omega)⟩
    cases hq : begN L s (j + 1) with
    | err e => rw [show begN L s (j + 1 + 1) = _ from begN_err hq 1] at h; cases h
    | ok l2 m2 =>
      rw [begN_ok hq hp'] at h
      obtain ⟨x, k, h1, h2⟩ := begN_head hp (by omega) hq
      cases hr : rd1P p' (rest s m2) with
      | err e => rw [hr] at h; cases h
      | ok y k2 =>
        rw [hr] at h
        cases h
        refine ⟨x, k, h1, ?_⟩
        cases l2 with
        | nil => cases h2
        | cons z l2 => exact h2
theorem beg_first {sh : List Nat} {L : List (Nat × Bool)} (hL : shP sh = some ((98, false) :: L)) {s : ByteArray} {a : Nat} {s1 : ByteArray} {l1 : List Nat} {k1 r : List It} {m : Nat} (h : begP sh s = .ok (.mk a s1 l1 k1 :: r) m) : a = octB s 0 ∧ s.size ≠ 0 := by
  unfold begP at h
  rw [hL] at h
  obtain ⟨x, k, h1, h2⟩ := begN_head (p := (98, false)) rfl (j := L.length) (Nat.le_refl _) h
  cases h2
  rw [rest_zero] at h1
  replace h1 : rdP 98 s = .ok (.mk a s1 l1 k1) k := h1
  rw [rdP_b] at h1
  split at h1
  · cases h1
  · rename_i hz
    cases h1
    exact ⟨rfl, hz⟩
def rdA17 (o : Option Dd2) : AV := match o with
  | some d => .tup [d.v.a, bo true]
  | none => .tup [(DdV.mk 0 0 0 0 false).a, bo false]
/-- The same, as the reference asks. -/
def undR (s : ByteArray) : Option Dd2 :=
  match begP [98, 110, 110, 110, 98] s with
    | .ok [.mk a _ _ _, .mk b _ _ _, .mk c _ _ _, .mk d _ _ _, .mk e _ _ _] m => if a = 3 ∧ b ≤ 7 ∧ c ≤ 7 ∧ 1 ≤ d ∧ d ≤ 16 ∧ e ≤ 1 ∧ m = s.size then some ⟨false, b, c, d, decide (e = 1)⟩ else none
    | _ => none
theorem undP_R (s : ByteArray) (h : octB s 0 ≠ 4) : undP s = undR s := by
  unfold undP undR
  by_cases hz : s.size = 0
  · rw [if_pos hz]
    cases hp : begP [98, 110, 110, 110, 98] s with
    | err e => rfl
    | ok l m =>
      have hl := begP_length sh_g hp
      match l, hl with
      | [.mk a s1 l1 k1, .mk b s2 l2 k2, .mk c s3 l3 k3, .mk d s4 l4 k4, .mk e s5 l5 k5], _ => exact absurd hz (beg_first sh_g hp).2
  · rw [if_neg hz, if_neg h]
    rfl
theorem undR_4 (s : ByteArray) (h : octB s 0 = 4) : undR s = none := by
  unfold undR
  cases hp : begP [98, 110, 110, 110, 98] s with
  | err e => rfl
  | ok l m =>
    have hl := begP_length sh_g hp
    match l, hl with
    | [.mk a s1 l1 k1, .mk b s2 l2 k2, .mk c s3 l3 k3, .mk d s4 l4 k4, .mk e s5 l5 k5], _ =>
      have := (beg_first sh_g hp).1
      exact if_neg (fun hh => by omega)
theorem undP_4 (s : ByteArray) (h : octB s 0 = 4) : undP s = match begP [98, 110] s with
    | .ok [.mk a _ _ _, .mk b _ _ _] m => if m = s.size ∧ b ≤ 7 then some ⟨true, b, 0, 0, false⟩ else none
    | _ => none := by
  unfold undP
  by_cases hz : s.size = 0
  · rw [if_pos hz]
    cases hp : begP [98, 110] s with
    | err e => rfl
    | ok l m =>
      have hl := begP_length sh_bn hp
      match l, hl with
      | [.mk a s1 l1 k1, .mk b s2 l2 k2], _ => exact absurd hz (beg_first sh_bn hp).2
  · rw [if_neg hz, if_pos h, hd_bn]
    cases hp : begP [98, 110] s with
    | err e => rfl
    | ok l m =>
      have hl := begP_length sh_bn hp
      match l, hl with
      | [.mk a s1 l1 k1, .mk b s2 l2 k2], _ =>
        have := (beg_first sh_bn hp).1
        dsimp only
        by_cases hb : b ≤ 1073741824
        · rw [if_pos ⟨by omega, hb⟩]
        · rw [if_neg (fun hh => hb hh.2), if_neg (fun hh => by omega)]
theorem rund_nil (s : ByteArray) (hbn : ACalls Tryz.prog 27 [str ⟨#[98, 110]⟩, str s] [] (Ret (.tup [nilS, bo false]))) (hs : s.size ≤ 1000000) : ACalls Tryz.prog 11 [str s] [] (Ret (rdA17 (undR s))) := by
  have hw := whole_ok ⟨#[98, 110, 110, 110, 98]⟩ s (by decide) hs
  rw [show byL ⟨#[98, 110, 110, 110, 98]⟩ = [98, 110, 110, 110, 98] from rfl] at hw
  unfold whA at hw
  unfold undR
  cases hp : begP [98, 110, 110, 110, 98] s with
  | err e =>
    rw [hp] at hw
    refine acalls_of_awp hT mixed Tryz.func11 rfl (by kernel_rfl) (by kernel_rfl) (Nat.le_of_ble_eq_true rfl) ?_
    refine callP hbn rfl rfl ?_
    refine callP hw rfl rfl ?_
    refine end0 rfl rfl rfl rfl
  | ok l m =>
    rw [hp] at hw
    have hl := begP_length sh_g hp
    match l, hl with
    | [.mk a s1 l1 k1, .mk b s2 l2 k2, .mk c s3 l3 k3, .mk d s4 l4 k4, .mk e s5 l5 k5], _ =>
      dsimp only at hw ⊢
      by_cases hms : m = s.size
      · rw [if_pos hms] at hw
        obtain ⟨O, hO⟩ : ∃ O, O = (if a = 3 ∧ b ≤ 7 ∧ c ≤ 7 ∧ 1 ≤ d ∧ d ≤ 16 ∧ e ≤ 1 ∧ m = s.size then some (Dd2.mk false b c d (decide (e = 1))) else none) := ⟨_, rfl⟩
        rw [← hO]
        have hno : ¬ (a = 3 ∧ b ≤ 7 ∧ c ≤ 7 ∧ 1 ≤ d ∧ d ≤ 16 ∧ e ≤ 1 ∧ m = s.size) → O = none := fun hh => by rw [hO, if_neg hh]
        have h0 : (0 : Int) ≤ 0 ∧ (0 : Int) < ((5 : Nat) : Int) := by omega
        have h1 : (0 : Int) ≤ 1 ∧ (1 : Int) < ((5 : Nat) : Int) := by omega
        have h2 : (0 : Int) ≤ 2 ∧ (2 : Int) < ((5 : Nat) : Int) := by omega
        have h3 : (0 : Int) ≤ 3 ∧ (3 : Int) < ((5 : Nat) : Int) := by omega
        have h4 : (0 : Int) ≤ 4 ∧ (4 : Int) < ((5 : Nat) : Int) := by omega
        refine acalls_of_awp hT mixed Tryz.func11 rfl (by kernel_rfl) (by kernel_rfl) (Nat.le_of_ble_eq_true rfl) ?_
        refine callP hbn rfl rfl ?_
        refine callP hw rfl rfl ?_
        repeat first | refine same ?_ | refine Ob.intro h0 ?_ | refine Ob.intro h1 ?_ | refine Ob.intro h2 ?_ | refine Ob.intro h3 ?_ | refine Ob.intro h4 ?_
        refine fork (fun g => ?_) (fun ga => ?_)
        · rw [hno (fun hh => absurd (show (a : Int) = 3 by omega) (bne_iff_ne.1 g))]
          refine end0 rfl rfl rfl rfl
        have ga' : (a : Int) = 3 := bne_eq_false_iff_eq.1 ga
        repeat first | refine same ?_ | refine Ob.intro h0 ?_ | refine Ob.intro h1 ?_ | refine Ob.intro h2 ?_ | refine Ob.intro h3 ?_ | refine Ob.intro h4 ?_
        refine forkD (fun g => ?_) (fun g => ?_)
        · rw [hno (fun hh => by have : (b : Int) > 7 := g; omega)]
          refine end0 rfl rfl rfl rfl
        have gb : ¬ (b : Int) > 7 := g
        clear g
        repeat first | refine same ?_ | refine Ob.intro h0 ?_ | refine Ob.intro h1 ?_ | refine Ob.intro h2 ?_ | refine Ob.intro h3 ?_ | refine Ob.intro h4 ?_
        refine forkD (fun g => ?_) (fun g => ?_)
        · rw [hno (fun hh => by have : (c : Int) > 7 := g; omega)]
          refine end0 rfl rfl rfl rfl
        have gc : ¬ (c : Int) > 7 := g
        clear g
        repeat first | refine same ?_ | refine Ob.intro h0 ?_ | refine Ob.intro h1 ?_ | refine Ob.intro h2 ?_ | refine Ob.intro h3 ?_ | refine Ob.intro h4 ?_
        refine forkD (fun g => ?_) (fun g => ?_)
        · rw [hno (fun hh => by have : (d : Int) < 1 := g; omega)]
          refine end0 rfl rfl rfl rfl
        have gd : ¬ (d : Int) < 1 := g
        clear g
        repeat first | refine same ?_ | refine Ob.intro h0 ?_ | refine Ob.intro h1 ?_ | refine Ob.intro h2 ?_ | refine Ob.intro h3 ?_ | refine Ob.intro h4 ?_
        refine forkD (fun g => ?_) (fun g => ?_)
        · rw [hno (fun hh => by have : (d : Int) > 16 := g; omega)]
          refine end0 rfl rfl rfl rfl
        have gd2 : ¬ (d : Int) > 16 := g
        clear g
        repeat first | refine same ?_ | refine Ob.intro h0 ?_ | refine Ob.intro h1 ?_ | refine Ob.intro h2 ?_ | refine Ob.intro h3 ?_ | refine Ob.intro h4 ?_
        refine forkD (fun g => ?_) (fun g => ?_)
        · rw [hno (fun hh => by have : (e : Int) > 1 := g; omega)]
          refine end0 rfl rfl rfl rfl
        have ge : ¬ (e : Int) > 1 := g
        clear g
        rw [if_pos ⟨by omega, by omega, by omega, by omega, by omega, by omega, hms⟩] at hO
        have hcb : wrp .i64 ((b : Nat) : Int) = ((b : Nat) : Int) := by rw [wrpE, wi64]; omega
        have hcc : wrp .i64 ((c : Nat) : Int) = ((c : Nat) : Int) := by rw [wrpE, wi64]; omega
        rw [hO]
        refine ⟨[0, 0, 0, 0, 0, 0, 0, 0, 0, 0, 0, 0, 0, 0, 0, 0, 0, 0, 0, 0, 1, 1], [[], [0], [0, 1], [0, 1, 2], [0, 1, 2, 3], [], [5], [5, 6], [5, 6, 7], [5, 6, 7, 8], [], [10], [10, 11], [10, 11, 12], [], [14], [14, 15], [14, 15, 16], [14, 15, 16, 17], [0, 1, 2, 3, 4, 5, 6, 7, 8, 9, 10, 11, 12, 13, 14, 15, 16, 17, 18], [0, 1, 2, 3, 4, 5, 6, 7, 8, 9, 10, 11, 12, 13, 14, 15, 16, 17, 18, 19], [0, 1, 2, 3, 4, 5, 6, 7, 8, 9, 10, 11, 12, 13, 14, 15, 16, 17, 18, 19, 20]], [0, 0, 0, 0, 0, 0, 0, 0, 0, 0, 0, 0, 0, 0, 0, 0, 0, 0, 0, 0, 0, 0], [20], [[5], [84], [85], [86], [87], [5], [89], [90], [91], [92], [5], [94], [95], [96], [5], [98], [99], [100], [101], [88, 93, 97, 102], [2, 103], []], Ob.intro (by kernel_rfl) ?_⟩
        repeat first | refine same ?_ | refine Ob.intro h0 ?_ | refine Ob.intro h1 ?_ | refine Ob.intro h2 ?_ | refine Ob.intro h3 ?_ | refine Ob.intro h4 ?_
        refine fork (fun g5 => ?_) (fun g5 => ?_)
        · rw [decide_eq_true (show e = 1 by have : (e : Int) = 1 := beq_iff_eq.1 g5; omega)]
          repeat first | refine same ?_ | refine Ob.intro h0 ?_ | refine Ob.intro h1 ?_ | refine Ob.intro h2 ?_ | refine Ob.intro h3 ?_ | refine Ob.intro h4 ?_
          refine end0 rfl rfl rfl (show AV.tup [.agg [i64 2, i64 (wrp .i64 ((b : Nat) : Int)), i64 (wrp .i64 ((c : Nat) : Int)), u64n d, bo true], bo true] = _ by rw [hcb, hcc]; rfl)
        · rw [decide_eq_false (show ¬ e = 1 by have : (e : Int) ≠ 1 := beq_eq_false_iff_ne.1 g5; omega)]
          repeat first | refine same ?_ | refine Ob.intro h0 ?_ | refine Ob.intro h1 ?_ | refine Ob.intro h2 ?_ | refine Ob.intro h3 ?_ | refine Ob.intro h4 ?_
          refine end0 rfl rfl rfl (show AV.tup [.agg [i64 2, i64 (wrp .i64 ((b : Nat) : Int)), i64 (wrp .i64 ((c : Nat) : Int)), u64n d, bo false], bo true] = _ by rw [hcb, hcc]; rfl)
      · rw [if_neg hms] at hw
        rw [if_neg (fun hh => hms hh.2.2.2.2.2.2)]
        refine acalls_of_awp hT mixed Tryz.func11 rfl (by kernel_rfl) (by kernel_rfl) (Nat.le_of_ble_eq_true rfl) ?_
        refine callP hbn rfl rfl ?_
        refine callP hw rfl rfl ?_
        refine end0 rfl rfl rfl rfl
theorem rund_no (s : ByteArray) (x : Nat) (sx : ByteArray) (lx : List Nat) (kx : List It) (y : Nat) (sy : ByteArray) (ly : List Nat) (ky : List It) (hx : x ≠ 4) (hbn : ACalls Tryz.prog 27 [str ⟨#[98, 110]⟩, str s] [] (Ret (.tup [itsV [.mk x sx lx kx, .mk y sy ly ky], bo true]))) (hs : s.size ≤ 1000000) : ACalls Tryz.prog 11 [str s] [] (Ret (rdA17 (undR s))) := by
  have hw := whole_ok ⟨#[98, 110, 110, 110, 98]⟩ s (by decide) hs
  rw [show byL ⟨#[98, 110, 110, 110, 98]⟩ = [98, 110, 110, 110, 98] from rfl] at hw
  unfold whA at hw
  unfold undR
  cases hp : begP [98, 110, 110, 110, 98] s with
  | err e =>
    rw [hp] at hw
    refine acalls_of_awp hT mixed Tryz.func11 rfl (by kernel_rfl) (by kernel_rfl) (Nat.le_of_ble_eq_true rfl) ?_
    refine callP hbn rfl rfl ?_
    refine Ob.intro (show (0 : Int) ≤ 0 ∧ (0 : Int) < ((2 : Nat) : Int) by omega) ?_
    refine fork (fun g => absurd (show x = 4 by have : (x : Int) = 4 := beq_iff_eq.1 g; omega) hx) (fun _ => ?_)
    refine callP hw rfl rfl ?_
    refine end0 rfl rfl rfl rfl
  | ok l m =>
    rw [hp] at hw
    have hl := begP_length sh_g hp
    match l, hl with
    | [.mk a s1 l1 k1, .mk b s2 l2 k2, .mk c s3 l3 k3, .mk d s4 l4 k4, .mk e s5 l5 k5], _ =>
      dsimp only at hw ⊢
      by_cases hms : m = s.size
      · rw [if_pos hms] at hw
        obtain ⟨O, hO⟩ : ∃ O, O = (if a = 3 ∧ b ≤ 7 ∧ c ≤ 7 ∧ 1 ≤ d ∧ d ≤ 16 ∧ e ≤ 1 ∧ m = s.size then some (Dd2.mk false b c d (decide (e = 1))) else none) := ⟨_, rfl⟩
        rw [← hO]
        have hno : ¬ (a = 3 ∧ b ≤ 7 ∧ c ≤ 7 ∧ 1 ≤ d ∧ d ≤ 16 ∧ e ≤ 1 ∧ m = s.size) → O = none := fun hh => by rw [hO, if_neg hh]
        have h0 : (0 : Int) ≤ 0 ∧ (0 : Int) < ((5 : Nat) : Int) := by omega
        have h1 : (0 : Int) ≤ 1 ∧ (1 : Int) < ((5 : Nat) : Int) := by omega
        have h2 : (0 : Int) ≤ 2 ∧ (2 : Int) < ((5 : Nat) : Int) := by omega
        have h3 : (0 : Int) ≤ 3 ∧ (3 : Int) < ((5 : Nat) : Int) := by omega
        have h4 : (0 : Int) ≤ 4 ∧ (4 : Int) < ((5 : Nat) : Int) := by omega
        refine acalls_of_awp hT mixed Tryz.func11 rfl (by kernel_rfl) (by kernel_rfl) (Nat.le_of_ble_eq_true rfl) ?_
        refine callP hbn rfl rfl ?_
        refine Ob.intro (show (0 : Int) ≤ 0 ∧ (0 : Int) < ((2 : Nat) : Int) by omega) ?_
        refine fork (fun g => absurd (show x = 4 by have : (x : Int) = 4 := beq_iff_eq.1 g; omega) hx) (fun _ => ?_)
        refine callP hw rfl rfl ?_
        repeat first | refine same ?_ | refine Ob.intro h0 ?_ | refine Ob.intro h1 ?_ | refine Ob.intro h2 ?_ | refine Ob.intro h3 ?_ | refine Ob.intro h4 ?_
        refine fork (fun g => ?_) (fun ga => ?_)
        · rw [hno (fun hh => absurd (show (a : Int) = 3 by omega) (bne_iff_ne.1 g))]
          refine end0 rfl rfl rfl rfl
        have ga' : (a : Int) = 3 := bne_eq_false_iff_eq.1 ga
        repeat first | refine same ?_ | refine Ob.intro h0 ?_ | refine Ob.intro h1 ?_ | refine Ob.intro h2 ?_ | refine Ob.intro h3 ?_ | refine Ob.intro h4 ?_
        refine forkD (fun g => ?_) (fun g => ?_)
        · rw [hno (fun hh => by have : (b : Int) > 7 := g; omega)]
          refine end0 rfl rfl rfl rfl
        have gb : ¬ (b : Int) > 7 := g
        clear g
        repeat first | refine same ?_ | refine Ob.intro h0 ?_ | refine Ob.intro h1 ?_ | refine Ob.intro h2 ?_ | refine Ob.intro h3 ?_ | refine Ob.intro h4 ?_
        refine forkD (fun g => ?_) (fun g => ?_)
        · rw [hno (fun hh => by have : (c : Int) > 7 := g; omega)]
          refine end0 rfl rfl rfl rfl
        have gc : ¬ (c : Int) > 7 := g
        clear g
        repeat first | refine same ?_ | refine Ob.intro h0 ?_ | refine Ob.intro h1 ?_ | refine Ob.intro h2 ?_ | refine Ob.intro h3 ?_ | refine Ob.intro h4 ?_
        refine forkD (fun g => ?_) (fun g => ?_)
        · rw [hno (fun hh => by have : (d : Int) < 1 := g; omega)]
          refine end0 rfl rfl rfl rfl
        have gd : ¬ (d : Int) < 1 := g
        clear g
        repeat first | refine same ?_ | refine Ob.intro h0 ?_ | refine Ob.intro h1 ?_ | refine Ob.intro h2 ?_ | refine Ob.intro h3 ?_ | refine Ob.intro h4 ?_
        refine forkD (fun g => ?_) (fun g => ?_)
        · rw [hno (fun hh => by have : (d : Int) > 16 := g; omega)]
          refine end0 rfl rfl rfl rfl
        have gd2 : ¬ (d : Int) > 16 := g
        clear g
        repeat first | refine same ?_ | refine Ob.intro h0 ?_ | refine Ob.intro h1 ?_ | refine Ob.intro h2 ?_ | refine Ob.intro h3 ?_ | refine Ob.intro h4 ?_
        refine forkD (fun g => ?_) (fun g => ?_)
        · rw [hno (fun hh => by have : (e : Int) > 1 := g; omega)]
          refine end0 rfl rfl rfl rfl
        have ge : ¬ (e : Int) > 1 := g
        clear g
        rw [if_pos ⟨by omega, by omega, by omega, by omega, by omega, by omega, hms⟩] at hO
        have hcb : wrp .i64 ((b : Nat) : Int) = ((b : Nat) : Int) := by rw [wrpE, wi64]; omega
        have hcc : wrp .i64 ((c : Nat) : Int) = ((c : Nat) : Int) := by rw [wrpE, wi64]; omega
        rw [hO]
        refine ⟨[0, 0, 0, 0, 0, 0, 0, 0, 0, 0, 0, 0, 0, 0, 0, 0, 0, 0, 0, 0, 1, 1], [[], [0], [0, 1], [0, 1, 2], [0, 1, 2, 3], [], [5], [5, 6], [5, 6, 7], [5, 6, 7, 8], [], [10], [10, 11], [10, 11, 12], [], [14], [14, 15], [14, 15, 16], [14, 15, 16, 17], [0, 1, 2, 3, 4, 5, 6, 7, 8, 9, 10, 11, 12, 13, 14, 15, 16, 17, 18], [0, 1, 2, 3, 4, 5, 6, 7, 8, 9, 10, 11, 12, 13, 14, 15, 16, 17, 18, 19], [0, 1, 2, 3, 4, 5, 6, 7, 8, 9, 10, 11, 12, 13, 14, 15, 16, 17, 18, 19, 20]], [0, 0, 0, 0, 0, 0, 0, 0, 0, 0, 0, 0, 0, 0, 0, 0, 0, 0, 0, 0, 0, 0], [20], [[5], [84], [85], [86], [87], [5], [89], [90], [91], [92], [5], [94], [95], [96], [5], [98], [99], [100], [101], [88, 93, 97, 102], [2, 103], []], Ob.intro (by kernel_rfl) ?_⟩
        repeat first | refine same ?_ | refine Ob.intro h0 ?_ | refine Ob.intro h1 ?_ | refine Ob.intro h2 ?_ | refine Ob.intro h3 ?_ | refine Ob.intro h4 ?_
        refine fork (fun g5 => ?_) (fun g5 => ?_)
        · rw [decide_eq_true (show e = 1 by have : (e : Int) = 1 := beq_iff_eq.1 g5; omega)]
          repeat first | refine same ?_ | refine Ob.intro h0 ?_ | refine Ob.intro h1 ?_ | refine Ob.intro h2 ?_ | refine Ob.intro h3 ?_ | refine Ob.intro h4 ?_
          refine end0 rfl rfl rfl (show AV.tup [.agg [i64 2, i64 (wrp .i64 ((b : Nat) : Int)), i64 (wrp .i64 ((c : Nat) : Int)), u64n d, bo true], bo true] = _ by rw [hcb, hcc]; rfl)
        · rw [decide_eq_false (show ¬ e = 1 by have : (e : Int) ≠ 1 := beq_eq_false_iff_ne.1 g5; omega)]
          repeat first | refine same ?_ | refine Ob.intro h0 ?_ | refine Ob.intro h1 ?_ | refine Ob.intro h2 ?_ | refine Ob.intro h3 ?_ | refine Ob.intro h4 ?_
          refine end0 rfl rfl rfl (show AV.tup [.agg [i64 2, i64 (wrp .i64 ((b : Nat) : Int)), i64 (wrp .i64 ((c : Nat) : Int)), u64n d, bo false], bo true] = _ by rw [hcb, hcc]; rfl)
      · rw [if_neg hms] at hw
        rw [if_neg (fun hh => hms hh.2.2.2.2.2.2)]
        refine acalls_of_awp hT mixed Tryz.func11 rfl (by kernel_rfl) (by kernel_rfl) (Nat.le_of_ble_eq_true rfl) ?_
        refine callP hbn rfl rfl ?_
        refine Ob.intro (show (0 : Int) ≤ 0 ∧ (0 : Int) < ((2 : Nat) : Int) by omega) ?_
        refine fork (fun g => absurd (show x = 4 by have : (x : Int) = 4 := beq_iff_eq.1 g; omega) hx) (fun _ => ?_)
        refine callP hw rfl rfl ?_
        refine end0 rfl rfl rfl rfl
theorem rund_big (s : ByteArray) (x : Nat) (sx : ByteArray) (lx : List Nat) (kx : List It) (y : Nat) (sy : ByteArray) (ly : List Nat) (ky : List It) (hx : x = 4) (hy : ¬ y ≤ 7) (hbn : ACalls Tryz.prog 27 [str ⟨#[98, 110]⟩, str s] [] (Ret (.tup [itsV [.mk x sx lx kx, .mk y sy ly ky], bo true]))) (hs : s.size ≤ 1000000) : ACalls Tryz.prog 11 [str s] [] (Ret (rdA17 (undR s))) := by
  have hw := whole_ok ⟨#[98, 110, 110, 110, 98]⟩ s (by decide) hs
  rw [show byL ⟨#[98, 110, 110, 110, 98]⟩ = [98, 110, 110, 110, 98] from rfl] at hw
  unfold whA at hw
  unfold undR
  cases hp : begP [98, 110, 110, 110, 98] s with
  | err e =>
    rw [hp] at hw
    refine acalls_of_awp hT mixed Tryz.func11 rfl (by kernel_rfl) (by kernel_rfl) (Nat.le_of_ble_eq_true rfl) ?_
    refine callP hbn rfl rfl ?_
    refine Ob.intro (show (0 : Int) ≤ 0 ∧ (0 : Int) < ((2 : Nat) : Int) by omega) ?_
    refine fork (fun _ => ?_) (fun g => absurd (show (x : Int) = 4 by omega) (beq_eq_false_iff_ne.1 g))
    refine Ob.intro (show (0 : Int) ≤ 1 ∧ (1 : Int) < ((2 : Nat) : Int) by omega) ?_
    refine forkD (fun g => absurd (show y ≤ 7 by have : (y : Int) ≤ 7 := g; omega) hy) (fun _ => ?_)
    refine callP hw rfl rfl ?_
    refine end0 rfl rfl rfl rfl
  | ok l m =>
    rw [hp] at hw
    have hl := begP_length sh_g hp
    match l, hl with
    | [.mk a s1 l1 k1, .mk b s2 l2 k2, .mk c s3 l3 k3, .mk d s4 l4 k4, .mk e s5 l5 k5], _ =>
      dsimp only at hw ⊢
      by_cases hms : m = s.size
      · rw [if_pos hms] at hw
        obtain ⟨O, hO⟩ : ∃ O, O = (if a = 3 ∧ b ≤ 7 ∧ c ≤ 7 ∧ 1 ≤ d ∧ d ≤ 16 ∧ e ≤ 1 ∧ m = s.size then some (Dd2.mk false b c d (decide (e = 1))) else none) := ⟨_, rfl⟩
        rw [← hO]
        have hno : ¬ (a = 3 ∧ b ≤ 7 ∧ c ≤ 7 ∧ 1 ≤ d ∧ d ≤ 16 ∧ e ≤ 1 ∧ m = s.size) → O = none := fun hh => by rw [hO, if_neg hh]
        have h0 : (0 : Int) ≤ 0 ∧ (0 : Int) < ((5 : Nat) : Int) := by omega
        have h1 : (0 : Int) ≤ 1 ∧ (1 : Int) < ((5 : Nat) : Int) := by omega
        have h2 : (0 : Int) ≤ 2 ∧ (2 : Int) < ((5 : Nat) : Int) := by omega
        have h3 : (0 : Int) ≤ 3 ∧ (3 : Int) < ((5 : Nat) : Int) := by omega
        have h4 : (0 : Int) ≤ 4 ∧ (4 : Int) < ((5 : Nat) : Int) := by omega
        refine acalls_of_awp hT mixed Tryz.func11 rfl (by kernel_rfl) (by kernel_rfl) (Nat.le_of_ble_eq_true rfl) ?_
        refine callP hbn rfl rfl ?_
        refine Ob.intro (show (0 : Int) ≤ 0 ∧ (0 : Int) < ((2 : Nat) : Int) by omega) ?_
        refine fork (fun _ => ?_) (fun g => absurd (show (x : Int) = 4 by omega) (beq_eq_false_iff_ne.1 g))
        refine Ob.intro (show (0 : Int) ≤ 1 ∧ (1 : Int) < ((2 : Nat) : Int) by omega) ?_
        refine forkD (fun g => absurd (show y ≤ 7 by have : (y : Int) ≤ 7 := g; omega) hy) (fun _ => ?_)
        refine callP hw rfl rfl ?_
        repeat first | refine same ?_ | refine Ob.intro h0 ?_ | refine Ob.intro h1 ?_ | refine Ob.intro h2 ?_ | refine Ob.intro h3 ?_ | refine Ob.intro h4 ?_
        refine fork (fun g => ?_) (fun ga => ?_)
        · rw [hno (fun hh => absurd (show (a : Int) = 3 by omega) (bne_iff_ne.1 g))]
          refine end0 rfl rfl rfl rfl
        have ga' : (a : Int) = 3 := bne_eq_false_iff_eq.1 ga
        repeat first | refine same ?_ | refine Ob.intro h0 ?_ | refine Ob.intro h1 ?_ | refine Ob.intro h2 ?_ | refine Ob.intro h3 ?_ | refine Ob.intro h4 ?_
        refine forkD (fun g => ?_) (fun g => ?_)
        · rw [hno (fun hh => by have : (b : Int) > 7 := g; omega)]
          refine end0 rfl rfl rfl rfl
        have gb : ¬ (b : Int) > 7 := g
        clear g
        repeat first | refine same ?_ | refine Ob.intro h0 ?_ | refine Ob.intro h1 ?_ | refine Ob.intro h2 ?_ | refine Ob.intro h3 ?_ | refine Ob.intro h4 ?_
        refine forkD (fun g => ?_) (fun g => ?_)
        · rw [hno (fun hh => by have : (c : Int) > 7 := g; omega)]
          refine end0 rfl rfl rfl rfl
        have gc : ¬ (c : Int) > 7 := g
        clear g
        repeat first | refine same ?_ | refine Ob.intro h0 ?_ | refine Ob.intro h1 ?_ | refine Ob.intro h2 ?_ | refine Ob.intro h3 ?_ | refine Ob.intro h4 ?_
        refine forkD (fun g => ?_) (fun g => ?_)
        · rw [hno (fun hh => by have : (d : Int) < 1 := g; omega)]
          refine end0 rfl rfl rfl rfl
        have gd : ¬ (d : Int) < 1 := g
        clear g
        repeat first | refine same ?_ | refine Ob.intro h0 ?_ | refine Ob.intro h1 ?_ | refine Ob.intro h2 ?_ | refine Ob.intro h3 ?_ | refine Ob.intro h4 ?_
        refine forkD (fun g => ?_) (fun g => ?_)
        · rw [hno (fun hh => by have : (d : Int) > 16 := g; omega)]
          refine end0 rfl rfl rfl rfl
        have gd2 : ¬ (d : Int) > 16 := g
        clear g
        repeat first | refine same ?_ | refine Ob.intro h0 ?_ | refine Ob.intro h1 ?_ | refine Ob.intro h2 ?_ | refine Ob.intro h3 ?_ | refine Ob.intro h4 ?_
        refine forkD (fun g => ?_) (fun g => ?_)
        · rw [hno (fun hh => by have : (e : Int) > 1 := g; omega)]
          refine end0 rfl rfl rfl rfl
        have ge : ¬ (e : Int) > 1 := g
        clear g
        rw [if_pos ⟨by omega, by omega, by omega, by omega, by omega, by omega, hms⟩] at hO
        have hcb : wrp .i64 ((b : Nat) : Int) = ((b : Nat) : Int) := by rw [wrpE, wi64]; omega
        have hcc : wrp .i64 ((c : Nat) : Int) = ((c : Nat) : Int) := by rw [wrpE, wi64]; omega
        rw [hO]
        refine ⟨[0, 0, 0, 0, 0, 0, 0, 0, 0, 0, 0, 0, 0, 0, 0, 0, 0, 0, 0, 0, 1, 1], [[], [0], [0, 1], [0, 1, 2], [0, 1, 2, 3], [], [5], [5, 6], [5, 6, 7], [5, 6, 7, 8], [], [10], [10, 11], [10, 11, 12], [], [14], [14, 15], [14, 15, 16], [14, 15, 16, 17], [0, 1, 2, 3, 4, 5, 6, 7, 8, 9, 10, 11, 12, 13, 14, 15, 16, 17, 18], [0, 1, 2, 3, 4, 5, 6, 7, 8, 9, 10, 11, 12, 13, 14, 15, 16, 17, 18, 19], [0, 1, 2, 3, 4, 5, 6, 7, 8, 9, 10, 11, 12, 13, 14, 15, 16, 17, 18, 19, 20]], [0, 0, 0, 0, 0, 0, 0, 0, 0, 0, 0, 0, 0, 0, 0, 0, 0, 0, 0, 0, 0, 0], [20], [[5], [84], [85], [86], [87], [5], [89], [90], [91], [92], [5], [94], [95], [96], [5], [98], [99], [100], [101], [88, 93, 97, 102], [2, 103], []], Ob.intro (by kernel_rfl) ?_⟩
        repeat first | refine same ?_ | refine Ob.intro h0 ?_ | refine Ob.intro h1 ?_ | refine Ob.intro h2 ?_ | refine Ob.intro h3 ?_ | refine Ob.intro h4 ?_
        refine fork (fun g5 => ?_) (fun g5 => ?_)
        · rw [decide_eq_true (show e = 1 by have : (e : Int) = 1 := beq_iff_eq.1 g5; omega)]
          repeat first | refine same ?_ | refine Ob.intro h0 ?_ | refine Ob.intro h1 ?_ | refine Ob.intro h2 ?_ | refine Ob.intro h3 ?_ | refine Ob.intro h4 ?_
          refine end0 rfl rfl rfl (show AV.tup [.agg [i64 2, i64 (wrp .i64 ((b : Nat) : Int)), i64 (wrp .i64 ((c : Nat) : Int)), u64n d, bo true], bo true] = _ by rw [hcb, hcc]; rfl)
        · rw [decide_eq_false (show ¬ e = 1 by have : (e : Int) ≠ 1 := beq_eq_false_iff_ne.1 g5; omega)]
          repeat first | refine same ?_ | refine Ob.intro h0 ?_ | refine Ob.intro h1 ?_ | refine Ob.intro h2 ?_ | refine Ob.intro h3 ?_ | refine Ob.intro h4 ?_
          refine end0 rfl rfl rfl (show AV.tup [.agg [i64 2, i64 (wrp .i64 ((b : Nat) : Int)), i64 (wrp .i64 ((c : Nat) : Int)), u64n d, bo false], bo true] = _ by rw [hcb, hcc]; rfl)
      · rw [if_neg hms] at hw
        rw [if_neg (fun hh => hms hh.2.2.2.2.2.2)]
        refine acalls_of_awp hT mixed Tryz.func11 rfl (by kernel_rfl) (by kernel_rfl) (Nat.le_of_ble_eq_true rfl) ?_
        refine callP hbn rfl rfl ?_
        refine Ob.intro (show (0 : Int) ≤ 0 ∧ (0 : Int) < ((2 : Nat) : Int) by omega) ?_
        refine fork (fun _ => ?_) (fun g => absurd (show (x : Int) = 4 by omega) (beq_eq_false_iff_ne.1 g))
        refine Ob.intro (show (0 : Int) ≤ 1 ∧ (1 : Int) < ((2 : Nat) : Int) by omega) ?_
        refine forkD (fun g => absurd (show y ≤ 7 by have : (y : Int) ≤ 7 := g; omega) hy) (fun _ => ?_)
        refine callP hw rfl rfl ?_
        refine end0 rfl rfl rfl rfl
theorem rund_make (s : ByteArray) (x : Nat) (sx : ByteArray) (lx : List Nat) (kx : List It) (y : Nat) (sy : ByteArray) (ly : List Nat) (ky : List It) (hx : x = 4) (hy : y ≤ 7) (hbn : ACalls Tryz.prog 27 [str ⟨#[98, 110]⟩, str s] [] (Ret (.tup [itsV [.mk x sx lx kx, .mk y sy ly ky], bo true]))) : ACalls Tryz.prog 11 [str s] [] (Ret (rdA17 (some ⟨true, y, 0, 0, false⟩))) := by
  have hcy : wrp .i64 ((y : Nat) : Int) = ((y : Nat) : Int) := by rw [wrpE, wi64]; omega
  refine acalls_of_awp hT mixed Tryz.func11 rfl (by kernel_rfl) (by kernel_rfl) (Nat.le_of_ble_eq_true rfl) ?_
  refine callP hbn rfl rfl ?_
  refine Ob.intro (show (0 : Int) ≤ 0 ∧ (0 : Int) < ((2 : Nat) : Int) by omega) ?_
  refine fork (fun _ => ?_) (fun g => absurd (show (x : Int) = 4 by omega) (beq_eq_false_iff_ne.1 g))
  refine Ob.intro (show (0 : Int) ≤ 1 ∧ (1 : Int) < ((2 : Nat) : Int) by omega) ?_
  refine forkD (fun _ => ?_) (fun g => absurd (show (y : Int) ≤ 7 by omega) g)
  refine Ob.intro (show (0 : Int) ≤ 1 ∧ (1 : Int) < ((2 : Nat) : Int) by omega) ?_
  refine end0 rfl rfl rfl (show AV.tup [.agg [i64 1, i64 (wrp .i64 ((y : Nat) : Int)), i64 0, u64n 0, bo false], bo true] = _ by rw [hcy]; rfl)
theorem rundeed_ok (s : ByteArray) (hs : s.size ≤ 1000000) : ACalls Tryz.prog 11 [str s] [] (Ret (rdA17 (undP s))) := by
  have hw := whole_ok ⟨#[98, 110]⟩ s (by decide) hs
  rw [show byL ⟨#[98, 110]⟩ = [98, 110] from rfl] at hw
  unfold whA at hw
  by_cases h4 : octB s 0 = 4
  · rw [undP_4 s h4]
    cases hp : begP [98, 110] s with
    | err e =>
      rw [hp] at hw
      have := rund_nil s hw hs
      rw [undR_4 s h4] at this
      exact this
    | ok l m =>
      rw [hp] at hw
      have hl := begP_length sh_bn hp
      match l, hl with
      | [.mk a s1 l1 k1, .mk b s2 l2 k2], _ =>
        have hf := (beg_first sh_bn hp).1
        dsimp only at hw ⊢
        by_cases hms : m = s.size
        · rw [if_pos hms] at hw
          by_cases hb : b ≤ 7
          · rw [if_pos ⟨hms, hb⟩]
            exact rund_make s a s1 l1 k1 b s2 l2 k2 (by omega) hb hw
          · rw [if_neg (fun hh => hb hh.2)]
            have := rund_big s a s1 l1 k1 b s2 l2 k2 (by omega) hb hw hs
            rw [undR_4 s h4] at this
            exact this
        · rw [if_neg hms] at hw
          rw [if_neg (fun hh => hms hh.1)]
          have := rund_nil s hw hs
          rw [undR_4 s h4] at this
          exact this
  · rw [undP_R s h4]
    cases hp : begP [98, 110] s with
    | err e =>
      rw [hp] at hw
      exact rund_nil s hw hs
    | ok l m =>
      rw [hp] at hw
      have hl := begP_length sh_bn hp
      match l, hl with
      | [.mk a s1 l1 k1, .mk b s2 l2 k2], _ =>
        have hf := (beg_first sh_bn hp).1
        dsimp only at hw
        by_cases hms : m = s.size
        · rw [if_pos hms] at hw
          exact rund_no s a s1 l1 k1 b s2 l2 k2 (by omega) hw hs
        · rw [if_neg hms] at hw
          exact rund_nil s hw hs
end Go.Proofs.YtkbpddejafdmdaaGreat.A
