/- ask: parts that are read. No condition. -/
import Derived.Test.YtgchhmfobkcnfaaSm
namespace Go.Proofs.Ytgchhmfobkcnfaa.A
open Go
set_option linter.unusedVariables false
set_option linter.unusedSimpArgs false
set_option maxRecDepth 100000
set_option pp.maxSteps 400

def sPtR (o : Rs (List It)) (t : ByteArray) : AEnd → Heap → Prop := fun E G =>
  match o with
  | .ok l m => E = .ret (itsV l) ∧ G = [.row [str (rest t m)]]
  | .err _ => E = .pan sbadV ∧ G = [.dead]
theorem spart_ok (b t : ByteArray) (hb : b.size ≤ 60) (ht : t.size ≤ 1000000) : ACalls Try.prog 58 [.ptr 0 0, str b] [.row [str t]] (sPtR (begP (byL b) t) t) := by
  have hc := begin_ok b t hb ht
  cases hp : begP (byL b) t with
  | err e =>
    rw [hp] at hc
    have he := begP_e hp
    refine acalls_of_awp hT mixed Try.func58 rfl (by kernel_rfl) (by kernel_rfl) (Nat.le_of_ble_eq_true rfl) ?_
    refine callP hc rfl rfl ?_
    refine fork (fun g => absurd (beq_iff_eq.1 g) (by omega)) (fun g => ?_)
    refine callBad smust_no rfl ?_
    exact ⟨rfl, [.dead], ⟨.inr rfl, True.intro⟩, Nat.le_refl 1, rfl, rfl, rfl⟩
  | ok l m =>
    rw [hp] at hc
    have hm := begP_le hp
    have hsl : (0 : Int) ≤ (m : Nat) ∧ ((m : Nat) : Int) ≤ (t.size : Int) ∧ (t.size : Int) ≤ (t.size : Int) := by omega
    refine acalls_of_awp hT mixed Try.func58 rfl (by kernel_rfl) (by kernel_rfl) (Nat.le_of_ble_eq_true rfl) ?_
    refine callP hc rfl rfl ?_
    refine callP smust_yes rfl rfl ?_
    refine Ob.intro hsl ?_
    exact ⟨rfl, [.row [str (rest t m)]], _, ⟨⟨_, rfl, rfl⟩, ⟨.inl rfl, True.intro⟩, Nat.le_refl 1, rfl⟩, rfl, rfl⟩
theorem ssmall_ok (n : Nat) (s : ByteArray) (l : List Nat) (k : List It) (h : n ≤ 2147483647) : ACalls Try.prog 57 [itA (.mk n s l k)] [] (Ret (i64 (n : Nat))) := by
  have hw : wrp .i64 (n : Int) = ((n : Nat) : Int) := by rw [wrpE, wi64]; omega
  refine acalls_of_awp hT mixed Try.func57 rfl (by kernel_rfl) (by kernel_rfl) (Nat.le_of_ble_eq_true rfl) ?_
  refine forkD (fun g => ?_) (fun g => absurd (show ((n : Nat) : Int) ≤ 2147483647 by omega) g)
  refine callP smust_yes rfl rfl ?_
  refine end0 rfl rfl rfl (congrArg i64 hw)
theorem ssmall_no (n : Nat) (s : ByteArray) (l : List Nat) (k : List It) (h : ¬ n ≤ 2147483647) : ACalls Try.prog 57 [itA (.mk n s l k)] [] (fun E G => E = .pan sbadV ∧ G = []) := by
  refine acalls_of_awp hT mixed Try.func57 rfl (by kernel_rfl) (by kernel_rfl) (Nat.le_of_ble_eq_true rfl) ?_
  refine forkD (fun g => absurd (show ((n : Nat) : Int) ≤ 2147483647 from g) (by omega)) (fun g => ?_)
  refine callBad smust_no rfl ?_
  exact ⟨rfl, [], True.intro, Nat.zero_le _, rfl, rfl, rfl⟩
theorem sis_ok (n : Nat) (s : ByteArray) (l : List Nat) (k : List It) (h : n ≤ 1) : ACalls Try.prog 72 [itA (.mk n s l k)] [] (Ret (bo (decide (n = 1)))) := by
  refine acalls_of_awp hT mixed Try.func72 rfl (by kernel_rfl) (by kernel_rfl) (Nat.le_of_ble_eq_true rfl) ?_
  refine forkD (fun g => ?_) (fun g => absurd (show ((n : Nat) : Int) ≤ 1 by omega) g)
  refine callP smust_yes rfl rfl ?_
  refine fork (fun g => ?_) (fun g => ?_)
  · refine end0 rfl rfl rfl (congrArg bo (decide_eq_true ?_).symm)
    have : ((n : Nat) : Int) = 1 := beq_iff_eq.1 g
    omega
  · refine end0 rfl rfl rfl (congrArg bo (decide_eq_false ?_).symm)
    have : ((n : Nat) : Int) ≠ 1 := beq_eq_false_iff_ne.1 g
    omega
theorem sis_no (n : Nat) (s : ByteArray) (l : List Nat) (k : List It) (h : ¬ n ≤ 1) : ACalls Try.prog 72 [itA (.mk n s l k)] [] (fun E G => E = .pan sbadV ∧ G = []) := by
  refine acalls_of_awp hT mixed Try.func72 rfl (by kernel_rfl) (by kernel_rfl) (Nat.le_of_ble_eq_true rfl) ?_
  refine forkD (fun g => absurd (show ((n : Nat) : Int) ≤ 1 from g) (by omega)) (fun g => ?_)
  refine callBad smust_no rfl ?_
  exact ⟨rfl, [], True.intro, Nat.zero_le _, rfl, rfl, rfl⟩
theorem begP_length {b : List Nat} {t : ByteArray} {l : List It} {m : Nat} {L : List (Nat × Bool)} (hL : shP b = some L) (h : begP b t = .ok l m) : l.length = L.length := by
  unfold begP at h
  rw [hL] at h
  exact (begN_le (Nat.le_refl _) h).2
def sVaR (o : Option ((Bool × ByteArray × Nat) × Nat)) (t : ByteArray) : AEnd → Heap → Prop := fun E G =>
  match o with
  | some (v, m) => E = .ret (val v.1 v.2.1 v.2.2) ∧ G = [.row [str (rest t m)]]
  | none => E = .pan sbadV ∧ G = [.dead]
/-- A value that bytes begin with. -/
def vaP (t : ByteArray) : Option ((Bool × ByteArray × Nat) × Nat) := match begP [116] t with
  | .ok [.mk _ s _ _] m => if (upV s).2.2.2 = 0 then some (((upV s).1, (upV s).2.1, (upV s).2.2.1), m) else none
  | _ => none
theorem sh_1t : shP [116] = some [(116, false)] := by decide
theorem svalue_ok (t : ByteArray) (ht : t.size ≤ 1000000) : ACalls Try.prog 73 [.ptr 0 0] [.row [str t]] (sVaR (vaP t) t) := by
  have hc := spart_ok ⟨#[116]⟩ t (by decide) ht
  rw [show byL ⟨#[116]⟩ = [116] from rfl] at hc
  unfold vaP
  cases hp : begP [116] t with
  | err e =>
    rw [hp] at hc
    refine acalls_of_awp hT mixed Try.func73 rfl (by kernel_rfl) (by kernel_rfl) (Nat.le_of_ble_eq_true rfl) ?_
    refine callS hc [0] ⟨.inl rfl, True.intro⟩ rfl ?_
    rintro E G ⟨rfl, rfl⟩ _
    refine ⟨_, _, rfl, rfl, ?_⟩
    exact ⟨rfl, [.dead], ⟨.inl rfl, True.intro⟩, Nat.le_refl 1, rfl, rfl, rfl⟩
  | ok l m =>
    rw [hp] at hc
    have hl := begP_length sh_1t hp
    match l, hl with
    | [.mk g s l1 k1], _ =>
      dsimp only
      have h0 : (0 : Int) ≤ 0 ∧ (0 : Int) < ((1 : Nat) : Int) := by omega
      have hu := unpack_ok s
      unfold upR at hu
      generalize upV s = u at hu ⊢
      obtain ⟨vn, vt, vb, ve⟩ := u
      dsimp only at hu ⊢
      by_cases he : ve = 0
      · subst he
        rw [if_pos rfl]
        cases vn <;>
        · refine acalls_of_awp hT mixed Try.func73 rfl (by kernel_rfl) (by kernel_rfl) (Nat.le_of_ble_eq_true rfl) ?_
          refine callS hc [0] ⟨.inl rfl, True.intro⟩ rfl ?_
          rintro E G ⟨rfl, rfl⟩ _
          refine ⟨_, _, rfl, rfl, ?_⟩
          refine Ob.intro h0 ?_
          refine callP hu rfl rfl ?_
          refine callP smust_yes rfl rfl ?_
          exact ⟨rfl, [.row [str (rest t m)]], val _ vt vb, ⟨⟨_, rfl, rfl⟩, ⟨.inl rfl, True.intro⟩, Nat.le_refl 1, rfl⟩, rfl, rfl⟩
      · rw [if_neg he]
        cases vn <;>
        · refine acalls_of_awp hT mixed Try.func73 rfl (by kernel_rfl) (by kernel_rfl) (Nat.le_of_ble_eq_true rfl) ?_
          refine callS hc [0] ⟨.inl rfl, True.intro⟩ rfl ?_
          rintro E G ⟨rfl, rfl⟩ _
          refine ⟨_, _, rfl, rfl, ?_⟩
          refine Ob.intro h0 ?_
          refine callP hu rfl rfl ?_
          refine fork (fun g => absurd (beq_iff_eq.1 g) he) (fun _ => ?_)
          refine callBad smust_no rfl ?_
          exact ⟨rfl, [.dead], ⟨.inr rfl, True.intro⟩, Nat.le_refl 1, rfl, rfl, rfl⟩
end Go.Proofs.Ytgchhmfobkcnfaa.A

namespace Go.Proofs.Ytgchhmfobkcnfaa.A
open Go
set_option linter.unusedVariables false
set_option linter.unusedSimpArgs false
set_option maxRecDepth 100000
set_option pp.maxSteps 400

def rqR (la ca : AV) (q : Rq) : List AV := [i64 q.k, i64 q.w, la, u64n q.g, bo q.m, i64 q.r, str q.key, bo q.vn, str q.vt, u64n q.vb, str q.f, str q.t, i64 q.lim, i64 q.n, ca]
theorem sh_1n : shP [110] = some [(110, false)] := by decide
theorem sh_1b : shP [98] = some [(98, false)] := by decide
theorem sh_1l : shP [108] = some [(108, false)] := by decide
theorem sh_ttn : shP [116, 116, 110] = some [(116, false), (116, false), (110, false)] := by decide
/-- A small number, any number, a label, a truth, a text, a range that bytes begin with. -/
def smP (t : ByteArray) : Option (Nat × Nat) := match begP [110] t with
  | .ok [.mk n _ _ _] m => if n ≤ 2147483647 then some (n, m) else none
  | _ => none
def anP (t : ByteArray) : Option (Nat × Nat) := match begP [110] t with
  | .ok [.mk n _ _ _] m => some (n, m)
  | _ => none
def laP (t : ByteArray) : Option (List Nat × Nat) := match begP [108] t with
  | .ok [.mk _ _ l _] m => some (l, m)
  | _ => none
def trP (t : ByteArray) : Option (Bool × Nat) := match begP [98] t with
  | .ok [.mk n _ _ _] m => if n ≤ 1 then some (decide (n = 1), m) else none
  | _ => none
def teP (t : ByteArray) : Option (ByteArray × Nat) := match begP [116] t with
  | .ok [.mk _ s _ _] m => some (s, m)
  | _ => none
def raP (t : ByteArray) : Option ((ByteArray × ByteArray × Nat) × Nat) := match begP [116, 116, 110] t with
  | .ok [.mk _ s _ _, .mk _ u _ _, .mk n _ _ _] m => if n ≤ 2147483647 then some ((s, u, n), m) else none
  | _ => none
def fdP (f : Nat) (q : Rq) (t : ByteArray) : Option (Rq × Nat) := match f with
  | 0 => (smP t).map fun x => ({ q with w := (x.1 : Nat) }, x.2)
  | 1 => (laP t).map fun x => ({ q with l := x.1 }, x.2)
  | 2 => (anP t).map fun x => ({ q with g := x.1 }, x.2)
  | 3 => (trP t).map fun x => ({ q with m := x.1 }, x.2)
  | 4 => (smP t).map fun x => ({ q with r := (x.1 : Nat) }, x.2)
  | 5 => (teP t).map fun x => ({ q with key := x.1 }, x.2)
  | 6 => (vaP t).map fun x => ({ q with vn := x.1.1, vt := x.1.2.1, vb := x.1.2.2 }, x.2)
  | 7 => (raP t).map fun x => ({ q with f := x.1.1, t := x.1.2.1, lim := (x.1.2.2 : Nat) }, x.2)
  | _ => (smP t).map fun x => ({ q with n := (x.1 : Nat) }, x.2)
def FdR (la : AV) (la' : Rq → AV) (q : Rq) (o : Option (Rq × Nat)) (t : ByteArray) : AEnd → Heap → Prop := fun E G => match o with
  | some (q', m) => E = .ret (.tup []) ∧ G = [.row [str (rest t m)], .row (rqR (la' q') nilS q')]
  | none => E = .pan sbadV ∧ G = [.dead, .row (rqR la nilS q)]
theorem field_0 (q : Rq) (t : ByteArray) (ht : t.size ≤ 1000000) : ACalls Try.prog 59 [.ptr 0 0, .ptr 1 0, i64 0] [.row [str t], .row (rqR nilS nilS q)] (FdR nilS (fun _ => nilS) q (fdP 0 q t) t) := by
  have hc := spart_ok ⟨#[110]⟩ t (by decide) ht
  rw [show byL ⟨#[110]⟩ = [110] from rfl] at hc
  obtain ⟨k, w, l, g, m, r, key, vn, vt, vb, fr, tt, lim, n, c⟩ := q
  unfold fdP smP
  dsimp only
  cases hp : begP [110] t with
  | err e =>
    rw [hp] at hc
    cases m <;> cases vn <;>
    · refine acalls_of_awp hT mixed Try.func59 rfl (by kernel_rfl) (by kernel_rfl) (Nat.le_of_ble_eq_true rfl) ?_
      refine callS hc [0] ⟨.inl rfl, True.intro⟩ rfl ?_
      rintro E G ⟨rfl, rfl⟩ _
      refine ⟨_, _, rfl, rfl, ?_⟩
      exact ⟨rfl, [.dead, .row (rqR nilS nilS ⟨k, w, l, g, _, r, key, _, vt, vb, fr, tt, lim, n, c⟩)], ⟨.inl rfl, .inl rfl, True.intro⟩, Nat.le_refl 2, rfl, rfl, rfl⟩
  | ok L j =>
    rw [hp] at hc
    have hl := begP_length sh_1n hp
    match L, hl with
    | [.mk x s l1 k1], _ =>
      dsimp only
      have h0 : (0 : Int) ≤ 0 ∧ (0 : Int) < ((1 : Nat) : Int) := by omega
      by_cases hx : x ≤ 2147483647
      · rw [if_pos hx]
        have hs := ssmall_ok x s l1 k1 hx
        cases m <;> cases vn <;>
        · refine acalls_of_awp hT mixed Try.func59 rfl (by kernel_rfl) (by kernel_rfl) (Nat.le_of_ble_eq_true rfl) ?_
          refine callS hc [0] ⟨.inl rfl, True.intro⟩ rfl ?_
          rintro E G ⟨rfl, rfl⟩ _
          refine ⟨_, _, rfl, rfl, ?_⟩
          refine Ob.intro h0 ?_
          refine callP hs rfl rfl ?_
          exact ⟨rfl, [.row [str (rest t j)], .row (rqR nilS nilS ⟨k, (x : Nat), l, g, _, r, key, _, vt, vb, fr, tt, lim, n, c⟩)], _, ⟨⟨_, rfl, rfl⟩, ⟨.inl rfl, .inl rfl, True.intro⟩, Nat.le_refl 2, rfl⟩, rfl, rfl⟩
      · rw [if_neg hx]
        have hs := ssmall_no x s l1 k1 hx
        cases m <;> cases vn <;>
        · refine acalls_of_awp hT mixed Try.func59 rfl (by kernel_rfl) (by kernel_rfl) (Nat.le_of_ble_eq_true rfl) ?_
          refine callS hc [0] ⟨.inl rfl, True.intro⟩ rfl ?_
          rintro E G ⟨rfl, rfl⟩ _
          refine ⟨_, _, rfl, rfl, ?_⟩
          refine Ob.intro h0 ?_
          refine callBad hs rfl ?_
          exact ⟨rfl, [.dead, .row (rqR nilS nilS ⟨k, w, l, g, _, r, key, _, vt, vb, fr, tt, lim, n, c⟩)], ⟨.inr rfl, .inl rfl, True.intro⟩, Nat.le_refl 2, rfl, rfl, rfl⟩
theorem field_4 (q : Rq) (t : ByteArray) (ht : t.size ≤ 1000000) : ACalls Try.prog 59 [.ptr 0 0, .ptr 1 0, i64 4] [.row [str t], .row (rqR nilS nilS q)] (FdR nilS (fun _ => nilS) q (fdP 4 q t) t) := by
  have hc := spart_ok ⟨#[110]⟩ t (by decide) ht
  rw [show byL ⟨#[110]⟩ = [110] from rfl] at hc
  obtain ⟨k, w, l, g, m, r, key, vn, vt, vb, fr, tt, lim, n, c⟩ := q
  unfold fdP smP
  dsimp only
  cases hp : begP [110] t with
  | err e =>
    rw [hp] at hc
    cases m <;> cases vn <;>
    · refine acalls_of_awp hT mixed Try.func59 rfl (by kernel_rfl) (by kernel_rfl) (Nat.le_of_ble_eq_true rfl) ?_
      refine callS hc [0] ⟨.inl rfl, True.intro⟩ rfl ?_
      rintro E G ⟨rfl, rfl⟩ _
      refine ⟨_, _, rfl, rfl, ?_⟩
      exact ⟨rfl, [.dead, .row (rqR nilS nilS ⟨k, w, l, g, _, r, key, _, vt, vb, fr, tt, lim, n, c⟩)], ⟨.inl rfl, .inl rfl, True.intro⟩, Nat.le_refl 2, rfl, rfl, rfl⟩
  | ok L j =>
    rw [hp] at hc
    have hl := begP_length sh_1n hp
    match L, hl with
    | [.mk x s l1 k1], _ =>
      dsimp only
      have h0 : (0 : Int) ≤ 0 ∧ (0 : Int) < ((1 : Nat) : Int) := by omega
      by_cases hx : x ≤ 2147483647
      · rw [if_pos hx]
        have hs := ssmall_ok x s l1 k1 hx
        cases m <;> cases vn <;>
        · refine acalls_of_awp hT mixed Try.func59 rfl (by kernel_rfl) (by kernel_rfl) (Nat.le_of_ble_eq_true rfl) ?_
          refine callS hc [0] ⟨.inl rfl, True.intro⟩ rfl ?_
          rintro E G ⟨rfl, rfl⟩ _
          refine ⟨_, _, rfl, rfl, ?_⟩
          refine Ob.intro h0 ?_
          refine callP hs rfl rfl ?_
          exact ⟨rfl, [.row [str (rest t j)], .row (rqR nilS nilS ⟨k, w, l, g, _, (x : Nat), key, _, vt, vb, fr, tt, lim, n, c⟩)], _, ⟨⟨_, rfl, rfl⟩, ⟨.inl rfl, .inl rfl, True.intro⟩, Nat.le_refl 2, rfl⟩, rfl, rfl⟩
      · rw [if_neg hx]
        have hs := ssmall_no x s l1 k1 hx
        cases m <;> cases vn <;>
        · refine acalls_of_awp hT mixed Try.func59 rfl (by kernel_rfl) (by kernel_rfl) (Nat.le_of_ble_eq_true rfl) ?_
          refine callS hc [0] ⟨.inl rfl, True.intro⟩ rfl ?_
          rintro E G ⟨rfl, rfl⟩ _
          refine ⟨_, _, rfl, rfl, ?_⟩
          refine Ob.intro h0 ?_
          refine callBad hs rfl ?_
          exact ⟨rfl, [.dead, .row (rqR nilS nilS ⟨k, w, l, g, _, r, key, _, vt, vb, fr, tt, lim, n, c⟩)], ⟨.inr rfl, .inl rfl, True.intro⟩, Nat.le_refl 2, rfl, rfl, rfl⟩
theorem field_8 (q : Rq) (t : ByteArray) (ht : t.size ≤ 1000000) : ACalls Try.prog 59 [.ptr 0 0, .ptr 1 0, i64 8] [.row [str t], .row (rqR nilS nilS q)] (FdR nilS (fun _ => nilS) q (fdP 8 q t) t) := by
  have hc := spart_ok ⟨#[110]⟩ t (by decide) ht
  rw [show byL ⟨#[110]⟩ = [110] from rfl] at hc
  obtain ⟨k, w, l, g, m, r, key, vn, vt, vb, fr, tt, lim, n, c⟩ := q
  unfold fdP smP
  dsimp only
  cases hp : begP [110] t with
  | err e =>
    rw [hp] at hc
    cases m <;> cases vn <;>
    · refine acalls_of_awp hT mixed Try.func59 rfl (by kernel_rfl) (by kernel_rfl) (Nat.le_of_ble_eq_true rfl) ?_
      refine callS hc [0] ⟨.inl rfl, True.intro⟩ rfl ?_
      rintro E G ⟨rfl, rfl⟩ _
      refine ⟨_, _, rfl, rfl, ?_⟩
      exact ⟨rfl, [.dead, .row (rqR nilS nilS ⟨k, w, l, g, _, r, key, _, vt, vb, fr, tt, lim, n, c⟩)], ⟨.inl rfl, .inl rfl, True.intro⟩, Nat.le_refl 2, rfl, rfl, rfl⟩
  | ok L j =>
    rw [hp] at hc
    have hl := begP_length sh_1n hp
    match L, hl with
    | [.mk x s l1 k1], _ =>
      dsimp only
      have h0 : (0 : Int) ≤ 0 ∧ (0 : Int) < ((1 : Nat) : Int) := by omega
      by_cases hx : x ≤ 2147483647
      · rw [if_pos hx]
        have hs := ssmall_ok x s l1 k1 hx
        cases m <;> cases vn <;>
        · refine acalls_of_awp hT mixed Try.func59 rfl (by kernel_rfl) (by kernel_rfl) (Nat.le_of_ble_eq_true rfl) ?_
          refine callS hc [0] ⟨.inl rfl, True.intro⟩ rfl ?_
          rintro E G ⟨rfl, rfl⟩ _
          refine ⟨_, _, rfl, rfl, ?_⟩
          refine Ob.intro h0 ?_
          refine callP hs rfl rfl ?_
          exact ⟨rfl, [.row [str (rest t j)], .row (rqR nilS nilS ⟨k, w, l, g, _, r, key, _, vt, vb, fr, tt, lim, (x : Nat), c⟩)], _, ⟨⟨_, rfl, rfl⟩, ⟨.inl rfl, .inl rfl, True.intro⟩, Nat.le_refl 2, rfl⟩, rfl, rfl⟩
      · rw [if_neg hx]
        have hs := ssmall_no x s l1 k1 hx
        cases m <;> cases vn <;>
        · refine acalls_of_awp hT mixed Try.func59 rfl (by kernel_rfl) (by kernel_rfl) (Nat.le_of_ble_eq_true rfl) ?_
          refine callS hc [0] ⟨.inl rfl, True.intro⟩ rfl ?_
          rintro E G ⟨rfl, rfl⟩ _
          refine ⟨_, _, rfl, rfl, ?_⟩
          refine Ob.intro h0 ?_
          refine callBad hs rfl ?_
          exact ⟨rfl, [.dead, .row (rqR nilS nilS ⟨k, w, l, g, _, r, key, _, vt, vb, fr, tt, lim, n, c⟩)], ⟨.inr rfl, .inl rfl, True.intro⟩, Nat.le_refl 2, rfl, rfl, rfl⟩
theorem field_2 (q : Rq) (t : ByteArray) (ht : t.size ≤ 1000000) : ACalls Try.prog 59 [.ptr 0 0, .ptr 1 0, i64 2] [.row [str t], .row (rqR nilS nilS q)] (FdR nilS (fun q' => nilS) q (fdP 2 q t) t) := by
  have hc := spart_ok ⟨#[110]⟩ t (by decide) ht
  rw [show byL ⟨#[110]⟩ = [110] from rfl] at hc
  obtain ⟨k, w, l, g, m, r, key, vn, vt, vb, fr, tt, lim, n, c⟩ := q
  unfold fdP anP
  dsimp only
  cases hp : begP [110] t with
  | err e =>
    rw [hp] at hc
    cases m <;> cases vn <;>
    · refine acalls_of_awp hT mixed Try.func59 rfl (by kernel_rfl) (by kernel_rfl) (Nat.le_of_ble_eq_true rfl) ?_
      refine callS hc [0] ⟨.inl rfl, True.intro⟩ rfl ?_
      rintro E G ⟨rfl, rfl⟩ _
      refine ⟨_, _, rfl, rfl, ?_⟩
      exact ⟨rfl, [.dead, .row (rqR nilS nilS ⟨k, w, l, g, _, r, key, _, vt, vb, fr, tt, lim, n, c⟩)], ⟨.inl rfl, .inl rfl, True.intro⟩, Nat.le_refl 2, rfl, rfl, rfl⟩
  | ok L j =>
    rw [hp] at hc
    have hl := begP_length sh_1n hp
    match L, hl with
    | [.mk x s l1 k1], _ =>
      have h0 : (0 : Int) ≤ 0 ∧ (0 : Int) < ((1 : Nat) : Int) := by omega
      cases m <;> cases vn <;>
      · refine acalls_of_awp hT mixed Try.func59 rfl (by kernel_rfl) (by kernel_rfl) (Nat.le_of_ble_eq_true rfl) ?_
        refine callS hc [0] ⟨.inl rfl, True.intro⟩ rfl ?_
        rintro E G ⟨rfl, rfl⟩ _
        refine ⟨_, _, rfl, rfl, ?_⟩
        refine Ob.intro h0 ?_
        exact ⟨rfl, [.row [str (rest t j)], .row (rqR nilS nilS ⟨k, w, l, x, _, r, key, _, vt, vb, fr, tt, lim, n, c⟩)], _, ⟨⟨_, rfl, rfl⟩, ⟨.inl rfl, .inl rfl, True.intro⟩, Nat.le_refl 2, rfl⟩, rfl, rfl⟩
theorem field_5 (q : Rq) (t : ByteArray) (ht : t.size ≤ 1000000) : ACalls Try.prog 59 [.ptr 0 0, .ptr 1 0, i64 5] [.row [str t], .row (rqR nilS nilS q)] (FdR nilS (fun q' => nilS) q (fdP 5 q t) t) := by
  have hc := spart_ok ⟨#[116]⟩ t (by decide) ht
  rw [show byL ⟨#[116]⟩ = [116] from rfl] at hc
  obtain ⟨k, w, l, g, m, r, key, vn, vt, vb, fr, tt, lim, n, c⟩ := q
  unfold fdP teP
  dsimp only
  cases hp : begP [116] t with
  | err e =>
    rw [hp] at hc
    cases m <;> cases vn <;>
    · refine acalls_of_awp hT mixed Try.func59 rfl (by kernel_rfl) (by kernel_rfl) (Nat.le_of_ble_eq_true rfl) ?_
      refine callS hc [0] ⟨.inl rfl, True.intro⟩ rfl ?_
      rintro E G ⟨rfl, rfl⟩ _
      refine ⟨_, _, rfl, rfl, ?_⟩
      exact ⟨rfl, [.dead, .row (rqR nilS nilS ⟨k, w, l, g, _, r, key, _, vt, vb, fr, tt, lim, n, c⟩)], ⟨.inl rfl, .inl rfl, True.intro⟩, Nat.le_refl 2, rfl, rfl, rfl⟩
  | ok L j =>
    rw [hp] at hc
    have hl := begP_length sh_1t hp
    match L, hl with
    | [.mk x s l1 k1], _ =>
      have h0 : (0 : Int) ≤ 0 ∧ (0 : Int) < ((1 : Nat) : Int) := by omega
      cases m <;> cases vn <;>
      · refine acalls_of_awp hT mixed Try.func59 rfl (by kernel_rfl) (by kernel_rfl) (Nat.le_of_ble_eq_true rfl) ?_
        refine callS hc [0] ⟨.inl rfl, True.intro⟩ rfl ?_
        rintro E G ⟨rfl, rfl⟩ _
        refine ⟨_, _, rfl, rfl, ?_⟩
        refine Ob.intro h0 ?_
        exact ⟨rfl, [.row [str (rest t j)], .row (rqR nilS nilS ⟨k, w, l, g, _, r, s, _, vt, vb, fr, tt, lim, n, c⟩)], _, ⟨⟨_, rfl, rfl⟩, ⟨.inl rfl, .inl rfl, True.intro⟩, Nat.le_refl 2, rfl⟩, rfl, rfl⟩
theorem field_1 (q : Rq) (t : ByteArray) (ht : t.size ≤ 1000000) : ACalls Try.prog 59 [.ptr 0 0, .ptr 1 0, i64 1] [.row [str t], .row (rqR nilS nilS q)] (FdR nilS (fun q' => us q'.l) q (fdP 1 q t) t) := by
  have hc := spart_ok ⟨#[108]⟩ t (by decide) ht
  rw [show byL ⟨#[108]⟩ = [108] from rfl] at hc
  obtain ⟨k, w, l, g, m, r, key, vn, vt, vb, fr, tt, lim, n, c⟩ := q
  unfold fdP laP
  dsimp only
  cases hp : begP [108] t with
  | err e =>
    rw [hp] at hc
    cases m <;> cases vn <;>
    · refine acalls_of_awp hT mixed Try.func59 rfl (by kernel_rfl) (by kernel_rfl) (Nat.le_of_ble_eq_true rfl) ?_
      refine callS hc [0] ⟨.inl rfl, True.intro⟩ rfl ?_
      rintro E G ⟨rfl, rfl⟩ _
      refine ⟨_, _, rfl, rfl, ?_⟩
      exact ⟨rfl, [.dead, .row (rqR nilS nilS ⟨k, w, l, g, _, r, key, _, vt, vb, fr, tt, lim, n, c⟩)], ⟨.inl rfl, .inl rfl, True.intro⟩, Nat.le_refl 2, rfl, rfl, rfl⟩
  | ok L j =>
    rw [hp] at hc
    have hl := begP_length sh_1l hp
    match L, hl with
    | [.mk x s l1 k1], _ =>
      have h0 : (0 : Int) ≤ 0 ∧ (0 : Int) < ((1 : Nat) : Int) := by omega
      cases m <;> cases vn <;>
      · refine acalls_of_awp hT mixed Try.func59 rfl (by kernel_rfl) (by kernel_rfl) (Nat.le_of_ble_eq_true rfl) ?_
        refine callS hc [0] ⟨.inl rfl, True.intro⟩ rfl ?_
        rintro E G ⟨rfl, rfl⟩ _
        refine ⟨_, _, rfl, rfl, ?_⟩
        refine Ob.intro h0 ?_
        exact ⟨rfl, [.row [str (rest t j)], .row (rqR (us l1) nilS ⟨k, w, l1, g, _, r, key, _, vt, vb, fr, tt, lim, n, c⟩)], _, ⟨⟨_, rfl, rfl⟩, ⟨.inl rfl, .inl rfl, True.intro⟩, Nat.le_refl 2, rfl⟩, rfl, rfl⟩
theorem field_3 (q : Rq) (t : ByteArray) (ht : t.size ≤ 1000000) : ACalls Try.prog 59 [.ptr 0 0, .ptr 1 0, i64 3] [.row [str t], .row (rqR nilS nilS q)] (FdR nilS (fun _ => nilS) q (fdP 3 q t) t) := by
  have hc := spart_ok ⟨#[98]⟩ t (by decide) ht
  rw [show byL ⟨#[98]⟩ = [98] from rfl] at hc
  obtain ⟨k, w, l, g, m, r, key, vn, vt, vb, fr, tt, lim, n, c⟩ := q
  unfold fdP trP
  dsimp only
  cases hp : begP [98] t with
  | err e =>
    rw [hp] at hc
    cases m <;> cases vn <;>
    · refine acalls_of_awp hT mixed Try.func59 rfl (by kernel_rfl) (by kernel_rfl) (Nat.le_of_ble_eq_true rfl) ?_
      refine callS hc [0] ⟨.inl rfl, True.intro⟩ rfl ?_
      rintro E G ⟨rfl, rfl⟩ _
      refine ⟨_, _, rfl, rfl, ?_⟩
      exact ⟨rfl, [.dead, .row (rqR nilS nilS ⟨k, w, l, g, _, r, key, _, vt, vb, fr, tt, lim, n, c⟩)], ⟨.inl rfl, .inl rfl, True.intro⟩, Nat.le_refl 2, rfl, rfl, rfl⟩
  | ok L j =>
    rw [hp] at hc
    have hl := begP_length sh_1b hp
    match L, hl with
    | [.mk x s l1 k1], _ =>
      dsimp only
      have h0 : (0 : Int) ≤ 0 ∧ (0 : Int) < ((1 : Nat) : Int) := by omega
      by_cases hx : x ≤ 1
      · rw [if_pos hx]
        have hs := sis_ok x s l1 k1 hx
        generalize decide (x = 1) = z at hs ⊢
        cases z <;> cases m <;> cases vn <;>
        · refine acalls_of_awp hT mixed Try.func59 rfl (by kernel_rfl) (by kernel_rfl) (Nat.le_of_ble_eq_true rfl) ?_
          refine callS hc [0] ⟨.inl rfl, True.intro⟩ rfl ?_
          rintro E G ⟨rfl, rfl⟩ _
          refine ⟨_, _, rfl, rfl, ?_⟩
          refine Ob.intro h0 ?_
          refine callP hs rfl rfl ?_
          exact ⟨rfl, [.row [str (rest t j)], .row (rqR nilS nilS ⟨k, w, l, g, _, r, key, _, vt, vb, fr, tt, lim, n, c⟩)], _, ⟨⟨_, rfl, rfl⟩, ⟨.inl rfl, .inl rfl, True.intro⟩, Nat.le_refl 2, rfl⟩, rfl, rfl⟩
      · rw [if_neg hx]
        have hs := sis_no x s l1 k1 hx
        cases m <;> cases vn <;>
        · refine acalls_of_awp hT mixed Try.func59 rfl (by kernel_rfl) (by kernel_rfl) (Nat.le_of_ble_eq_true rfl) ?_
          refine callS hc [0] ⟨.inl rfl, True.intro⟩ rfl ?_
          rintro E G ⟨rfl, rfl⟩ _
          refine ⟨_, _, rfl, rfl, ?_⟩
          refine Ob.intro h0 ?_
          refine callBad hs rfl ?_
          exact ⟨rfl, [.dead, .row (rqR nilS nilS ⟨k, w, l, g, _, r, key, _, vt, vb, fr, tt, lim, n, c⟩)], ⟨.inr rfl, .inl rfl, True.intro⟩, Nat.le_refl 2, rfl, rfl, rfl⟩
theorem field_6 (q : Rq) (t : ByteArray) (ht : t.size ≤ 1000000) : ACalls Try.prog 59 [.ptr 0 0, .ptr 1 0, i64 6] [.row [str t], .row (rqR nilS nilS q)] (FdR nilS (fun _ => nilS) q (fdP 6 q t) t) := by
  have hc := svalue_ok t ht
  obtain ⟨k, w, l, g, m, r, key, vn, vt, vb, fr, tt, lim, n, c⟩ := q
  unfold fdP
  dsimp only
  cases hp : vaP t with
  | none =>
    rw [hp] at hc
    cases m <;> cases vn <;>
    · refine acalls_of_awp hT mixed Try.func59 rfl (by kernel_rfl) (by kernel_rfl) (Nat.le_of_ble_eq_true rfl) ?_
      refine callS hc [0] ⟨.inl rfl, True.intro⟩ rfl ?_
      rintro E G ⟨rfl, rfl⟩ _
      refine ⟨_, _, rfl, rfl, ?_⟩
      exact ⟨rfl, [.dead, .row (rqR nilS nilS ⟨k, w, l, g, _, r, key, _, vt, vb, fr, tt, lim, n, c⟩)], ⟨.inl rfl, .inl rfl, True.intro⟩, Nat.le_refl 2, rfl, rfl, rfl⟩
  | some x =>
    rw [hp] at hc
    obtain ⟨⟨xn, xt, xb⟩, j⟩ := x
    cases xn <;> cases m <;> cases vn <;>
    · refine acalls_of_awp hT mixed Try.func59 rfl (by kernel_rfl) (by kernel_rfl) (Nat.le_of_ble_eq_true rfl) ?_
      refine callS hc [0] ⟨.inl rfl, True.intro⟩ rfl ?_
      rintro E G ⟨rfl, rfl⟩ _
      refine ⟨_, _, rfl, rfl, ?_⟩
      exact ⟨rfl, [.row [str (rest t j)], .row (rqR nilS nilS ⟨k, w, l, g, _, r, key, _, xt, xb, fr, tt, lim, n, c⟩)], _, ⟨⟨_, rfl, rfl⟩, ⟨.inl rfl, .inl rfl, True.intro⟩, Nat.le_refl 2, rfl⟩, rfl, rfl⟩
end Go.Proofs.Ytgchhmfobkcnfaa.A

namespace Go.Proofs.Ytgchhmfobkcnfaa.A
open Go
set_option linter.unusedVariables false
set_option linter.unusedSimpArgs false
set_option maxRecDepth 100000
set_option pp.maxSteps 400

theorem field_7 (q : Rq) (t : ByteArray) (ht : t.size ≤ 1000000) : ACalls Try.prog 59 [.ptr 0 0, .ptr 1 0, i64 7] [.row [str t], .row (rqR (us q.l) nilS q)] (FdR (us q.l) (fun q' => us q'.l) q (fdP 7 q t) t) := by
  have hc := spart_ok ⟨#[116, 116, 110]⟩ t (by decide) ht
  rw [show byL ⟨#[116, 116, 110]⟩ = [116, 116, 110] from rfl] at hc
  obtain ⟨k, w, l, g, m, r, key, vn, vt, vb, fr, tt, lim, n, c⟩ := q
  unfold fdP raP
  dsimp only
  cases hp : begP [116, 116, 110] t with
  | err e =>
    rw [hp] at hc
    cases m <;> cases vn <;>
    · refine acalls_of_awp hT mixed Try.func59 rfl (by kernel_rfl) (by kernel_rfl) (Nat.le_of_ble_eq_true rfl) ?_
      refine callS hc [0] ⟨.inl rfl, True.intro⟩ rfl ?_
      rintro E G ⟨rfl, rfl⟩ _
      refine ⟨_, _, rfl, rfl, ?_⟩
      exact ⟨rfl, [.dead, .row (rqR (us l) nilS ⟨k, w, l, g, _, r, key, _, vt, vb, fr, tt, lim, n, c⟩)], ⟨.inl rfl, .inl rfl, True.intro⟩, Nat.le_refl 2, rfl, rfl, rfl⟩
  | ok L j =>
    rw [hp] at hc
    have hl := begP_length sh_ttn hp
    match L, hl with
    | [.mk x s l1 k1, .mk x2 s2 l2 k2, .mk x3 s3 l3 k3], _ =>
      dsimp only
      have h0 : (0 : Int) ≤ 0 ∧ (0 : Int) < ((3 : Nat) : Int) := by omega
      have h1 : (0 : Int) ≤ 1 ∧ (1 : Int) < ((3 : Nat) : Int) := by omega
      have h2 : (0 : Int) ≤ 2 ∧ (2 : Int) < ((3 : Nat) : Int) := by omega
      by_cases hx : x3 ≤ 2147483647
      · rw [if_pos hx]
        have hs := ssmall_ok x3 s3 l3 k3 hx
        cases m <;> cases vn <;>
        · refine acalls_of_awp hT mixed Try.func59 rfl (by kernel_rfl) (by kernel_rfl) (Nat.le_of_ble_eq_true rfl) ?_
          refine callS hc [0] ⟨.inl rfl, True.intro⟩ rfl ?_
          rintro E G ⟨rfl, rfl⟩ _
          refine ⟨_, _, rfl, rfl, ?_⟩
          refine ⟨[0, 0, 0, 0, 0, 0, 0, 0, 0, 0, 0, 0, 1, 1, 1, 1, 2], [[], [], [1], [1, 2], [1, 2, 3], [], [5], [5, 6], [5, 6, 7], [], [9], [9, 10], [9, 10, 11], [1, 2, 3, 4, 5, 6, 7, 8, 9, 10, 11, 12], [0, 1, 2, 3, 4, 5, 6, 7, 8, 9, 10, 11, 12, 13], [0, 1, 2, 3, 4, 5, 6, 7, 8, 9, 10, 11, 12, 13, 14], [0, 1, 2, 3, 4, 5, 6, 7, 8, 9, 10, 11, 12, 13, 14, 15]], [0, 0, 0, 0, 0, 0, 0, 0, 0, 0, 0, 0, 0, 0, 0, 0, 0], [12, 16], [[1], [6], [82], [83], [84], [6], [86], [87], [88], [6], [90], [91], [92], [85, 89, 93], [81], [95], [96, 94]], Ob.intro (by kernel_rfl) ?_⟩
          repeat first | refine same ?_ | refine Ob.intro h0 ?_ | refine Ob.intro h1 ?_ | refine Ob.intro h2 ?_
          refine callP hs rfl rfl ?_
          repeat first | refine same ?_ | refine Ob.intro h0 ?_ | refine Ob.intro h1 ?_ | refine Ob.intro h2 ?_
          exact ⟨rfl, [.row [str (rest t j)], .row (rqR (us l) nilS ⟨k, w, l, g, _, r, key, _, vt, vb, s, s2, (x3 : Nat), n, c⟩)], _, ⟨⟨_, rfl, rfl⟩, ⟨.inl rfl, .inl rfl, True.intro⟩, Nat.le_refl 2, rfl⟩, rfl, rfl⟩
      · rw [if_neg hx]
        have hs := ssmall_no x3 s3 l3 k3 hx
        cases m <;> cases vn <;>
        · refine acalls_of_awp hT mixed Try.func59 rfl (by kernel_rfl) (by kernel_rfl) (Nat.le_of_ble_eq_true rfl) ?_
          refine callS hc [0] ⟨.inl rfl, True.intro⟩ rfl ?_
          rintro E G ⟨rfl, rfl⟩ _
          refine ⟨_, _, rfl, rfl, ?_⟩
          refine ⟨[0, 0, 0, 0, 0, 0, 0, 0, 0, 0, 0, 0, 1, 1, 1, 1, 2], [[], [], [1], [1, 2], [1, 2, 3], [], [5], [5, 6], [5, 6, 7], [], [9], [9, 10], [9, 10, 11], [1, 2, 3, 4, 5, 6, 7, 8, 9, 10, 11, 12], [0, 1, 2, 3, 4, 5, 6, 7, 8, 9, 10, 11, 12, 13], [0, 1, 2, 3, 4, 5, 6, 7, 8, 9, 10, 11, 12, 13, 14], [0, 1, 2, 3, 4, 5, 6, 7, 8, 9, 10, 11, 12, 13, 14, 15]], [0, 0, 0, 0, 0, 0, 0, 0, 0, 0, 0, 0, 0, 0, 0, 0, 0], [12, 16], [[1], [6], [82], [83], [84], [6], [86], [87], [88], [6], [90], [91], [92], [85, 89, 93], [81], [95], [96, 94]], Ob.intro (by kernel_rfl) ?_⟩
          repeat first | refine same ?_ | refine Ob.intro h0 ?_ | refine Ob.intro h1 ?_ | refine Ob.intro h2 ?_
          refine callBad hs rfl ?_
          exact ⟨rfl, [.dead, .row (rqR (us l) nilS ⟨k, w, l, g, _, r, key, _, vt, vb, fr, tt, lim, n, c⟩)], ⟨.inr rfl, .inl rfl, True.intro⟩, Nat.le_refl 2, rfl, rfl, rfl⟩
end Go.Proofs.Ytgchhmfobkcnfaa.A

namespace Go.Proofs.Ytgchhmfobkcnfaa.A
open Go
set_option linter.unusedVariables false
set_option linter.unusedSimpArgs false
set_option maxRecDepth 100000
set_option pp.maxSteps 400

def farB (q : Rq) : Bool := decide (60 < q.l.length ∨ 200 < q.key.size ∨ 200 < q.vt.size ∨ 200 < q.f.size ∨ 200 < q.t.size ∨ 100 < q.c.length)
theorem qfar_ok (q : Rq) : ACalls Try.prog 7 [.agg q.C] [] (Ret (bo (farB q))) := by
  obtain ⟨O, hO⟩ : ∃ O, O = farB q := ⟨_, rfl⟩
  rw [← hO]
  unfold farB at hO
  obtain ⟨k, w, l, g, m, r, key, vn, vt, vb, fr, t, lim, n, c⟩ := q
  dsimp only at hO
  refine acalls_of_awp hT mixed Try.func7 rfl (by kernel_rfl) (by kernel_rfl) (Nat.le_of_ble_eq_true rfl) ?_
  refine forkD (fun a => ?_) (fun a => ?_)
  · rw [hO, decide_eq_true (by have : ((l.length : Nat) : Int) > 60 := a; omega)]
    refine end0 rfl rfl rfl rfl
  have b1 : ¬ 60 < l.length := by have : ¬ ((l.length : Nat) : Int) > 60 := a; omega
  refine forkD (fun a => ?_) (fun a => ?_)
  · rw [hO, decide_eq_true (by have : ((key.size : Nat) : Int) > 200 := a; omega)]
    refine end0 rfl rfl rfl rfl
  have b2 : ¬ 200 < key.size := by have : ¬ ((key.size : Nat) : Int) > 200 := a; omega
  refine forkD (fun a => ?_) (fun a => ?_)
  · rw [hO, decide_eq_true (by have : ((vt.size : Nat) : Int) > 200 := a; omega)]
    refine end0 rfl rfl rfl rfl
  have b3 : ¬ 200 < vt.size := by have : ¬ ((vt.size : Nat) : Int) > 200 := a; omega
  refine forkD (fun a => ?_) (fun a => ?_)
  · rw [hO, decide_eq_true (by have : ((fr.size : Nat) : Int) > 200 := a; omega)]
    refine end0 rfl rfl rfl rfl
  have b4 : ¬ 200 < fr.size := by have : ¬ ((fr.size : Nat) : Int) > 200 := a; omega
  refine forkD (fun a => ?_) (fun a => ?_)
  · rw [hO, decide_eq_true (by have : ((t.size : Nat) : Int) > 200 := a; omega)]
    refine end0 rfl rfl rfl rfl
  have b5 : ¬ 200 < t.size := by have : ¬ ((t.size : Nat) : Int) > 200 := a; omega
  refine forkD (fun a => ?_) (fun a => ?_)
  · rw [hO, decide_eq_true (by have : ((c.length : Nat) : Int) > 100 := a; omega)]
    refine end0 rfl rfl rfl rfl
  have b6 : ¬ 100 < c.length := by have : ¬ ((c.length : Nat) : Int) > 100 := a; omega
  rw [hO, decide_eq_false (by omega)]
  refine end0 rfl rfl rfl rfl
end Go.Proofs.Ytgchhmfobkcnfaa.A
