/- ask: Unpack. No condition. -/
import Derived.Test.YtgchhmfobkcnfaaSt
namespace Go.Proofs.Ytgchhmfobkcnfaa.A
open Go
set_option linter.unusedVariables false
set_option linter.unusedSimpArgs false
set_option maxRecDepth 100000
set_option pp.maxSteps 400

/-- The label's cell: whether it has been read. -/
def lac (b : Bool) (q : Rq) : AV := match b with
  | true => us q.l
  | false => nilS
def UpW (o : Option Rq) : AEnd → Heap → Prop := fun E G => G = [] ∧ match o with
  | some q => ∃ cs, LeL cs q.C ∧ E = .ret (.tup [.agg cs, i64 0])
  | none => ∃ (q : Rq) (cs : List AV), LeL cs q.C ∧ E = .ret (.tup [.agg cs, i64 4])
def UpR (o : Option Rq) : AEnd → Heap → Prop := fun E G => G = [] ∧ match o with
  | some q => E = .ret (.tup [.agg q.C, i64 0])
  | none => ∃ q : Rq, E = .ret (.tup [.agg q.C, i64 4])
theorem up_weak {g : FuncId} {args : List AV} {H : Heap} {o : Option Rq} (h : ACalls Try.prog g args H (UpW o)) : ACalls Try.prog g args H (UpR o) := by
  refine h.weakR ?_
  intro E G hR
  cases o with
  | some q =>
    obtain ⟨rfl, cs, hl, rfl⟩ := hR
    exact ⟨_, ⟨rfl, rfl⟩, EndR_tup1 fun X v hv => VR_agLe hl hv⟩
  | none =>
    obtain ⟨rfl, q, cs, hl, rfl⟩ := hR
    exact ⟨_, ⟨rfl, q, rfl⟩, EndR_tup1 fun X v hv => VR_agLe hl hv⟩
theorem le_lac {b : Bool} {q : Rq} (hl : b = false → q.l = []) (hc : q.c = []) : LeL (rqR (lac b q) nilS q) q.C := by
  obtain ⟨k, w, l, g, m, r, key, vn, vt, vb, fr, t, lim, n, c⟩ := q
  dsimp only at hl hc
  subst hc
  cases b with
  | true =>
    refine ⟨?_, ?_, ?_, ?_, ?_, ?_, ?_, ?_, ?_, ?_, ?_, ?_, ?_, ?_, ?_, True.intro⟩
    all_goals first | exact fun _ _ h => h | exact fun _ _ h => VR_nilView h
  | false =>
    have := hl rfl
    subst this
    refine ⟨?_, ?_, ?_, ?_, ?_, ?_, ?_, ?_, ?_, ?_, ?_, ?_, ?_, ?_, ?_, True.intro⟩
    all_goals first | exact fun _ _ h => h | exact fun _ _ h => VR_nilView h
structure UpSt (L : List Nat) (c : Nat → Bool) (O : Option (Rq × ByteArray)) where
  j : Nat
  q : Rq
  t : ByteArray
  hj : j ≤ L.length
  ht : t.size ≤ 1000000
  hq : q.ok
  hc : q.c = []
  hl : c j = false → q.l = []
  eq : O = fdsP (L.drop j) q t
theorem unpack_gen (s : ByteArray) (hs : s.size ≤ 1000000) (n : Nat) (s1 : ByteArray) (l1 : List Nat) (k1 : List It) (i : Nat) (hp : begP [98] s = .ok [.mk n s1 l1 k1] i) (hn : n ≤ 255) (c : Nat → Bool) (c0 : c 0 = false)
    (hF : ∀ j y, (fldL (n : Nat))[j]? = some y → y ≤ 8 ∧ (c (j + 1) = false → c j = false ∧ y ≠ 1) ∧ ∀ (q : Rq) (t : ByteArray), t.size ≤ 1000000 → ACalls Try.prog 59 [.ptr 0 0, .ptr 1 0, i64 (y : Nat)] [.row [str t], .row (rqR (lac (c j) q) nilS q)] (FdR (lac (c j) q) (lac (c (j + 1))) q (fdP y q t) t)) :
    ACalls Try.prog 34 [str s] [] (UpW (rqP s)) := by
  have hc := spart_ok ⟨#[98]⟩ s (by decide) hs
  rw [show byL ⟨#[98]⟩ = [98] from rfl, hp] at hc
  have hfl := fields_ok (n : Nat)
  have hsm := ssmall_ok n s1 l1 k1 (by omega)
  unfold rqP
  rw [hp]
  dsimp only
  obtain ⟨O, hO⟩ : ∃ O, O = fdsP (fldL (n : Nat)) (q00 n) (rest s i) := ⟨_, rfl⟩
  rw [← hO]
  generalize hL : fldL (n : Nat) = L at *
  have h0 : (0 : Int) ≤ 0 ∧ (0 : Int) < ((1 : Nat) : Int) := by omega
  refine acalls_of_awpU [] hT mixed Try.func34 rfl (by kernel_rfl) (by kernel_rfl) (Nat.le_of_ble_eq_true rfl) ?_
  refine callS hc [2] ⟨.inl rfl, True.intro⟩ rfl ?_
  rintro E G ⟨rfl, rfl⟩ _
  refine ⟨_, _, rfl, rfl, ?_⟩
  refine Ob.intro h0 ?_
  refine callP hsm rfl rfl ?_
  refine callP hfl rfl rfl ?_
  refine loopG (α := UpSt L c O) (fun z => [(2, .ptr 0 0), (3, .ptr 1 0), (4, .ptr 2 0), (18, fdV L), (19, i64 L.length), (20, i64 (z.j : Nat))]) (fun z => [.row (rqR (lac (c z.j) z.q) nilS z.q), .row [i64 0], .row [str z.t]]) [⟨18, [], [.ptr 1 0, i64 4]⟩] (fun z => L.length - z.j) ⟨0, q00 n, rest s i, Nat.zero_le _, by rw [rest_size]; omega, q00_ok n, rfl, fun _ => rfl, by rw [List.drop_zero]; exact hO⟩ [] [0, 1, 2] ⟨⟨rfl, rfl, rfl, rfl, rfl, rfl, True.intro⟩, ⟨.inl ?_, .inl rfl, .inl rfl, True.intro⟩, rfl, rfl, rfl⟩ ?_
  · show some (AObj.row (rqR nilS nilS (q00 n))) = some (renO _ (.row (rqR (lac (c 0) (q00 n)) nilS (q00 n))))
    rw [c0]
    rfl
  rintro ⟨j, q, t, hj, ht, hq, hqc, hql, eq⟩ K hK
  dsimp only at hj ht hq hqc hql eq ⊢
  have hinc : wrp .i64 ((j : Int) + 1) = ((j + 1 : Nat) : Int) := by
    have := fldL_len (n : Nat)
    rw [hL] at this
    rw [wrpE, wi64]; omega
  refine forkD (fun h => ?_) (fun h => ?_)
  · have h' : j < L.length := by have : (j : Int) < (L.length : Int) := h; omega
    obtain ⟨y, hy⟩ : ∃ y, L[j]? = some y := ⟨_, List.getElem?_eq_getElem h'⟩
    have hik : (0 : Int) ≤ (j : Nat) ∧ ((j : Nat) : Int) < (L.length : Nat) := by omega
    have hcl : nth (List.drop ((j : Int).toNat * 1) (L.map fun n => i64 (n : Nat))) 0 = some (i64 (y : Nat)) := by
      rw [nth_eq, Int.toNat_natCast, Nat.mul_one, List.getElem?_drop, Nat.add_zero, List.getElem?_map, hy]
      rfl
    obtain ⟨hy8, hN, hf⟩ := hF j y hy
    have hf := hf q t ht
    have hdr : L.drop j = y :: L.drop (j + 1) := by
      obtain ⟨g1, g2⟩ := List.getElem?_eq_some_iff.1 hy
      rw [List.drop_eq_getElem_cons g1, g2]
    rw [hdr] at eq
    unfold fdsP at eq
    have hfa : fdA y q t = fdP y q t := if_neg (by omega)
    rw [hfa] at eq
    have hcan := fun {q' m} (h : fdP y q t = some (q', m)) => fd_can (f := y) (by omega) (hfa.trans h) hq
    have hsel : ∀ r b q, renO r (.row (rqR (lac b q) nilS q)) = .row (rqR (lac b q) nilS q) := fun r b q => by cases b <;> rfl
    refine Ob.intro hik ?_
    refine optK_intro hcl ?_
    refine callS (H := [.row (rqR (lac (c j) q) nilS q), .row [i64 0], .row [str t]]) hf [2, 0] ⟨.inl rfl, .inl (congrArg some (hsel _ (c j) q).symm), True.intro⟩ rfl ?_
    cases hr : fdP y q t with
    | none =>
      rw [hr] at eq
      rw [show O = none from eq]
      rintro E G ⟨rfl, rfl⟩ _
      refine ⟨_, [.row (rqR (lac (c j) q) nilS q), .row [i64 0], .dead], rfl, by simp only [renH, hsel]; rfl, ?_⟩
      have hle := le_lac hql hqc
      clear hK hF hf eq hcan hsel hq ht hqc hql hc hsm hfl hfa
      generalize c j = b at hle ⊢
      obtain ⟨k, w, l, g, m, r, key, vn, vt, vb, fr, tt, lim, n, cc⟩ := q
      cases b <;> cases m <;> cases vn <;>
      · refine acallsD_of_rec hT mixed Try.func18 rfl (by kernel_rfl) (by kernel_rfl) rfl rfl rfl (splain) (Nat.le_of_ble_eq_true rfl) ?_
        exact ⟨rfl, [.row (rqR (lac _ ⟨k, w, l, g, _, r, key, _, vt, vb, fr, tt, lim, n, cc⟩) nilS ⟨k, w, l, g, _, r, key, _, vt, vb, fr, tt, lim, n, cc⟩), .row [i64 4], .dead], _, ⟨⟨_, rfl, rfl⟩, ⟨.inl rfl, .inl rfl, .inr rfl, True.intro⟩, Nat.le_of_ble_eq_true rfl, rfl⟩, True.intro, [], .tup [.agg (rqR (lac _ ⟨k, w, l, g, _, r, key, _, vt, vb, fr, tt, lim, n, cc⟩) nilS ⟨k, w, l, g, _, r, key, _, vt, vb, fr, tt, lim, n, cc⟩), i64 4], ⟨⟨_, rfl, rfl⟩, True.intro, Nat.zero_le _, rfl⟩, rfl, _, _, hle, rfl⟩
    | some qm =>
      obtain ⟨q', m⟩ := qm
      rw [hr] at eq
      obtain ⟨c1, c2, c3, c4, c5, c6⟩ := hcan hr
      rintro E G ⟨rfl, rfl⟩ _
      refine ⟨_, [.row (rqR (lac (c (j + 1)) q') nilS q'), .row [i64 0], .row [str (rest t m)]], rfl, by simp only [renH, hsel]; rfl, ?_⟩
      refine hK ⟨j + 1, q', rest t m, h', by rw [rest_size]; omega, c1, (c5 (by omega)).trans hqc, fun hb => ?_, eq⟩ [] [0, 1, 2] _ (show L.length - j = L.length - (j + 1) + 1 by omega) ⟨⟨rfl, rfl, rfl, rfl, rfl, congrArg i64 hinc, True.intro⟩, ⟨.inl ?_, .inl rfl, .inl rfl, True.intro⟩, rfl, rfl, rfl⟩
      · obtain ⟨g1, g2⟩ := hN hb
        exact (c6 g2).trans (hql g1)
      · exact congrArg some (hsel _ (c (j + 1)) q').symm
  · have h' : j = L.length := by have : ¬ (j : Int) < (L.length : Int) := h; omega
    rw [h', List.drop_length] at eq
    rw [show O = some (q, t) from eq]
    dsimp only
    have hle := le_lac hql hqc
    have hR := argsLe (cs := [.agg (rqR (lac (c j) q) nilS q)]) (ds := [.agg q.C]) ⟨fun X v hv => VR_agLe hle hv, True.intro⟩ (rqright_ok q hq)
    have hz := strEq_nilS t
    clear hK hF eq hq hqc hql hc hsm hfl
    by_cases h1 : t.size = 0
    · rw [decide_eq_true h1] at hz
      cases hb : rqB q with
      | true =>
        rw [hb] at hR
        rw [if_pos ⟨h1, rfl⟩]
        clear hb
        generalize c j = b at hle hR ⊢
        obtain ⟨k, w, l, g, m, r, key, vn, vt, vb, fr, tt, lim, n, cc⟩ := q
        cases b <;> cases m <;> cases vn <;>
        · refine fork (fun _ => ?_) (fun g => absurd hz (by rw [g]; decide))
          refine callP hR rfl rfl ?_
          refine callP smust_yes rfl rfl ?_
          refine acallsD_of_rec hT mixed Try.func18 rfl (by kernel_rfl) (by kernel_rfl) rfl rfl rfl (fun u b h => by cases h) (Nat.le_of_ble_eq_true rfl) ?_
          exact ⟨rfl, [.row (rqR (lac _ ⟨k, w, l, g, _, r, key, _, vt, vb, fr, tt, lim, n, cc⟩) nilS ⟨k, w, l, g, _, r, key, _, vt, vb, fr, tt, lim, n, cc⟩), .row [i64 0], .dead], _, ⟨⟨_, rfl, rfl⟩, ⟨.inl rfl, .inl rfl, .inr rfl, True.intro⟩, Nat.le_of_ble_eq_true rfl, rfl⟩, True.intro, [], .tup [.agg (rqR (lac _ ⟨k, w, l, g, _, r, key, _, vt, vb, fr, tt, lim, n, cc⟩) nilS ⟨k, w, l, g, _, r, key, _, vt, vb, fr, tt, lim, n, cc⟩), i64 0], ⟨⟨_, rfl, rfl⟩, True.intro, Nat.zero_le _, rfl⟩, rfl, _, hle, rfl⟩
      | false =>
        rw [hb] at hR
        rw [if_neg (fun hh => by cases hh.2)]
        clear hb
        generalize c j = b at hle hR ⊢
        obtain ⟨k, w, l, g, m, r, key, vn, vt, vb, fr, tt, lim, n, cc⟩ := q
        cases b <;> cases m <;> cases vn <;>
        · refine fork (fun _ => ?_) (fun g => absurd hz (by rw [g]; decide))
          refine callP hR rfl rfl ?_
          refine callBad smust_no rfl ?_
          refine acallsD_of_rec hT mixed Try.func18 rfl (by kernel_rfl) (by kernel_rfl) rfl rfl rfl (splain) (Nat.le_of_ble_eq_true rfl) ?_
          exact ⟨rfl, [.row (rqR (lac _ ⟨k, w, l, g, _, r, key, _, vt, vb, fr, tt, lim, n, cc⟩) nilS ⟨k, w, l, g, _, r, key, _, vt, vb, fr, tt, lim, n, cc⟩), .row [i64 4], .dead], _, ⟨⟨_, rfl, rfl⟩, ⟨.inl rfl, .inl rfl, .inr rfl, True.intro⟩, Nat.le_of_ble_eq_true rfl, rfl⟩, True.intro, [], .tup [.agg (rqR (lac _ ⟨k, w, l, g, _, r, key, _, vt, vb, fr, tt, lim, n, cc⟩) nilS ⟨k, w, l, g, _, r, key, _, vt, vb, fr, tt, lim, n, cc⟩), i64 4], ⟨⟨_, rfl, rfl⟩, True.intro, Nat.zero_le _, rfl⟩, rfl, _, _, hle, rfl⟩
    · rw [decide_eq_false h1] at hz
      rw [if_neg (fun hh => h1 hh.1)]
      generalize c j = b at hle hR ⊢
      obtain ⟨k, w, l, g, m, r, key, vn, vt, vb, fr, tt, lim, n, cc⟩ := q
      cases b <;> cases m <;> cases vn <;>
      · refine fork (fun g => absurd hz (by rw [g]; decide)) (fun _ => ?_)
        refine callBad smust_no rfl ?_
        refine acallsD_of_rec hT mixed Try.func18 rfl (by kernel_rfl) (by kernel_rfl) rfl rfl rfl (splain) (Nat.le_of_ble_eq_true rfl) ?_
        exact ⟨rfl, [.row (rqR (lac _ ⟨k, w, l, g, _, r, key, _, vt, vb, fr, tt, lim, n, cc⟩) nilS ⟨k, w, l, g, _, r, key, _, vt, vb, fr, tt, lim, n, cc⟩), .row [i64 4], .dead], _, ⟨⟨_, rfl, rfl⟩, ⟨.inl rfl, .inl rfl, .inr rfl, True.intro⟩, Nat.le_of_ble_eq_true rfl, rfl⟩, True.intro, [], .tup [.agg (rqR (lac _ ⟨k, w, l, g, _, r, key, _, vt, vb, fr, tt, lim, n, cc⟩) nilS ⟨k, w, l, g, _, r, key, _, vt, vb, fr, tt, lim, n, cc⟩), i64 4], ⟨⟨_, rfl, rfl⟩, True.intro, Nat.zero_le _, rfl⟩, rfl, _, _, hle, rfl⟩
end Go.Proofs.Ytgchhmfobkcnfaa.A

namespace Go.Proofs.Ytgchhmfobkcnfaa.A
open Go
set_option linter.unusedVariables false
set_option linter.unusedSimpArgs false
set_option maxRecDepth 100000
set_option pp.maxSteps 400

theorem sfrz_flat {α : Type} {f : α → List AV} {n : Nat} (hf : ∀ x, (f x).length = n) (hq : ∀ (H : Heap) (m k : Nat) (x : α), mapO (frz0 H m (k + 1)) (f x) = some (f x)) {H : Heap} {i m k len : Nat} {L : List α} (h : nth H i = some (.row (flat f L))) (hn : len = L.length) (hm : Nat.blt i m = false) : frz H m (k + 2) (.slc i 0 len n) = some (.view L.length (flat f L)) := by
  subst hn
  have h1 : rdN H i 0 (L.length * n) = some (flat f L) := rdN_all h (by rw [flat_len hf])
  have h2 := mapO_flat (g := frz0 H m (k + 1)) (hq H m k) L
  simp only [frz, frz0, hm, cond_false, h1, h2]
theorem cd_frz0 (H : Heap) (m k : Nat) (x : Int × Nat) : mapO (frz0 H m (k + 1)) (cd x) = some (cd x) := rfl
theorem frz_rq {H : Heap} {i k : Nat} {q : Rq} (h : nth H i = some (.row (flat cd q.c))) : mapO (frz H 0 (k + 2)) (rqR nilS (.slc i 0 q.c.length 2) q) = some (rqR nilS (cdV q.c) q) := by
  have hfz : frz H 0 (k + 2) (.slc i 0 q.c.length 2) = some (cdV q.c) := sfrz_flat (m := 0) cd_len cd_frz0 h rfl rfl
  simp only [rqR, mapO, hfz]
  rfl
theorem frz_q16 (H : Heap) (q : Rq) (e : Int) (h : nth H 3 = some (.row (flat cd q.c))) : frz H 0 8 (.tup [.agg (rqR nilS (.slc 3 0 q.c.length 2) q), i64 e]) = some (.tup [.agg (rqR nilS (cdV q.c) q), i64 e]) :=
  frz_tup (k := 7) (by simp only [mapO]; rw [frz_agg (k := 6) (frz_rq (k := 4) h)]; rfl)
theorem le_rqc {q : Rq} (hl : q.l = []) : LeL (rqR nilS (cdV q.c) q) q.C := by
  obtain ⟨k, w, l, g, m, r, key, vn, vt, vb, fr, t, lim, n, c⟩ := q
  dsimp only at hl
  subst hl
  refine ⟨?_, ?_, ?_, ?_, ?_, ?_, ?_, ?_, ?_, ?_, ?_, ?_, ?_, ?_, ?_, True.intro⟩
  all_goals first | exact fun _ _ h => h | exact fun _ _ h => VR_nilView h
def hp16 (j : Nat) (q : Rq) (t : ByteArray) : Heap := match j with
  | 3 => [.row (rqR nilS (.slc 3 0 q.c.length 2) q), .row [i64 0], .row [str t], .row (flat cd q.c)]
  | _ => [.row (rqR nilS nilS q), .row [i64 0], .row [str t]]
structure Up16 (O : Option (Rq × ByteArray)) where
  j : Nat
  q : Rq
  t : ByteArray
  hj : j ≤ 3
  ht : t.size ≤ 1000000
  hq : q.ok
  hc : j < 3 → q.c = []
  hl : q.l = []
  eq : O = fdsP ([4, 5, 9].drop j) q t
theorem belowH_16 (e : Int) (o : AObj) (ho : o = .dead) (q : Rq) (L : List (Int × Nat)) : belowH 4 [.row (rqR nilS (.slc 3 0 L.length 2) q), .row [i64 e], .dead, .row (flat cd L)] = true := by
  have h : belowL 4 (flat cd L) = true := belowL_flat (fun _ => rfl) L
  simp only [belowH, belowO, h]
  rfl
theorem unpack_16 (s : ByteArray) (hs : s.size ≤ 1000000) (s1 : ByteArray) (l1 : List Nat) (k1 : List It) (i : Nat) (hp : begP [98] s = .ok [.mk 16 s1 l1 k1] i) : ACalls Try.prog 34 [str s] [] (UpW (rqP s)) := by
  have hc := spart_ok ⟨#[98]⟩ s (by decide) hs
  rw [show byL ⟨#[98]⟩ = [98] from rfl, hp] at hc
  have hfl := fields_ok (16 : Nat)
  have hsm := ssmall_ok 16 s1 l1 k1 (by omega)
  unfold rqP
  rw [hp]
  dsimp only
  obtain ⟨O, hO⟩ : ∃ O, O = fdsP (fldL (16 : Nat)) (q00 16) (rest s i) := ⟨_, rfl⟩
  rw [← hO]
  have h0 : (0 : Int) ≤ 0 ∧ (0 : Int) < ((1 : Nat) : Int) := by omega
  refine acalls_of_awpU [] hT mixed Try.func34 rfl (by kernel_rfl) (by kernel_rfl) (Nat.le_of_ble_eq_true rfl) ?_
  refine callS hc [2] ⟨.inl rfl, True.intro⟩ rfl ?_
  rintro E G ⟨rfl, rfl⟩ _
  refine ⟨_, _, rfl, rfl, ?_⟩
  refine Ob.intro h0 ?_
  refine callP hsm rfl rfl ?_
  refine callP hfl rfl rfl ?_
  refine loopG (α := Up16 O) (fun z => [(2, .ptr 0 0), (3, .ptr 1 0), (4, .ptr 2 0), (18, fdV [4, 5, 9]), (19, i64 3), (20, i64 (z.j : Nat))]) (fun z => hp16 z.j z.q z.t) [⟨18, [], [.ptr 1 0, i64 4]⟩] (fun z => 3 - z.j) (Up16.mk 0 (q00 16) (rest s i) (Nat.zero_le _) (by rw [rest_size]; omega) (q00_ok 16) (fun _ => rfl) rfl (by rw [List.drop_zero]; exact hO)) [] [0, 1, 2] ⟨⟨rfl, rfl, rfl, rfl, rfl, rfl, True.intro⟩, ⟨.inl rfl, .inl rfl, .inl rfl, True.intro⟩, rfl, rfl, rfl⟩ ?_
  rintro ⟨j, q, t, hj, ht, hq, hqc, hql, eq⟩ K hK
  dsimp only at hj ht hq hqc hql eq ⊢
  have hj' : j = 0 ∨ j = 1 ∨ j = 2 ∨ j = 3 := by omega
  rcases hj' with rfl | rfl | rfl | rfl
  · have hf := field_4 q t ht
    have hcan := fun {q' m} (h : fdA 4 q t = some (q', m)) => fd_can (f := 4) (by omega) h hq
    have hsel : ∀ r q, renO r (.row (rqR nilS nilS q)) = .row (rqR nilS nilS q) := fun r q => rfl
    refine Ob.intro (show (0 : Int) ≤ ((0 : Nat) : Int) ∧ ((0 : Nat) : Int) < ((3 : Nat) : Int) by omega) ?_
    refine callS (H := [.row (rqR nilS nilS q), .row [i64 0], .row [str t]]) hf [2, 0] ⟨.inl rfl, .inl (congrArg some (hsel _ q).symm), True.intro⟩ rfl ?_
    cases hr : fdP 4 q t with
    | none =>
      rw [hr] at hf
      have eq' : O = none := by
        rw [eq]
        show (match fdA 4 q t with | some (q', m) => _ | none => none) = _
        rw [show fdA 4 q t = none from hr]
      subst eq'
      rintro E G ⟨rfl, rfl⟩ _
      refine ⟨_, [.row (rqR nilS nilS q), .row [i64 0], .dead], rfl, by simp only [renH, hsel]; rfl, ?_⟩
      have hle := le_lac (b := false) (fun _ => hql) (hqc (by decide))
      clear hK hf eq hcan hsel hq hql hc hsm hfl hqc
      obtain ⟨k, w, l, g, m, r, key, vn, vt, vb, fr, tt, lim, n, cc⟩ := q
      cases m <;> cases vn <;>
      · refine acallsD_of_rec hT mixed Try.func18 rfl (by kernel_rfl) (by kernel_rfl) rfl rfl rfl (splain) (Nat.le_of_ble_eq_true rfl) ?_
        exact ⟨rfl, [.row (rqR nilS nilS ⟨k, w, l, g, _, r, key, _, vt, vb, fr, tt, lim, n, cc⟩), .row [i64 4], .dead], _, ⟨⟨_, rfl, rfl⟩, ⟨.inl rfl, .inl rfl, .inr rfl, True.intro⟩, Nat.le_of_ble_eq_true rfl, rfl⟩, True.intro, [], .tup [.agg (rqR nilS nilS ⟨k, w, l, g, _, r, key, _, vt, vb, fr, tt, lim, n, cc⟩), i64 4], ⟨⟨_, rfl, rfl⟩, True.intro, Nat.zero_le _, rfl⟩, rfl, _, _, hle, rfl⟩
    | some qm =>
      obtain ⟨q', m⟩ := qm
      rw [hr] at hf
      have eq' : O = fdsP ([4, 5, 9].drop (0 + 1)) q' (rest t m) := by
        rw [eq]
        show (match fdA 4 q t with | some (q', m) => _ | none => none) = _
        rw [show fdA 4 q t = some (q', m) from hr]
        rfl
      obtain ⟨c1, c2, c3, c4, c5, c6⟩ := hcan (show fdA 4 q t = _ from hr)
      rintro E G ⟨rfl, rfl⟩ _
      refine ⟨_, [.row (rqR nilS nilS q'), .row [i64 0], .row [str (rest t m)]], rfl, by simp only [renH, hsel]; rfl, ?_⟩
      exact hK (Up16.mk (0 + 1) q' (rest t m) (by decide) (by rw [rest_size]; omega) c1 (fun _ => (c5 (by decide)).trans (hqc (by decide))) ((c6 (by decide)).trans hql) eq') [] [0, 1, 2] _ rfl ⟨⟨rfl, rfl, rfl, rfl, rfl, congrArg i64 (by rw [wrpE, wi64]; rfl), True.intro⟩, ⟨.inl rfl, .inl rfl, .inl rfl, True.intro⟩, rfl, rfl, rfl⟩
  · have hf := field_5 q t ht
    have hcan := fun {q' m} (h : fdA 5 q t = some (q', m)) => fd_can (f := 5) (by omega) h hq
    have hsel : ∀ r q, renO r (.row (rqR nilS nilS q)) = .row (rqR nilS nilS q) := fun r q => rfl
    refine Ob.intro (show (0 : Int) ≤ ((1 : Nat) : Int) ∧ ((1 : Nat) : Int) < ((3 : Nat) : Int) by omega) ?_
    refine callS (H := [.row (rqR nilS nilS q), .row [i64 0], .row [str t]]) hf [2, 0] ⟨.inl rfl, .inl (congrArg some (hsel _ q).symm), True.intro⟩ rfl ?_
    cases hr : fdP 5 q t with
    | none =>
      rw [hr] at hf
      have eq' : O = none := by
        rw [eq]
        show (match fdA 5 q t with | some (q', m) => _ | none => none) = _
        rw [show fdA 5 q t = none from hr]
      subst eq'
      rintro E G ⟨rfl, rfl⟩ _
      refine ⟨_, [.row (rqR nilS nilS q), .row [i64 0], .dead], rfl, by simp only [renH, hsel]; rfl, ?_⟩
      have hle := le_lac (b := false) (fun _ => hql) (hqc (by decide))
      clear hK hf eq hcan hsel hq hql hc hsm hfl hqc
      obtain ⟨k, w, l, g, m, r, key, vn, vt, vb, fr, tt, lim, n, cc⟩ := q
      cases m <;> cases vn <;>
      · refine acallsD_of_rec hT mixed Try.func18 rfl (by kernel_rfl) (by kernel_rfl) rfl rfl rfl (splain) (Nat.le_of_ble_eq_true rfl) ?_
        exact ⟨rfl, [.row (rqR nilS nilS ⟨k, w, l, g, _, r, key, _, vt, vb, fr, tt, lim, n, cc⟩), .row [i64 4], .dead], _, ⟨⟨_, rfl, rfl⟩, ⟨.inl rfl, .inl rfl, .inr rfl, True.intro⟩, Nat.le_of_ble_eq_true rfl, rfl⟩, True.intro, [], .tup [.agg (rqR nilS nilS ⟨k, w, l, g, _, r, key, _, vt, vb, fr, tt, lim, n, cc⟩), i64 4], ⟨⟨_, rfl, rfl⟩, True.intro, Nat.zero_le _, rfl⟩, rfl, _, _, hle, rfl⟩
    | some qm =>
      obtain ⟨q', m⟩ := qm
      rw [hr] at hf
      have eq' : O = fdsP ([4, 5, 9].drop (1 + 1)) q' (rest t m) := by
        rw [eq]
        show (match fdA 5 q t with | some (q', m) => _ | none => none) = _
        rw [show fdA 5 q t = some (q', m) from hr]
        rfl
      obtain ⟨c1, c2, c3, c4, c5, c6⟩ := hcan (show fdA 5 q t = _ from hr)
      rintro E G ⟨rfl, rfl⟩ _
      refine ⟨_, [.row (rqR nilS nilS q'), .row [i64 0], .row [str (rest t m)]], rfl, by simp only [renH, hsel]; rfl, ?_⟩
      exact hK (Up16.mk (1 + 1) q' (rest t m) (by decide) (by rw [rest_size]; omega) c1 (fun _ => (c5 (by decide)).trans (hqc (by decide))) ((c6 (by decide)).trans hql) eq') [] [0, 1, 2] _ rfl ⟨⟨rfl, rfl, rfl, rfl, rfl, congrArg i64 (by rw [wrpE, wi64]; rfl), True.intro⟩, ⟨.inl rfl, .inl rfl, .inl rfl, True.intro⟩, rfl, rfl, rfl⟩
  · have hf := field_9 q t (hqc (by decide)) ht
    have hcan := fun {q' m} (h : fdA 9 q t = some (q', m)) => fd_can (f := 9) (by omega) h hq
    have hsel : ∀ r q, renO r (.row (rqR nilS nilS q)) = .row (rqR nilS nilS q) := fun r q => rfl
    refine Ob.intro (show (0 : Int) ≤ ((2 : Nat) : Int) ∧ ((2 : Nat) : Int) < ((3 : Nat) : Int) by omega) ?_
    refine callS (H := [.row (rqR nilS nilS q), .row [i64 0], .row [str t]]) hf [2, 0] ⟨.inl rfl, .inl (congrArg some (hsel _ q).symm), True.intro⟩ rfl ?_
    cases hr : fd9 q t with
    | none =>
      rw [hr] at hf
      have eq' : O = none := by
        rw [eq]
        show (match fdA 9 q t with | some (q', m) => _ | none => none) = _
        rw [show fdA 9 q t = none from hr]
      subst eq'
      rintro E G ⟨rfl, ca, Gs, h | h, rfl⟩ _
      · obtain ⟨rfl, rfl⟩ := h
        refine ⟨_, [.row (rqR nilS nilS q), .row [i64 0], .dead], rfl, by simp only [renH, hsel]; rfl, ?_⟩
        have hle := le_lac (b := false) (fun _ => hql) (hqc (by decide))
        clear hK hf eq hcan hsel hq hql hc hsm hfl hqc
        obtain ⟨k, w, l, g, m, r, key, vn, vt, vb, fr, tt, lim, n, cc⟩ := q
        cases m <;> cases vn <;>
        · refine acallsD_of_rec hT mixed Try.func18 rfl (by kernel_rfl) (by kernel_rfl) rfl rfl rfl (splain) (Nat.le_of_ble_eq_true rfl) ?_
          exact ⟨rfl, [.row (rqR nilS nilS ⟨k, w, l, g, _, r, key, _, vt, vb, fr, tt, lim, n, cc⟩), .row [i64 4], .dead], _, ⟨⟨_, rfl, rfl⟩, ⟨.inl rfl, .inl rfl, .inr rfl, True.intro⟩, Nat.le_of_ble_eq_true rfl, rfl⟩, True.intro, [], .tup [.agg (rqR nilS nilS ⟨k, w, l, g, _, r, key, _, vt, vb, fr, tt, lim, n, cc⟩), i64 4], ⟨⟨_, rfl, rfl⟩, True.intro, Nat.zero_le _, rfl⟩, rfl, _, _, hle, rfl⟩
      · obtain ⟨cc, rfl, rfl⟩ := h
        refine ⟨_, [.row (rqR nilS (.slc 3 0 cc.length 2) q), .row [i64 0], .dead, .row (flat cd cc)], rfl, by simp only [renH, renO_cd]; rfl, ?_⟩
        obtain ⟨k, w, l, g, m, r, key, vn, vt, vb, fr, tt, lim, n, cc0⟩ := q
        have hle := le_rqc (q := ⟨k, w, l, g, m, r, key, vn, vt, vb, fr, tt, lim, n, cc⟩) hql
        clear hK hf eq hcan hsel hq hql hc hsm hfl hqc
        cases m <;> cases vn <;>
        · refine acallsD_of_rec hT mixed Try.func18 rfl (by kernel_rfl) (by kernel_rfl) rfl rfl rfl (splain) (Nat.le_of_ble_eq_true rfl) ?_
          refine ⟨rfl, [.row (rqR nilS (.slc 3 0 cc.length 2) ⟨k, w, l, g, _, r, key, _, vt, vb, fr, tt, lim, n, cc⟩), .row [i64 4], .dead, .row (flat cd cc)], _, ⟨⟨_, rfl, rfl⟩, ⟨.inl rfl, .inl rfl, .inr rfl, .inl rfl, True.intro⟩, Nat.le_of_ble_eq_true rfl, belowH_16 4 .dead rfl _ cc⟩, True.intro, [], .tup [.agg (rqR nilS (cdV cc) ⟨k, w, l, g, _, r, key, _, vt, vb, fr, tt, lim, n, cc⟩), i64 4], ⟨⟨_, rfl, ?_⟩, True.intro, Nat.zero_le _, rfl⟩, rfl, ⟨k, w, l, g, _, r, key, _, vt, vb, fr, tt, lim, n, cc⟩, _, hle, rfl⟩
          exact frz_q16 _ ⟨k, w, l, g, _, r, key, _, vt, vb, fr, tt, lim, n, cc⟩ 4 rfl
    | some qm =>
      obtain ⟨q', m⟩ := qm
      rw [hr] at hf
      have eq' : O = fdsP ([4, 5, 9].drop 3) q' (rest t m) := by
        rw [eq]
        show (match fdA 9 q t with | some (q', m) => _ | none => none) = _
        rw [show fdA 9 q t = some (q', m) from hr]
        rfl
      obtain ⟨c1, c2, c3, c4, c5, c6⟩ := hcan (show fdA 9 q t = _ from hr)
      rintro E G ⟨rfl, rfl⟩ _
      refine ⟨_, [.row (rqR nilS (.slc 3 0 q'.c.length 2) q'), .row [i64 0], .row [str (rest t m)], .row (flat cd q'.c)], rfl, by simp only [renH, renO_cd]; rfl, ?_⟩
      refine hK (Up16.mk 3 q' (rest t m) (by decide) (by rw [rest_size]; omega) c1 (fun h => absurd h (by decide)) ((c6 (by decide)).trans hql) eq') [] [0, 1, 2, 3] _ rfl ⟨⟨rfl, rfl, rfl, rfl, rfl, congrArg i64 (by rw [wrpE, wi64]; rfl), True.intro⟩, ?_, rfl, rfl, rfl⟩
      refine (show Sel _ _ [0, 1, 2, 3] [.row (rqR nilS (.slc 3 0 q'.c.length 2) q'), .row [i64 0], .row [str (rest t m)], .row (flat cd q'.c)] from ?_)
      refine ⟨.inl rfl, .inl rfl, .inl rfl, .inl ?_, True.intro⟩
      exact congrArg some (renO_cd _ _).symm
  · have eq' : O = some (q, t) := eq
    subst eq'
    dsimp only
    have hle := le_rqc hql
    have hR := argsLe (cs := [.agg (rqR nilS (cdV q.c) q)]) (ds := [.agg q.C]) ⟨fun X v hv => VR_agLe hle hv, True.intro⟩ (rqright_ok q hq)
    have hz := strEq_nilS t
    clear hK eq hq hql hc hsm hfl
    have hfa : ∀ (H : Heap), nth H 3 = some (.row (flat cd q.c)) → mapO (frz H 0 8) [.agg (rqR nilS (.slc 3 0 q.c.length 2) q)] = some [.agg (rqR nilS (cdV q.c) q)] := fun H h => by
      simp only [mapO]
      rw [frz_agg (k := 7) (frz_rq (k := 5) h)]
    by_cases h1 : t.size = 0
    · rw [decide_eq_true h1] at hz
      cases hb : rqB q with
      | true =>
        rw [hb] at hR
        rw [if_pos ⟨h1, rfl⟩]
        clear hb hqc
        obtain ⟨k, w, l, g, m, r, key, vn, vt, vb, fr, tt, lim, n, cc⟩ := q
        cases m <;> cases vn <;>
        · refine fork (fun _ => ?_) (fun g => absurd hz (by rw [g]; decide))
          refine callF hR (hfa _ rfl) rfl ?_
          refine callP smust_yes rfl rfl ?_
          refine acallsD_of_rec hT mixed Try.func18 rfl (by kernel_rfl) (by kernel_rfl) rfl rfl rfl (fun u b h => by cases h) (Nat.le_of_ble_eq_true rfl) ?_
          refine ⟨rfl, [.row (rqR nilS (.slc 3 0 cc.length 2) ⟨k, w, l, g, _, r, key, _, vt, vb, fr, tt, lim, n, cc⟩), .row [i64 0], .dead, .row (flat cd cc)], _, ⟨⟨_, rfl, rfl⟩, ⟨.inl rfl, .inl rfl, .inr rfl, .inl rfl, True.intro⟩, Nat.le_of_ble_eq_true rfl, belowH_16 0 .dead rfl _ cc⟩, True.intro, [], .tup [.agg (rqR nilS (cdV cc) ⟨k, w, l, g, _, r, key, _, vt, vb, fr, tt, lim, n, cc⟩), i64 0], ⟨⟨_, rfl, ?_⟩, True.intro, Nat.zero_le _, rfl⟩, rfl, _, hle, rfl⟩
          exact frz_q16 _ ⟨k, w, l, g, _, r, key, _, vt, vb, fr, tt, lim, n, cc⟩ 0 rfl
      | false =>
        rw [hb] at hR
        rw [if_neg (fun hh => by cases hh.2)]
        clear hb hqc
        obtain ⟨k, w, l, g, m, r, key, vn, vt, vb, fr, tt, lim, n, cc⟩ := q
        cases m <;> cases vn <;>
        · refine fork (fun _ => ?_) (fun g => absurd hz (by rw [g]; decide))
          refine callF hR (hfa _ rfl) rfl ?_
          refine callBad smust_no rfl ?_
          refine acallsD_of_rec hT mixed Try.func18 rfl (by kernel_rfl) (by kernel_rfl) rfl rfl rfl (splain) (Nat.le_of_ble_eq_true rfl) ?_
          refine ⟨rfl, [.row (rqR nilS (.slc 3 0 cc.length 2) ⟨k, w, l, g, _, r, key, _, vt, vb, fr, tt, lim, n, cc⟩), .row [i64 4], .dead, .row (flat cd cc)], _, ⟨⟨_, rfl, rfl⟩, ⟨.inl rfl, .inl rfl, .inr rfl, .inl rfl, True.intro⟩, Nat.le_of_ble_eq_true rfl, belowH_16 4 .dead rfl _ cc⟩, True.intro, [], .tup [.agg (rqR nilS (cdV cc) ⟨k, w, l, g, _, r, key, _, vt, vb, fr, tt, lim, n, cc⟩), i64 4], ⟨⟨_, rfl, ?_⟩, True.intro, Nat.zero_le _, rfl⟩, rfl, ⟨k, w, l, g, _, r, key, _, vt, vb, fr, tt, lim, n, cc⟩, _, hle, rfl⟩
          exact frz_q16 _ ⟨k, w, l, g, _, r, key, _, vt, vb, fr, tt, lim, n, cc⟩ 4 rfl
    · rw [decide_eq_false h1] at hz
      rw [if_neg (fun hh => h1 hh.1)]
      clear hqc
      obtain ⟨k, w, l, g, m, r, key, vn, vt, vb, fr, tt, lim, n, cc⟩ := q
      cases m <;> cases vn <;>
      · refine fork (fun g => absurd hz (by rw [g]; decide)) (fun _ => ?_)
        refine callBad smust_no rfl ?_
        refine acallsD_of_rec hT mixed Try.func18 rfl (by kernel_rfl) (by kernel_rfl) rfl rfl rfl (splain) (Nat.le_of_ble_eq_true rfl) ?_
        refine ⟨rfl, [.row (rqR nilS (.slc 3 0 cc.length 2) ⟨k, w, l, g, _, r, key, _, vt, vb, fr, tt, lim, n, cc⟩), .row [i64 4], .dead, .row (flat cd cc)], _, ⟨⟨_, rfl, rfl⟩, ⟨.inl rfl, .inl rfl, .inr rfl, .inl rfl, True.intro⟩, Nat.le_of_ble_eq_true rfl, belowH_16 4 .dead rfl _ cc⟩, True.intro, [], .tup [.agg (rqR nilS (cdV cc) ⟨k, w, l, g, _, r, key, _, vt, vb, fr, tt, lim, n, cc⟩), i64 4], ⟨⟨_, rfl, ?_⟩, True.intro, Nat.zero_le _, rfl⟩, rfl, ⟨k, w, l, g, _, r, key, _, vt, vb, fr, tt, lim, n, cc⟩, _, hle, rfl⟩
        exact frz_q16 _ ⟨k, w, l, g, _, r, key, _, vt, vb, fr, tt, lim, n, cc⟩ 4 rfl
end Go.Proofs.Ytgchhmfobkcnfaa.A

namespace Go.Proofs.Ytgchhmfobkcnfaa.A
open Go
set_option linter.unusedVariables false
set_option linter.unusedSimpArgs false
set_option maxRecDepth 100000
set_option pp.maxSteps 400

theorem field_gen {y : Nat} (hy : y = 0 ∨ y = 2 ∨ y = 3 ∨ y = 4 ∨ y = 5 ∨ y = 6 ∨ y = 8) (q : Rq) (t : ByteArray) (ht : t.size ≤ 1000000) : ACalls Try.prog 59 [.ptr 0 0, .ptr 1 0, i64 (y : Nat)] [.row [str t], .row (rqR nilS nilS q)] (FdR nilS (fun _ => nilS) q (fdP y q t) t) := by
  rcases hy with rfl | rfl | rfl | rfl | rfl | rfl | rfl
  · exact field_0 q t ht
  · exact field_2 q t ht
  · exact field_3 q t ht
  · exact field_4 q t ht
  · exact field_5 q t ht
  · exact field_6 q t ht
  · exact field_8 q t ht
theorem fldL_gen {n y : Nat} (h3 : n ≠ 3) (h11 : n ≠ 11) (h17 : n ≠ 17) (h16 : n ≠ 16) (h : y ∈ fldL (n : Nat)) : y = 0 ∨ y = 2 ∨ y = 3 ∨ y = 4 ∨ y = 5 ∨ y = 6 ∨ y = 8 := by
  unfold fldL at h
  repeat' split at h
  all_goals simp at h
  all_goals omega
theorem unpack_any (s : ByteArray) (hs : s.size ≤ 1000000) (n : Nat) (s1 : ByteArray) (l1 : List Nat) (k1 : List It) (i : Nat) (hp : begP [98] s = .ok [.mk n s1 l1 k1] i) (hn : n ≤ 255) : ACalls Try.prog 34 [str s] [] (UpW (rqP s)) := by
  by_cases h16 : n = 16
  · subst h16
    exact unpack_16 s hs s1 l1 k1 i hp
  · by_cases h3 : n = 3
    · subst h3
      refine unpack_gen s hs 3 s1 l1 k1 i hp hn (fun j => Nat.ble 1 j) rfl fun j y hy => ?_
      match j, hy with
      | 0, hy =>
        cases hy
        exact ⟨by decide, (fun h => by cases h), fun q t ht => field_1 q t ht⟩
      | j + 1, hy => cases hy
    · by_cases h11 : n = 11 ∨ n = 17
      · refine unpack_gen s hs n s1 l1 k1 i hp hn (fun j => Nat.ble 1 j) rfl fun j y hy => ?_
        have hL : fldL (n : Nat) = [1, 7] := by rcases h11 with rfl | rfl <;> rfl
        rw [hL] at hy
        match j, hy with
        | 0, hy =>
          cases hy
          exact ⟨by decide, (fun h => by cases h), fun q t ht => field_1 q t ht⟩
        | 1, hy =>
          cases hy
          exact ⟨by decide, (fun h => by cases h), fun q t ht => field_7 q t ht⟩
        | j + 2, hy => cases hy
      · refine unpack_gen s hs n s1 l1 k1 i hp hn (fun _ => false) rfl fun j y hy => ?_
        have hg := fldL_gen h3 (fun e => h11 (.inl e)) (fun e => h11 (.inr e)) h16 (List.mem_of_getElem? hy)
        exact ⟨by omega, fun _ => ⟨rfl, by omega⟩, fun q t ht => field_gen hg q t ht⟩
theorem unpack_ok20 (s : ByteArray) (hs : s.size ≤ 1000000) : ACalls Try.prog 34 [str s] [] (UpR (rqP s)) := by
  refine up_weak ?_
  cases hp : begP [98] s with
  | ok l i =>
    obtain ⟨n, s1, l1, k1, rfl⟩ := beg_1 sh_1b hp
    exact unpack_any s hs n s1 l1 k1 i hp (oneP98_inv (can_1 sh_1b hp).1).2
  | err e =>
    have hc := spart_ok ⟨#[98]⟩ s (by decide) hs
    rw [show byL ⟨#[98]⟩ = [98] from rfl, hp] at hc
    unfold rqP
    rw [hp]
    have hle := le_lac (b := false) (q := q00 0) (fun _ => rfl) rfl
    refine acalls_of_awpU [] hT mixed Try.func34 rfl (by kernel_rfl) (by kernel_rfl) (Nat.le_of_ble_eq_true rfl) ?_
    refine callS hc [2] ⟨.inl rfl, True.intro⟩ rfl ?_
    rintro E G ⟨rfl, rfl⟩ _
    refine ⟨_, _, rfl, rfl, ?_⟩
    refine acallsD_of_rec hT mixed Try.func18 rfl (by kernel_rfl) (by kernel_rfl) rfl rfl rfl (splain) (Nat.le_of_ble_eq_true rfl) ?_
    exact ⟨rfl, [.row (rqR nilS nilS (q00 0)), .row [i64 4], .dead], _, ⟨⟨_, rfl, rfl⟩, ⟨.inl rfl, .inl rfl, .inl rfl, True.intro⟩, Nat.le_of_ble_eq_true rfl, rfl⟩, True.intro, [], .tup [.agg (rqR nilS nilS (q00 0)), i64 4], ⟨⟨_, rfl, rfl⟩, True.intro, Nat.zero_le _, rfl⟩, rfl, _, _, hle, rfl⟩
def rqA (o : Option Rq) : AV := match o with
  | some q => .tup [.agg q.C, i64 0]
  | none => .tup [.agg (q00 0).C, i64 4]
theorem unpackU20_ok (s : ByteArray) (hs : s.size ≤ 1000000) : ACalls Try.prog 11 [str s] [] (Ret (rqA (rqP s))) := by
  have hc := unpack_ok20 s hs
  cases hu : rqP s with
  | none =>
    rw [hu] at hc
    have hle := le_lac (b := false) (q := q00 0) (fun _ => rfl) rfl
    refine ACalls.weakR (R := fun E G => E = .ret (.tup [.agg (rqR nilS nilS (q00 0)), i64 4]) ∧ G = []) ?_ (by
      rintro E G ⟨rfl, rfl⟩
      exact ⟨_, ⟨rfl, rfl⟩, EndR_tup1 fun X v hv => VR_agLe hle hv⟩)
    refine acalls_of_awp hT mixed Try.func11 rfl (by kernel_rfl) (by kernel_rfl) (Nat.le_of_ble_eq_true rfl) ?_
    refine callS hc [] True.intro rfl ?_
    rintro E G ⟨rfl, q, rfl⟩ _
    obtain ⟨k, w, l, g, m, r, key, vn, vt, vb, fr, tt, lim, n, c⟩ := q
    refine ⟨_, _, rfl, rfl, ?_⟩
    cases m <;> cases vn <;>
    exact ⟨rfl, [], .tup [.agg (rqR nilS nilS (q00 0)), i64 4], ⟨⟨_, rfl, rfl⟩, True.intro, Nat.zero_le _, rfl⟩, rfl, rfl⟩
  | some q =>
    rw [hu] at hc
    obtain ⟨k, w, l, g, m, r, key, vn, vt, vb, fr, tt, lim, n, c⟩ := q
    cases m <;> cases vn <;>
    · refine acalls_of_awp hT mixed Try.func11 rfl (by kernel_rfl) (by kernel_rfl) (Nat.le_of_ble_eq_true rfl) ?_
      refine callS hc [] True.intro rfl ?_
      rintro E G ⟨rfl, rfl⟩ _
      refine ⟨_, _, rfl, rfl, ?_⟩
      exact ⟨rfl, [], (rqA (some _)), ⟨⟨_, rfl, rfl⟩, True.intro, Nat.zero_le _, rfl⟩, rfl, rfl⟩
end Go.Proofs.Ytgchhmfobkcnfaa.A
