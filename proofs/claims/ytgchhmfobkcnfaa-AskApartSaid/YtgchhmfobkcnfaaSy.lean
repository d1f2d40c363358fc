/- ask: which responses may be. No condition. -/
import Derived.Test.YtgchhmfobkcnfaaSw
namespace Go.Proofs.Ytgchhmfobkcnfaa.A
open Go
set_option linter.unusedVariables false
set_option linter.unusedSimpArgs false
set_option maxRecDepth 100000
set_option pp.maxSteps 400

/-- A row of a response; a response. -/
structure Rw where
  r : Int
  k : ByteArray
  n : Bool
  t : ByteArray
  b : Nat
structure Rp where
  c : Int
  n : Nat
  h : Bool
  vn : Bool
  vt : ByteArray
  vb : Nat
  L : List Rw
  tc : Int
  ts : Nat
  tl : Nat
  tm : Nat
  te : Nat
def rwC (w : Rw) : List AV := [i64 w.r, str w.k, bo w.n, str w.t, u64n w.b]
theorem rwC_len (w : Rw) : (rwC w).length = 5 := rfl
def rwV (L : List Rw) : AV := .view L.length (flat rwC L)
def Rp.C (p : Rp) : List AV := [i64 p.c, u64n p.n, bo p.h, bo p.vn, str p.vt, u64n p.vb, rwV p.L, i64 p.tc, u64n p.ts, u64n p.tl, u64n p.tm, u64n p.te]
/-- What the machine's words bear. -/
structure Rp.ok (p : Rp) : Prop where
  n : p.n < 18446744073709551616
  vb : p.vb < 18446744073709551616
  L : p.L.length < 4611686018427387904
  b : ∀ w ∈ p.L, w.b < 18446744073709551616
  ts : p.ts < 18446744073709551616
  tl : p.tl < 18446744073709551616
  tm : p.tm < 18446744073709551616
  te : p.te < 18446744073709551616
def fitsB (w : Rw) : Bool := decide (0 ≤ w.r ∧ w.r ≤ 2147483647) && (decide (w.k.size ≤ 200) && rightV w.n w.t w.b)
theorem fits_ok (w : Rw) : ACalls Try.prog 68 [.agg (rwC w)] [] (Ret (bo (fitsB w))) := by
  have h1 := swithin_ok w.r 0 2147483647
  have h2 := vright_ok w.n w.t w.b
  unfold fitsB
  obtain ⟨r, k, n, t, b⟩ := w
  dsimp only at h1 h2 ⊢
  generalize decide (0 ≤ r ∧ r ≤ 2147483647) = z1 at h1 ⊢
  generalize rightV n t b = z2 at h2 ⊢
  cases z1 with
  | false =>
    refine acalls_of_awp hT mixed Try.func68 rfl (by kernel_rfl) (by kernel_rfl) (Nat.le_of_ble_eq_true rfl) ?_
    refine callP h1 rfl rfl ?_
    refine end0 rfl rfl rfl rfl
  | true =>
    cases z2 <;>
    · refine acalls_of_awp hT mixed Try.func68 rfl (by kernel_rfl) (by kernel_rfl) (Nat.le_of_ble_eq_true rfl) ?_
      refine callP h1 rfl rfl ?_
      refine forkD (fun a => ?_) (fun a => ?_)
      · rw [decide_eq_true (show k.size ≤ 200 by have : (k.size : Int) ≤ 200 := a; omega)]
        refine callP h2 rfl rfl ?_
        refine end0 rfl rfl rfl rfl
      · rw [decide_eq_false (show ¬ k.size ≤ 200 by have : ¬ (k.size : Int) ≤ 200 := a; omega)]
        refine end0 rfl rfl rfl rfl
theorem odd_ok (w : Rw) : ACalls Try.prog 67 [.agg (rwC w)] [] (Ret (bo (!fitsB w))) := by
  have h1 := fits_ok w
  generalize fitsB w = z at h1 ⊢
  obtain ⟨r, k, n, t, b⟩ := w
  cases z <;>
  · refine acalls_of_awp hT mixed Try.func67 rfl (by kernel_rfl) (by kernel_rfl) (Nat.le_of_ble_eq_true rfl) ?_
    refine callP h1 rfl rfl ?_
    refine end0 rfl rfl rfl rfl
def oddF : AV := .fn (.func 67) []
theorem sindex_ok (L : List Rw) (hl : L.length < 4611686018427387904) : ACalls Try.prog 90 [rwV L, oddF] [] (fun E G => ∃ v, (∃ i : Int, v = i64 i ∧ (i ≥ 0 ↔ ∃ x ∈ L, fitsB x = false)) ∧ E = .ret v ∧ G = []) := by
  refine acalls_of_awp hT mixed Try.func90 rfl (by kernel_rfl) (by kernel_rfl) (Nat.le_of_ble_eq_true rfl) ?_
  refine loopI (α := { j : Nat // j ≤ L.length ∧ ∀ x ∈ L.take j, fitsB x = true }) (fun x => [(0, rwV L), (1, oddF), (7, i64 L.length), (8, i64 (x.val : Nat))]) (fun _ => []) (fun x => L.length - x.val) ⟨0, Nat.zero_le _, by simp⟩ [] ⟨⟨rfl, rfl, rfl, rfl, True.intro⟩, True.intro, rfl, rfl, rfl⟩ ?_
  rintro ⟨j, hj, hall⟩ K hK
  have hinc : wrp .i64 ((j : Int) + 1) = ((j + 1 : Nat) : Int) := by rw [wrpE, wi64]; omega
  refine forkD (fun a => ?_) (fun a => ?_)
  · have h' : j < L.length := by have : (j : Int) < (L.length : Int) := a; omega
    obtain ⟨y, hy⟩ : ∃ y, L[j]? = some y := ⟨_, List.getElem?_eq_getElem h'⟩
    have hik : (0 : Int) ≤ (j : Nat) ∧ ((j : Nat) : Int) < (L.length : Nat) := by omega
    have ct := flat_takeN rwC_len hy
    have ho := odd_ok y
    have htk := take_snocA hy
    have hym := List.mem_of_getElem? hy
    generalize hz : fitsB y = z at ho
    obtain ⟨r, k, n, t, b⟩ := y
    refine Ob.intro hik ?_
    refine optK_intro ct ?_
    cases z with
    | false =>
      refine callP ho rfl rfl ?_
      refine endE rfl rfl rfl ⟨(j : Nat), rfl, ⟨fun _ => ⟨_, hym, hz⟩, fun _ => by omega⟩⟩
    | true =>
      refine callP ho rfl rfl ?_
      refine hK ⟨j + 1, h', ?_⟩ [] _ (show L.length - j = L.length - (j + 1) + 1 by omega) ⟨⟨rfl, rfl, rfl, congrArg i64 hinc, True.intro⟩, True.intro, rfl, rfl, rfl⟩
      rw [htk]
      intro x hxm
      rcases List.mem_append.1 hxm with hxm | hxm
      · exact hall x hxm
      · rw [List.mem_singleton.1 hxm]; exact hz
  · have h' : j = L.length := by have : ¬ (j : Int) < (L.length : Int) := a; omega
    rw [h', List.take_length] at hall
    refine endE rfl rfl rfl ⟨-1, rfl, ⟨fun hh => by omega, fun ⟨x, hxm, hb⟩ => by rw [hall x hxm] at hb; cases hb⟩⟩
theorem scontains_ok (L : List Rw) (hl : L.length < 4611686018427387904) : ACalls Try.prog 70 [rwV L, oddF] [] (Ret (bo (!L.all fitsB))) := by
  have hall : L.all fitsB = false ↔ ∃ x ∈ L, fitsB x = false := by rw [List.all_eq_false]; simp
  refine acalls_of_awp hT mixed Try.func70 rfl (by kernel_rfl) (by kernel_rfl) (Nat.le_of_ble_eq_true rfl) ?_
  refine callE (sindex_ok L hl) rfl (fun v hv => by obtain ⟨i, rfl, _⟩ := hv; rfl) ?_
  rintro v ⟨i, rfl, hi⟩
  refine forkD (fun h => ?_) (fun h => ?_)
  · refine end0 rfl rfl rfl (congrArg bo ?_)
    rw [hall.2 (hi.1 h)]
    rfl
  · refine end0 rfl rfl rfl (congrArg bo ?_)
    cases hq : L.all fitsB
    · exact absurd (hi.2 (hall.1 hq)) h
    · rfl
theorem sequal_nil (L : List Rw) : ACalls Try.prog 89 [rwV L, nilS] [] (Ret (bo (decide (L.length = 0)))) := by
  cases L with
  | nil =>
    refine acalls_of_awp hT mixed Try.func89 rfl (by kernel_rfl) (by kernel_rfl) (Nat.le_of_ble_eq_true rfl) ?_
    refine loopI (α := Unit) (fun z => [(12, i64 0), (13, i64 0)]) (fun _ => []) (fun _ => 0) () [] ⟨⟨rfl, rfl, True.intro⟩, True.intro, rfl, rfl, rfl⟩ ?_
    rintro ⟨⟩ K hK
    refine end0 rfl rfl rfl rfl
  | cons x L =>
    rw [decide_eq_false (show ¬ (x :: L).length = 0 by simp)]
    have hne : (((x :: L).length : Nat) : Int) ≠ 0 := by rw [List.length_cons]; omega
    generalize x :: L = M at hne ⊢
    refine acalls_of_awp hT mixed Try.func89 rfl (by kernel_rfl) (by kernel_rfl) (Nat.le_of_ble_eq_true rfl) ?_
    refine fork (fun _ => ?_) (fun g => absurd (bne_eq_false_iff_eq.1 g) hne)
    refine end0 rfl rfl rfl rfl
def zeroT (p : Rp) : Bool := (p.tc == 0) && (((p.ts : Int) == 0) && (((p.tl : Int) == 0) && (((p.tm : Int) == 0) && (((p.te : Int) == 0) && true))))
/-- Is all but the code nothing? -/
def zeroP (p : Rp) : Bool := ((p.n : Int) == 0) && ((!p.h) && (zeroV p.vn p.vt p.vb && (zeroT p && decide (p.L.length = 0))))
def rp0 (c : Int) : List AV := [i64 c, u64 0, bo false, bo false, str ⟨#[]⟩, u64 0, nilS, i64 0, u64 0, u64 0, u64 0, u64 0]
theorem ssame_ok (p : Rp) : ACalls Try.prog 69 [.agg p.C, .agg (rp0 p.c)] [] (Ret (bo (zeroP p))) := by
  have he := sequal_nil p.L
  obtain ⟨O, hO⟩ : ∃ O, O = zeroP p := ⟨_, rfl⟩
  rw [← hO]
  unfold zeroP at hO
  generalize decide (p.L.length = 0) = z at he hO
  unfold zeroT at hO
  obtain ⟨c, n, h, vn, vt, vb, L, tc, ts, tl, tm, te⟩ := p
  dsimp only at he hO
  cases z <;> cases h <;>
  · refine acalls_of_awp hT mixed Try.func69 rfl (by kernel_rfl) (by kernel_rfl) (Nat.le_of_ble_eq_true rfl) ?_
    refine fork (fun _ => ?_) (fun g => absurd rfl (beq_eq_false_iff_ne.1 g))
    refine fork (fun g1 => ?_) (fun g1 => ?_)
    rotate_left
    · rw [hO, g1]
      refine end0 rfl rfl rfl rfl
    rw [g1] at hO
    first
      | (refine fork (fun g2 => ?_) (fun g2 => ?_)
         rotate_left
         · rw [hO, show zeroV vn vt vb = false from g2]
           refine end0 rfl rfl rfl rfl
         rw [show zeroV vn vt vb = true from g2] at hO
         refine fork (fun g3 => ?_) (fun g3 => ?_)
         rotate_left
         · rw [hO, g3]
           refine end0 rfl rfl rfl rfl
         rw [g3] at hO
         rw [hO]
         refine callP he rfl rfl ?_
         refine end0 rfl rfl rfl rfl)
      | (rw [hO]
         refine end0 rfl rfl rfl rfl)
end Go.Proofs.Ytgchhmfobkcnfaa.A

namespace Go.Proofs.Ytgchhmfobkcnfaa.A
open Go
set_option linter.unusedVariables false
set_option linter.unusedSimpArgs false
set_option maxRecDepth 100000
set_option pp.maxSteps 400

def FitsB (p : Rp) : Bool := if p.c < 0 ∨ 20 < p.c then false else if p.c = 0 then rightV p.vn p.vt p.vb && ((p.h || zeroV p.vn p.vt p.vb) && (decide (p.L.length ≤ 64) && (p.L.all fitsB && decide (0 ≤ p.tc ∧ p.tc ≤ 2147483647)))) else zeroP p
theorem sfits_ok (p : Rp) (hl : p.L.length < 4611686018427387904) : ACalls Try.prog 44 [.agg p.C] [] (Ret (bo (FitsB p))) := by
  have hs := ssame_ok p
  have hv := vright_ok p.vn p.vt p.vb
  have hc := scontains_ok p.L hl
  have hw := swithin_ok p.tc 0 2147483647
  obtain ⟨O, hO⟩ : ∃ O, O = FitsB p := ⟨_, rfl⟩
  rw [← hO]
  unfold FitsB at hO
  generalize zeroP p = zs at hs hO
  generalize rightV p.vn p.vt p.vb = zv at hv hO
  generalize p.L.all fitsB = za at hc hO
  generalize decide (0 ≤ p.tc ∧ p.tc ≤ 2147483647) = zw at hw hO
  obtain ⟨c, n, h, vn, vt, vb, L, tc, ts, tl, tm, te⟩ := p
  dsimp only at hs hv hc hw hO hl
  by_cases h1 : c < 0
  · rw [hO, if_pos (.inl h1)]
    refine acalls_of_awp hT mixed Try.func44 rfl (by kernel_rfl) (by kernel_rfl) (Nat.le_of_ble_eq_true rfl) ?_
    refine forkD (fun _ => ?_) (fun g => absurd h1 g)
    refine end0 rfl rfl rfl rfl
  by_cases h2 : 20 < c
  · rw [hO, if_pos (.inr h2)]
    refine acalls_of_awp hT mixed Try.func44 rfl (by kernel_rfl) (by kernel_rfl) (Nat.le_of_ble_eq_true rfl) ?_
    refine forkD (fun g => absurd g h1) (fun _ => ?_)
    refine forkD (fun _ => ?_) (fun g => absurd h2 g)
    refine end0 rfl rfl rfl rfl
  rw [if_neg (fun hh => hh.elim h1 h2)] at hO
  by_cases h3 : c = 0
  · subst h3
    rw [if_pos rfl] at hO
    cases zv with
    | false =>
      rw [hO]
      refine acalls_of_awp hT mixed Try.func44 rfl (by kernel_rfl) (by kernel_rfl) (Nat.le_of_ble_eq_true rfl) ?_
      refine callP hv rfl rfl ?_
      refine end0 rfl rfl rfl rfl
    | true =>
      have hO : O = ((h || zeroV vn vt vb) && (decide (L.length ≤ 64) && (za && zw))) := hO
      cases za <;> cases zw <;> cases h <;>
      · refine acalls_of_awp hT mixed Try.func44 rfl (by kernel_rfl) (by kernel_rfl) (Nat.le_of_ble_eq_true rfl) ?_
        refine callP hv rfl rfl ?_
        first
          | (refine fork (fun g => ?_) (fun g => ?_)
             rotate_left
             · rw [hO, show zeroV vn vt vb = false from g]
               refine end0 rfl rfl rfl rfl
             rw [show zeroV vn vt vb = true from g] at hO
             refine forkD (fun a => ?_) (fun a => ?_)
             rotate_left
             · rw [hO, decide_eq_false (show ¬ L.length ≤ 64 by have : ¬ (L.length : Int) ≤ 64 := a; omega)]
               refine end0 rfl rfl rfl rfl
             rw [decide_eq_true (show L.length ≤ 64 by have : (L.length : Int) ≤ 64 := a; omega)] at hO
             rw [hO]
             refine callP hc rfl rfl ?_
             first
               | (refine callP hw rfl rfl ?_
                  refine end0 rfl rfl rfl rfl)
               | (refine end0 rfl rfl rfl rfl))
          | (refine forkD (fun a => ?_) (fun a => ?_)
             rotate_left
             · rw [hO, decide_eq_false (show ¬ L.length ≤ 64 by have : ¬ (L.length : Int) ≤ 64 := a; omega)]
               refine end0 rfl rfl rfl rfl
             rw [decide_eq_true (show L.length ≤ 64 by have : (L.length : Int) ≤ 64 := a; omega)] at hO
             rw [hO]
             refine callP hc rfl rfl ?_
             first
               | (refine callP hw rfl rfl ?_
                  refine end0 rfl rfl rfl rfl)
               | (refine end0 rfl rfl rfl rfl))
  · rw [if_neg h3] at hO
    rw [hO]
    cases zs <;>
    · refine acalls_of_awp hT mixed Try.func44 rfl (by kernel_rfl) (by kernel_rfl) (Nat.le_of_ble_eq_true rfl) ?_
      refine forkD (fun g => absurd g h1) (fun _ => ?_)
      refine forkD (fun g => absurd g h2) (fun _ => ?_)
      refine fork (fun _ => ?_) (fun g => absurd (bne_eq_false_iff_eq.1 g) h3)
      refine callP hs rfl rfl ?_
      refine end0 rfl rfl rfl rfl
/-- Whether a response is far: some bool. -/
theorem sfar_ok (p : Rp) (hl : p.L.length < 4611686018427387904) : ACalls Try.prog 15 [.agg p.C] [] (fun E G => ∃ v, (∃ b : Bool, v = bo b) ∧ E = .ret v ∧ G = []) := by
  obtain ⟨c, n, h, vn, vt, vb, L, tc, ts, tl, tm, te⟩ := p
  dsimp only at hl
  refine acalls_of_awp hT mixed Try.func15 rfl (by kernel_rfl) (by kernel_rfl) (Nat.le_of_ble_eq_true rfl) ?_
  refine forkD (fun _ => ?_) (fun _ => ?_)
  · refine endE rfl rfl rfl ⟨_, rfl⟩
  refine forkD (fun _ => ?_) (fun _ => ?_)
  · refine endE rfl rfl rfl ⟨_, rfl⟩
  refine loopI (α := { j : Nat // j ≤ L.length }) (fun x => [(1, .ptr 0 0), (3, i64 (x.val : Nat))]) (fun _ => [.row (Rp.C ⟨c, n, h, vn, vt, vb, L, tc, ts, tl, tm, te⟩)]) (fun x => L.length - x.val) ⟨0, Nat.zero_le _⟩ [0] ⟨⟨rfl, rfl, True.intro⟩, ⟨.inl rfl, True.intro⟩, rfl, rfl, rfl⟩ ?_
  rintro ⟨j, hj⟩ K hK
  have hinc : wrp .i64 ((j : Int) + 1) = ((j + 1 : Nat) : Int) := by rw [wrpE, wi64]; omega
  refine forkD (fun a => ?_) (fun a => ?_)
  · have h' : j < L.length := by have : (j : Int) < (L.length : Int) := a; omega
    obtain ⟨y, hy⟩ : ∃ y, L[j]? = some y := ⟨_, List.getElem?_eq_getElem h'⟩
    have hik : (0 : Int) ≤ (j : Nat) ∧ ((j : Nat) : Int) < (L.length : Nat) := by omega
    have c1 := cellF rwC_len hy 1 (a := str y.k) rfl
    have c3 := cellF rwC_len hy 3 (a := str y.t) rfl
    have c3' : nth (List.drop 1 (List.drop 2 (List.drop ((j : Int).toNat * 5) (flat rwC L)))) 0 = some (str y.t) := by rw [List.drop_drop]; exact c3
    refine Ob.intro hik ?_
    refine optK_intro c1 ?_
    refine forkD (fun _ => ?_) (fun _ => ?_)
    · refine endE rfl rfl rfl ⟨_, rfl⟩
    refine Ob.intro hik ?_
    refine optK_intro c3' ?_
    refine forkD (fun _ => ?_) (fun _ => ?_)
    · refine endE rfl rfl rfl ⟨_, rfl⟩
    refine hK ⟨j + 1, h'⟩ [0] _ (show L.length - j = L.length - (j + 1) + 1 by omega) ⟨⟨rfl, congrArg i64 hinc, True.intro⟩, ⟨.inl rfl, True.intro⟩, rfl, rfl, rfl⟩
  · refine endE rfl rfl rfl ⟨_, rfl⟩
end Go.Proofs.Ytgchhmfobkcnfaa.A
