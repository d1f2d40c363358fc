/- record: writes are read; Uncommit. No condition. -/
import Derived.Test.YtkbpddejafdmdaaGreatRk
import Derived.Test.YtkbpddejafdmdaaGreatRg
namespace Go.Proofs.YtkbpddejafdmdaaGreat.A
open Go
set_option linter.unusedVariables false
set_option linter.unusedSimpArgs false
set_option maxRecDepth 100000
set_option pp.maxSteps 400

/-- Things to the end of the bytes. -/
def manyP {α : Type} (rd : ByteArray → Option (α × Nat)) : Nat → ByteArray → Option (List α)
  | 0, s => if s.size = 0 then some [] else none
  | n + 1, s => if s.size = 0 then some [] else match rd s with
    | some (x, m) => (manyP rd n (rest s m)).map (x :: ·)
    | none => none
theorem manyP_end {α : Type} {rd : ByteArray → Option (α × Nat)} {n : Nat} {s : ByteArray} (h : s.size = 0) : manyP rd n s = some [] := by
  cases n <;> exact if_pos h
theorem manyP_none {α : Type} {rd : ByteArray → Option (α × Nat)} {n : Nat} {s : ByteArray} (h : s.size ≠ 0) (hr : rd s = none) : manyP rd n s = none := by
  cases n with
  | zero => exact if_neg h
  | succ n =>
    show (if s.size = 0 then some [] else match rd s with | some (x, m) => _ | none => none) = _
    rw [if_neg h, hr]
theorem manyP_some {α : Type} {rd : ByteArray → Option (α × Nat)} {n : Nat} {s : ByteArray} {x : α} {m : Nat} (h : s.size ≠ 0) (hr : rd s = some (x, m)) : manyP rd (n + 1) s = (manyP rd n (rest s m)).map (x :: ·) := by
  show (if s.size = 0 then some [] else match rd s with | some (x, m) => _ | none => none) = _
  rw [if_neg h, hr]
theorem map_snoc {α : Type} (o : Option (List α)) (L : List α) (x : α) : (o.map (x :: ·)).map (L ++ ·) = o.map ((L ++ [x]) ++ ·) := by
  cases o <;> simp
theorem begN_pos {L : List (Nat × Bool)} {s : ByteArray} {j : Nat} {l : List It} {m : Nat} (hj : j + 1 ≤ L.length) (h : begN L s (j + 1) = .ok l m) : 0 < m := by
  obtain ⟨p, hp⟩ : ∃ p, L[j]? = some p := ⟨_, List.getElem?_eq_getElem (by omega)⟩
  cases hq : begN L s j with
  | err e => rw [show begN L s (j + 1) = _ from begN_err hq 1] at h; cases h
  | ok l2 m2 =>
    rw [begN_ok hq hp] at h
    cases hr : rd1P p (rest s m2) with
    | err e => rw [hr] at h; cases h
    | ok x k =>
      rw [hr] at h
      cases h
      have := (rd1P_le hr).1
      omega
theorem begP_pos {b : List Nat} {s : ByteArray} {l : List It} {m : Nat} {p : Nat × Bool} {L : List (Nat × Bool)} (hL : shP b = some (p :: L)) (h : begP b s = .ok l m) : 0 < m := by
  unfold begP at h
  rw [hL] at h
  exact begN_pos (j := L.length) (Nat.le_refl _) h
theorem sh_btt : shP [98, 116, 116] = some [(98, false), (116, false), (116, false)] := by decide
/-- A write that bytes begin with. -/
def wrP (t : ByteArray) : Option (Wt × Nat) :=
  match begP [98, 116, 116] t with
  | .ok [.mk g _ _ _, .mk _ k _ _, .mk _ v _ _] m =>
    if g ≤ 1 then
      if g = 1 then (if v.size = 0 then some (⟨k, true, false, nilT, 0⟩, m) else none)
      else if (upV v).2.2.2 = 0 then some (⟨k, false, (upV v).1, (upV v).2.1, (upV v).2.2.1⟩, m) else none
    else none
  | _ => none
theorem wrP_le {t : ByteArray} {w : Wt} {m : Nat} (h : wrP t = some (w, m)) : 0 < m ∧ m ≤ t.size := by
  unfold wrP at h
  cases hp : begP [98, 116, 116] t with
  | err e => rw [hp] at h; cases h
  | ok l j =>
    rw [hp] at h
    have h1 := begP_pos sh_btt hp
    have h2 := begP_le hp
    match l, h with
    | [.mk g _ _ _, .mk _ k _ _, .mk _ v _ _], h =>
      dsimp only at h
      split at h
      · split at h
        · split at h
          · cases h; exact ⟨h1, h2⟩
          · cases h
        · split at h
          · cases h; exact ⟨h1, h2⟩
          · cases h
      · cases h
def WorthR (s : ByteArray) : AEnd → Heap → Prop := fun E G => G = [] ∧
  if (upV s).2.2.2 = 0 then E = .ret (val (upV s).1 (upV s).2.1 (upV s).2.2.1) else E = .pan wrgV
theorem worth_ok (s : ByteArray) : ACalls Tryz.prog 44 [str s] [] (WorthR s) := by
  have hu := unpack_ok s
  unfold upR at hu
  unfold WorthR
  generalize upV s = u at hu ⊢
  obtain ⟨n, t, b, e⟩ := u
  dsimp only at hu ⊢
  by_cases he : e = 0
  · subst he
    simp only [if_pos]
    cases n <;>
    · refine acalls_of_awp hT mixed Tryz.func44 rfl (by kernel_rfl) (by kernel_rfl) (Nat.le_of_ble_eq_true rfl) ?_
      refine callP hu rfl rfl ?_
      refine callP must_yes rfl rfl ?_
      exact ⟨rfl, [], val _ t b, ⟨⟨_, rfl, rfl⟩, True.intro, Nat.zero_le _, rfl⟩, rfl, rfl⟩
  · simp only [if_neg he]
    cases n <;>
    · refine acalls_of_awp hT mixed Tryz.func44 rfl (by kernel_rfl) (by kernel_rfl) (Nat.le_of_ble_eq_true rfl) ?_
      refine callP hu rfl rfl ?_
      refine fork (fun g => absurd (beq_iff_eq.1 g) he) (fun _ => ?_)
      refine callBad must_no rfl ?_
      exact ⟨rfl, [], True.intro, Nat.zero_le _, rfl, rfl, rfl⟩
def WrR (o : Option (Wt × Nat)) (t : ByteArray) : AEnd → Heap → Prop := fun E G =>
  match o with
  | some (w, m) => E = .ret (.agg (wtC w)) ∧ G = [.row [str (rest t m)]]
  | none => E = .pan wrgV ∧ G = [.dead]
theorem write_ok (t : ByteArray) (ht : t.size ≤ 1000000) : ACalls Tryz.prog 41 [.ptr 0 0] [.row [str t]] (WrR (wrP t) t) := by
  have hc := part_ok ⟨#[98, 116, 116]⟩ t (by decide) ht
  rw [show byL ⟨#[98, 116, 116]⟩ = [98, 116, 116] from rfl] at hc
  unfold wrP
  cases hp : begP [98, 116, 116] t with
  | err e =>
    rw [hp] at hc
    refine acalls_of_awp hT mixed Tryz.func41 rfl (by kernel_rfl) (by kernel_rfl) (Nat.le_of_ble_eq_true rfl) ?_
    refine callS hc [0] ⟨.inl rfl, True.intro⟩ rfl ?_
    rintro E G ⟨rfl, rfl⟩ _
    refine ⟨_, _, rfl, rfl, ?_⟩
    exact ⟨rfl, [.dead], ⟨.inl rfl, True.intro⟩, Nat.le_refl 1, rfl, rfl, rfl⟩
  | ok l m =>
    rw [hp] at hc
    have hl := begP_length sh_btt hp
    match l, hl with
    | [.mk g s1 l1 k1, .mk b s2 l2 k2, .mk c s3 l3 k3], _ =>
      dsimp only
      have h0 : (0 : Int) ≤ 0 ∧ (0 : Int) < ((3 : Nat) : Int) := by omega
      have h1 : (0 : Int) ≤ 1 ∧ (1 : Int) < ((3 : Nat) : Int) := by omega
      have h2 : (0 : Int) ≤ 2 ∧ (2 : Int) < ((3 : Nat) : Int) := by omega
      by_cases hg : g ≤ 1
      · rw [if_pos hg]
        have hi := is_ok g s1 l1 k1 hg
        by_cases hg1 : g = 1
        · rw [if_pos hg1]
          rw [decide_eq_true hg1] at hi
          have hr := strEq_nilS s3
          by_cases hs : s3.size = 0
          · rw [if_pos hs]
            rw [decide_eq_true hs] at hr
            refine acalls_of_awp hT mixed Tryz.func41 rfl (by kernel_rfl) (by kernel_rfl) (Nat.le_of_ble_eq_true rfl) ?_
            refine callS hc [0] ⟨.inl rfl, True.intro⟩ rfl ?_
            rintro E G ⟨rfl, rfl⟩ _
            refine ⟨_, _, rfl, rfl, ?_⟩
            refine ⟨[0, 0, 0, 0, 0, 0, 0, 1, 1, 0, 2], [[], [0], [0, 1], [0, 1, 2], [], [4], [4, 5], [4, 5, 6], [0, 1, 2, 3, 4, 5, 6, 7], [], [0, 1, 2, 3, 4, 5, 6, 7, 8, 9]], [0, 0, 0, 0, 0, 0, 0, 0, 0, 0, 1], [7, 10], [[3], [7], [8], [9], [3], [11], [12], [13], [10, 14], [], [4, 15]], Ob.intro (by kernel_rfl) ?_⟩
            repeat first | refine same ?_ | refine Ob.intro h0 ?_ | refine Ob.intro h1 ?_ | refine Ob.intro h2 ?_
            refine callP hi rfl rfl ?_
            repeat first | refine same ?_ | refine Ob.intro h0 ?_ | refine Ob.intro h1 ?_ | refine Ob.intro h2 ?_
            refine fork (fun _ => ?_) (fun g3 => absurd hr (by rw [g3]; decide))
            refine callP must_yes rfl rfl ?_
            exact ⟨rfl, [.row [str (rest t m)]], .agg (wtC ⟨s2, true, false, nilT, 0⟩), ⟨⟨_, rfl, rfl⟩, ⟨.inl rfl, True.intro⟩, Nat.le_refl 1, rfl⟩, rfl, rfl⟩
          · rw [if_neg hs]
            rw [decide_eq_false hs] at hr
            refine acalls_of_awp hT mixed Tryz.func41 rfl (by kernel_rfl) (by kernel_rfl) (Nat.le_of_ble_eq_true rfl) ?_
            refine callS hc [0] ⟨.inl rfl, True.intro⟩ rfl ?_
            rintro E G ⟨rfl, rfl⟩ _
            refine ⟨_, _, rfl, rfl, ?_⟩
            refine ⟨[0, 0, 0, 0, 0, 0, 0, 1, 1, 0, 2], [[], [0], [0, 1], [0, 1, 2], [], [4], [4, 5], [4, 5, 6], [0, 1, 2, 3, 4, 5, 6, 7], [], [0, 1, 2, 3, 4, 5, 6, 7, 8, 9]], [0, 0, 0, 0, 0, 0, 0, 0, 0, 0, 1], [7, 10], [[3], [7], [8], [9], [3], [11], [12], [13], [10, 14], [], [4, 15]], Ob.intro (by kernel_rfl) ?_⟩
            repeat first | refine same ?_ | refine Ob.intro h0 ?_ | refine Ob.intro h1 ?_ | refine Ob.intro h2 ?_
            refine callP hi rfl rfl ?_
            repeat first | refine same ?_ | refine Ob.intro h0 ?_ | refine Ob.intro h1 ?_ | refine Ob.intro h2 ?_
            refine fork (fun g3 => absurd hr (by rw [g3]; decide)) (fun _ => ?_)
            refine callBad must_no rfl ?_
            exact ⟨rfl, [.dead], ⟨.inr rfl, True.intro⟩, Nat.le_refl 1, rfl, rfl, rfl⟩
        · rw [if_neg hg1]
          rw [decide_eq_false hg1] at hi
          have hw := worth_ok s3
          unfold WorthR at hw
          generalize upV s3 = u at hw ⊢
          obtain ⟨vn, vt, vb, ve⟩ := u
          dsimp only at hw ⊢
          by_cases he : ve = 0
          · rw [if_pos he]
            simp only [if_pos he] at hw
            cases vn <;>
            · refine acalls_of_awp hT mixed Tryz.func41 rfl (by kernel_rfl) (by kernel_rfl) (Nat.le_of_ble_eq_true rfl) ?_
              refine callS hc [0] ⟨.inl rfl, True.intro⟩ rfl ?_
              rintro E G ⟨rfl, rfl⟩ _
              refine ⟨_, _, rfl, rfl, ?_⟩
              refine ⟨[0, 0, 0, 0, 0, 0, 0, 1, 1, 0, 2], [[], [0], [0, 1], [0, 1, 2], [], [4], [4, 5], [4, 5, 6], [0, 1, 2, 3, 4, 5, 6, 7], [], [0, 1, 2, 3, 4, 5, 6, 7, 8, 9]], [0, 0, 0, 0, 0, 0, 0, 0, 0, 0, 1], [7, 10], [[3], [7], [8], [9], [3], [11], [12], [13], [10, 14], [], [4, 15]], Ob.intro (by kernel_rfl) ?_⟩
              repeat first | refine same ?_ | refine Ob.intro h0 ?_ | refine Ob.intro h1 ?_ | refine Ob.intro h2 ?_
              refine callP hi rfl rfl ?_
              repeat first | refine same ?_ | refine Ob.intro h0 ?_ | refine Ob.intro h1 ?_ | refine Ob.intro h2 ?_
              refine callS hw [] True.intro rfl ?_
              rintro E G ⟨rfl, rfl⟩ _
              refine ⟨_, _, rfl, rfl, ?_⟩
              exact ⟨rfl, [.row [str (rest t m)]], .agg (wtC ⟨s2, false, _, vt, vb⟩), ⟨⟨_, rfl, rfl⟩, ⟨.inl rfl, True.intro⟩, Nat.le_refl 1, rfl⟩, rfl, rfl⟩
          · rw [if_neg he]
            simp only [if_neg he] at hw
            refine acalls_of_awp hT mixed Tryz.func41 rfl (by kernel_rfl) (by kernel_rfl) (Nat.le_of_ble_eq_true rfl) ?_
            refine callS hc [0] ⟨.inl rfl, True.intro⟩ rfl ?_
            rintro E G ⟨rfl, rfl⟩ _
            refine ⟨_, _, rfl, rfl, ?_⟩
            refine ⟨[0, 0, 0, 0, 0, 0, 0, 1, 1, 0, 2], [[], [0], [0, 1], [0, 1, 2], [], [4], [4, 5], [4, 5, 6], [0, 1, 2, 3, 4, 5, 6, 7], [], [0, 1, 2, 3, 4, 5, 6, 7, 8, 9]], [0, 0, 0, 0, 0, 0, 0, 0, 0, 0, 1], [7, 10], [[3], [7], [8], [9], [3], [11], [12], [13], [10, 14], [], [4, 15]], Ob.intro (by kernel_rfl) ?_⟩
            repeat first | refine same ?_ | refine Ob.intro h0 ?_ | refine Ob.intro h1 ?_ | refine Ob.intro h2 ?_
            refine callP hi rfl rfl ?_
            repeat first | refine same ?_ | refine Ob.intro h0 ?_ | refine Ob.intro h1 ?_ | refine Ob.intro h2 ?_
            refine callS hw [] True.intro rfl ?_
            rintro E G ⟨rfl, rfl⟩ _
            refine ⟨_, _, rfl, rfl, ?_⟩
            exact ⟨rfl, [.dead], ⟨.inr rfl, True.intro⟩, Nat.le_refl 1, rfl, rfl, rfl⟩
      · rw [if_neg hg]
        have hi := is_no g s1 l1 k1 hg
        refine acalls_of_awp hT mixed Tryz.func41 rfl (by kernel_rfl) (by kernel_rfl) (Nat.le_of_ble_eq_true rfl) ?_
        refine callS hc [0] ⟨.inl rfl, True.intro⟩ rfl ?_
        rintro E G ⟨rfl, rfl⟩ _
        refine ⟨_, _, rfl, rfl, ?_⟩
        refine ⟨[0, 0, 0, 0, 0, 0, 0, 1, 1, 0, 2], [[], [0], [0, 1], [0, 1, 2], [], [4], [4, 5], [4, 5, 6], [0, 1, 2, 3, 4, 5, 6, 7], [], [0, 1, 2, 3, 4, 5, 6, 7, 8, 9]], [0, 0, 0, 0, 0, 0, 0, 0, 0, 0, 1], [7, 10], [[3], [7], [8], [9], [3], [11], [12], [13], [10, 14], [], [4, 15]], Ob.intro (by kernel_rfl) ?_⟩
        repeat first | refine same ?_ | refine Ob.intro h0 ?_ | refine Ob.intro h1 ?_ | refine Ob.intro h2 ?_
        refine callBad hi rfl ?_
        exact ⟨rfl, [.dead], ⟨.inr rfl, True.intro⟩, Nat.le_refl 1, rfl, rfl, rfl⟩
end Go.Proofs.YtkbpddejafdmdaaGreat.A
