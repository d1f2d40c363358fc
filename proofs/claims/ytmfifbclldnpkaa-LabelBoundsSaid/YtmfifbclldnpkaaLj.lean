/- label: Meet, Less. No condition. -/
import Derived.Test.YtmfifbclldnpkaaLi
namespace Go.Proofs.Ytmfifbclldnpkaa.A
open Go
set_option linter.unusedVariables false
set_option maxRecDepth 100000
set_option pp.maxSteps 1500

def delB (b : List Nat) (c : Bool) (x : Nat) : Bool := decide (x ∈ b) != c
theorem delF_ok (b : List Nat) (c : Bool) (x : Nat) (hm : b.length < 9223372036854775807) : ACalls Try.prog 47 [u64n x, .ptr 0 0, .ptr 1 0] [.row [us b], .row [bo c]] (RetH (bo (delB b c x)) [.row [us b], .row [bo c]]) := by
  have hh := hasL_ok b x hm
  unfold delB
  generalize decide (x ∈ b) = q at *
  cases q <;> cases c <;>
  · refine acalls_of_awp hT mixed Try.func47 rfl (by kernel_rfl) (by kernel_rfl) (Nat.le_of_ble_eq_true rfl) ?_
    refine ⟨[0, 0, 1, 0, 1, 1], [[], [], [0, 1], [], [0, 1, 2, 3], [0, 1, 2, 3, 4]], [0, 0, 0, 0, 0, 0], [2], [[1], [0], [5, 6], [2], [7, 8], [9]], Ob.intro (by kernel_rfl) ?_⟩
    repeat refine same ?_
    refine callP hh rfl rfl ?_
    repeat refine same ?_
    exact ⟨rfl, [.row [us b], .row [bo _]], _, ⟨⟨_, rfl, rfl⟩, ⟨.inl rfl, .inl rfl, True.intro⟩, Nat.le_refl _, rfl⟩, rfl, rfl⟩
def delA : AV := .fn (.func 47) [.ptr 0 0, .ptr 1 0]
theorem belowH_us3 (b : List Nat) (c : Bool) (R : List Nat) : belowH 3 [.row [us b], .row [bo c], .row (R.map u64n)] = true := by
  simp only [belowH, belowO, belowL_us]
  rfl
theorem idxDel_ok (l b : List Nat) (c : Bool) (hn : l.length < 9223372036854775807) (hm : b.length < 9223372036854775807) : ACalls Try.prog 48 [.slc 2 0 l.length 1, delA] [.row [us b], .row [bo c], .row (l.map u64n)] (RetH (i64 (idxP (delB b c) l)) [.row [us b], .row [bo c], .row (l.map u64n)]) := by
  refine acalls_of_awp hT mixed Try.func48 rfl (by kernel_rfl) (by kernel_rfl) (Nat.le_of_ble_eq_true rfl) ?_
  refine loopI (α := IxSt (delB b c) l) (fun z => [(0, .slc 2 0 l.length 1), (1, delA), (7, i64 l.length), (8, i64 (z.k : Nat))]) (fun _ => [.row [us b], .row [bo c], .row (l.map u64n)]) (fun z => l.length - z.k) ⟨0, Nat.zero_le _, fun j hj => by omega⟩ [0, 1, 2] ⟨⟨rfl, rfl, rfl, rfl, True.intro⟩, ⟨.inl rfl, .inl rfl, .inl (by rw [renO_us]; rfl), True.intro⟩, rfl, rfl, rfl⟩ ?_
  rintro ⟨k, hk, hno⟩ K hK
  have hinc : wrp .i64 ((k : Int) + 1) = ((k + 1 : Nat) : Int) := by rw [wrpE, wi64]; omega
  refine forkD (fun h => ?_) (fun h => ?_)
  · have h' : k < l.length := by have : (k : Int) < (l.length : Int) := h; omega
    have hx := atN_some h'
    refine Ob.intro (show (0 : Int) ≤ (k : Nat) ∧ ((k : Nat) : Int) < (l.length : Nat) by omega) ?_
    refine optK_intro (rd_us rfl (ofs k) hx) ?_
    have hc := delF_ok b c (atN l k) hm
    cases hq : delB b c (atN l k) with
    | true =>
      rw [hq] at hc
      refine callH hc [0, 1] rfl ⟨.inl rfl, .inl rfl, True.intro⟩ rfl rfl rfl ?_
      exact ⟨rfl, [.row [us b], .row [bo c], .row (l.map u64n)], i64 (k : Nat), ⟨⟨_, rfl, rfl⟩, ⟨.inl rfl, .inl rfl, .inl rfl, True.intro⟩, Nat.le_refl _, belowH_us3 b c l⟩, by rw [idxP_at h' hno hq], rfl⟩
    | false =>
      rw [hq] at hc
      refine callH hc [0, 1] rfl ⟨.inl rfl, .inl rfl, True.intro⟩ rfl rfl rfl ?_
      refine hK ⟨k + 1, h', fun j hj => ?_⟩ [0, 1, 2] _ (show l.length - k = l.length - (k + 1) + 1 by omega) ⟨⟨rfl, rfl, rfl, congrArg i64 hinc, True.intro⟩, ⟨.inl rfl, .inl rfl, .inl (by rw [renO_us]; rfl), True.intro⟩, rfl, rfl, rfl⟩
      by_cases hjk : j = k
      · rw [hjk]; exact hq
      · exact hno j (by omega)
  · have h' : k = l.length := by have : ¬ (k : Int) < (l.length : Int) := h; omega
    exact ⟨rfl, [.row [us b], .row [bo c], .row (l.map u64n)], i64 (-1), ⟨⟨_, rfl, rfl⟩, ⟨.inl rfl, .inl rfl, .inl rfl, True.intro⟩, Nat.le_refl _, belowH_us3 b c l⟩, by rw [idxP_none (fun j hj => hno j (by omega))], rfl⟩
theorem idxDel_nil (b : List Nat) (c : Bool) : ACalls Try.prog 48 [nilS, delA] [.row [us b], .row [bo c]] (RetH (i64 (-1)) [.row [us b], .row [bo c]]) := by
  refine acalls_of_awp hT mixed Try.func48 rfl (by kernel_rfl) (by kernel_rfl) (Nat.le_of_ble_eq_true rfl) ?_
  refine loopI (α := Unit) (fun z => [(7, i64 0), (8, i64 0)]) (fun _ => [.row [us b], .row [bo c]]) (fun z => 0) () [0, 1] ⟨⟨rfl, rfl, True.intro⟩, ⟨.inl rfl, .inl rfl, True.intro⟩, rfl, rfl, rfl⟩ ?_
  rintro ⟨⟩ K hK
  exact ⟨rfl, [.row [us b], .row [bo _]], _, ⟨⟨_, rfl, rfl⟩, ⟨.inl rfl, .inl rfl, True.intro⟩, Nat.le_refl _, rfl⟩, rfl, rfl⟩
theorem deleteNil_ok (b : List Nat) (c : Bool) : ACalls Try.prog 46 [nilS, delA] [.row [us b], .row [bo c]] (RetH nilS [.row [us b], .row [bo c]]) := by
  refine acalls_of_awp hT mixed Try.func46 rfl (by kernel_rfl) (by kernel_rfl) (Nat.le_of_ble_eq_true rfl) ?_
  refine callH (idxDel_nil b c) [0, 1] rfl ⟨.inl rfl, .inl rfl, True.intro⟩ rfl rfl rfl ?_
  exact ⟨rfl, [.row [us b], .row [bo _]], _, ⟨⟨_, rfl, rfl⟩, ⟨.inl rfl, .inl rfl, True.intro⟩, Nat.le_refl _, rfl⟩, rfl, rfl⟩
def keepL (b : List Nat) (c : Bool) (l : List Nat) : List Nat := l.filter fun x => !(delB b c x)
theorem keep_snoc (b : List Nat) (c : Bool) (l : List Nat) (x : Nat) : keepL b c (l ++ [x]) = keepL b c l ++ (if delB b c x then [] else [x]) := by
  unfold keepL
  rw [List.filter_append]
  cases h : delB b c x <;> simp [h]
theorem keep_all {b : List Nat} {c : Bool} {l : List Nat} {k : Nat} (h : ∀ j, j < k → delB b c (atN l j) = false) (hk : k ≤ l.length) : keepL b c (l.take k) = l.take k := by
  unfold keepL
  rw [List.filter_eq_self]
  intro x hx
  obtain ⟨j, hj, rfl⟩ := (mem_atN _ x).1 hx
  rw [List.length_take] at hj
  have : atN (l.take k) j = atN l j := by
    unfold atN
    rw [List.getD_eq_getElem?_getD, List.getElem?_take_of_lt (by omega), ← List.getD_eq_getElem?_getD]
  rw [this, h j (by omega)]
  rfl
structure DelSt (b : List Nat) (c : Bool) (l : List Nat) where
  i : Nat
  j : Nat
  R : List Nat
  hij : i < j
  hj : j ≤ l.length
  len : R.length = l.length
  old : ∀ p, j ≤ p → atN R p = atN l p
  hR : R.take i = keepL b c (l.take j)
theorem idxP_cases (p : Nat → Bool) (l : List Nat) : (idxP p l = -1 ∧ ∀ j, j < l.length → p (atN l j) = false) ∨ ∃ k, k < l.length ∧ idxP p l = (k : Nat) ∧ p (atN l k) = true ∧ ∀ j, j < k → p (atN l j) = false := by
  by_cases h : ∃ k, k < l.length ∧ p (atN l k) = true
  · have key : ∀ n, (∃ k, k < n ∧ k < l.length ∧ p (atN l k) = true) → ∃ k, k < l.length ∧ p (atN l k) = true ∧ ∀ j, j < k → p (atN l j) = false := by
      intro n
      induction n with
      | zero => rintro ⟨k, hk, _⟩; omega
      | succ n ih =>
        rintro ⟨k, hk, h1, h2⟩
        by_cases hq : ∃ k, k < n ∧ k < l.length ∧ p (atN l k) = true
        · exact ih hq
        · have hkn : k = n := by
            refine Classical.byContradiction fun hne => hq ⟨k, by omega, h1, h2⟩
          subst hkn
          refine ⟨k, h1, h2, fun j hj => ?_⟩
          cases hp : p (atN l j) with
          | false => rfl
          | true => exact absurd ⟨j, hj, by omega, hp⟩ hq
    obtain ⟨k, h1, h2⟩ := h
    obtain ⟨k, h3, h4, h5⟩ := key (k + 1) ⟨k, by omega, h1, h2⟩
    exact .inr ⟨k, h3, idxP_at h3 h5 h4, h4, h5⟩
  · have hno : ∀ j, j < l.length → p (atN l j) = false := fun j hj => by
      cases hp : p (atN l j) with
      | false => rfl
      | true => exact absurd ⟨j, hj, hp⟩ h
    exact .inl ⟨idxP_none hno, hno⟩
theorem delete_ok (l b : List Nat) (c : Bool) (hn : l.length ≤ 1000) (hm : b.length < 9223372036854775807) : ACalls Try.prog 46 [.slc 2 0 l.length 1, delA] [.row [us b], .row [bo c], .row (l.map u64n)] (fun E G => ∃ (R : List Nat) (m : Nat), m ≤ R.length ∧ R.take m = keepL b c l ∧ E = .ret (.slc 2 0 m 1) ∧ G = [.row [us b], .row [bo c], .row (R.map u64n)]) := by
  have hi := idxDel_ok l b c (by omega) hm
  rcases idxP_cases (delB b c) l with ⟨h1, hno⟩ | ⟨k, hk, h1, hp, hno⟩
  · rw [h1] at hi
    refine acalls_of_awp hT mixed Try.func46 rfl (by kernel_rfl) (by kernel_rfl) (Nat.le_of_ble_eq_true rfl) ?_
    refine callH (H' := [.row [us b], .row [bo c], .row (l.map u64n)]) hi [0, 1, 2] rfl ⟨.inl rfl, .inl rfl, .inl (by rw [renO_us]; rfl), True.intro⟩ rfl rfl (by show [_, _, renO _ (.row (l.map u64n))] = _; rw [renO_us]; rfl) ?_
    refine ⟨rfl, [.row [us b], .row [bo c], .row (l.map u64n)], .slc 2 0 l.length 1, ⟨⟨_, rfl, rfl⟩, ⟨.inl rfl, .inl rfl, .inl rfl, True.intro⟩, Nat.le_refl _, belowH_us3 b c l⟩, l, l.length, Nat.le_refl _, ?_, rfl, rfl⟩
    have := keep_all (b := b) (c := c) hno (Nat.le_refl _)
    rw [List.take_length] at this
    rw [List.take_length, this]
  · rw [h1] at hi
    have hinck : wrp .i64 ((k : Int) + 1) = ((k + 1 : Nat) : Int) := by rw [wrpE, wi64]; omega
    refine acalls_of_awp hT mixed Try.func46 rfl (by kernel_rfl) (by kernel_rfl) (Nat.le_of_ble_eq_true rfl) ?_
    refine callH (H' := [.row [us b], .row [bo c], .row (l.map u64n)]) hi [0, 1, 2] rfl ⟨.inl rfl, .inl rfl, .inl (by rw [renO_us]; rfl), True.intro⟩ rfl rfl (by show [_, _, renO _ (.row (l.map u64n))] = _; rw [renO_us]; rfl) ?_
    refine loopI (α := DelSt b c l) (fun z => [(0, .slc 2 0 l.length 1), (1, delA), (5, i64 (z.i : Nat)), (6, i64 (z.j : Nat))]) (fun z => [.row [us b], .row [bo c], .row (z.R.map u64n)]) (fun z => l.length - z.j) ⟨k, k + 1, l, by omega, hk, rfl, fun _ _ => rfl, by rw [take_at hk, keep_snoc, hp, keep_all hno (by omega)]; simp⟩ [0, 1, 2] ⟨⟨rfl, rfl, rfl, congrArg i64 hinck, True.intro⟩, ⟨.inl rfl, .inl rfl, .inl (by rw [renO_us]; rfl), True.intro⟩, rfl, rfl, rfl⟩ ?_
    rintro ⟨i, j, R, hij, hj, len, old, hR⟩ K hK
    have hincj : wrp .i64 ((j : Int) + 1) = ((j + 1 : Nat) : Int) := by rw [wrpE, wi64]; omega
    have hinci : wrp .i64 ((i : Int) + 1) = ((i + 1 : Nat) : Int) := by rw [wrpE, wi64]; omega
    refine forkD (fun h => ?_) (fun h => ?_)
    · have h' : j < l.length := by have : (j : Int) < (l.length : Int) := h; omega
      have hx := atN_some (show j < R.length by omega)
      have hox := old j (Nat.le_refl _)
      refine Ob.intro (show (0 : Int) ≤ (j : Nat) ∧ ((j : Nat) : Int) < (l.length : Nat) by omega) ?_
      refine optK_intro (rd_us rfl (ofs j) hx) ?_
      have hc := delF_ok b c (atN R j) hm
      cases hq : delB b c (atN R j) with
      | true =>
        rw [hq] at hc
        refine callH hc [0, 1] rfl ⟨.inl rfl, .inl rfl, True.intro⟩ rfl rfl rfl ?_
        refine hK ⟨i, j + 1, R, by omega, h', len, fun p hp => old p (by omega), by rw [take_at h', keep_snoc, ← hox, hq, hR]; simp⟩ [0, 1, 2] _ (show l.length - j = l.length - (j + 1) + 1 by omega) ⟨⟨rfl, rfl, rfl, congrArg i64 hincj, True.intro⟩, ⟨.inl rfl, .inl rfl, .inl (by rw [renO_us]; rfl), True.intro⟩, rfl, rfl, rfl⟩
      | false =>
        rw [hq] at hc
        refine callH hc [0, 1] rfl ⟨.inl rfl, .inl rfl, True.intro⟩ rfl rfl rfl ?_
        refine Ob.intro (show (0 : Int) ≤ (i : Nat) ∧ ((i : Nat) : Int) < (l.length : Nat) by omega) ?_
        refine wr_us (k := i) (x := atN R j) rfl rfl (ofs i) (show i < R.length by omega) ?_
        refine hK ⟨i + 1, j + 1, R.set i (atN R j), by omega, h', by rw [List.length_set]; exact len, fun p hp => ?_, ?_⟩ [0, 1, 2] _ (show l.length - j = l.length - (j + 1) + 1 by omega) ⟨⟨rfl, rfl, congrArg i64 hinci, congrArg i64 hincj, True.intro⟩, ⟨.inl rfl, .inl rfl, .inl (by rw [renO_us]; rfl), True.intro⟩, rfl, rfl, rfl⟩
        · rw [← old p (by omega)]
          unfold atN
          rw [List.getD_eq_getElem?_getD, List.getElem?_set_ne (by omega), ← List.getD_eq_getElem?_getD]
        · rw [take_at h', keep_snoc, ← hox, hq, ← hR]
          rw [take_snocA (x := atN R j) (by rw [List.getElem?_set_self (by omega)]), List.take_set_of_le (Nat.le_refl _)]
          simp
    · have h' : j = l.length := by have : ¬ (j : Int) < (l.length : Int) := h; omega
      have hil : i ≤ R.length := by omega
      refine Ob.intro (show (0 : Int) ≤ (i : Nat) ∧ ((i : Nat) : Int) ≤ (l.length : Nat) ∧ ((l.length : Nat) : Int) ≤ (l.length : Nat) by omega) ?_
      refine wr_zeros (k := i) (m := l.length - i) rfl (ofs i) (by show ((l.length : Nat) : Int).toNat - ((i : Nat) : Int).toNat = _; omega) (show i + (l.length - i) ≤ R.length by omega) ?_
      refine Ob.intro (show (0 : Int) ≤ 0 ∧ (0 : Int) ≤ (i : Nat) ∧ ((i : Nat) : Int) ≤ (l.length : Nat) by omega) ?_
      refine ⟨rfl, [.row [us b], .row [bo c], .row ((R.take i ++ List.replicate (l.length - i) 0 ++ R.drop (i + (l.length - i))).map u64n)], .slc 2 0 i 1, ⟨⟨_, rfl, rfl⟩, ⟨.inl rfl, .inl rfl, .inl rfl, True.intro⟩, Nat.le_refl _, belowH_us3 b c _⟩, _, i, ?_, ?_, rfl, rfl⟩
      · rw [List.length_append, List.length_append, List.length_take, Nat.min_eq_left hil]
        omega
      · have ht3 : (R.take i).length = i := by rw [List.length_take]; omega
        rw [List.append_assoc, List.take_left' ht3, hR, h', List.take_length]
def keptP (a b : List Nat) (c : Bool) : List Nat := if rightB a = true ∧ rightB b = true then keepL b c a else []
theorem kept_ok (a b : List Nat) (c : Bool) (ha : a.length < 9223372036854775807) (hb : b.length < 9223372036854775807) : ACalls Try.prog 37 [us a, us b, bo c] [] (Ret (us (keptP a b c))) := by
  have ca := right_ok a ha
  have cb := right_ok b hb
  have bad : ¬ (rightB a = true ∧ rightB b = true) → ACalls Try.prog 37 [us a, us b, bo c] [] (Ret nilS) := fun h => by
    cases h1 : rightB a with
    | false =>
      rw [h1] at ca
      refine acalls_of_awp hT mixed Try.func37 rfl (by kernel_rfl) (by kernel_rfl) (Nat.le_of_ble_eq_true rfl) ?_
      refine callP ca rfl rfl ?_
      refine end0 rfl rfl rfl rfl
    | true =>
      have h2 : rightB b = false := by cases h2 : rightB b with
        | false => rfl
        | true => exact absurd ⟨h1, h2⟩ h
      rw [h1] at ca
      rw [h2] at cb
      refine acalls_of_awp hT mixed Try.func37 rfl (by kernel_rfl) (by kernel_rfl) (Nat.le_of_ble_eq_true rfl) ?_
      refine callP ca rfl rfl ?_
      refine callP cb rfl rfl ?_
      refine end0 rfl rfl rfl rfl
  by_cases h : rightB a = true ∧ rightB b = true
  · have hp : keptP a b c = keepL b c a := by unfold keptP; rw [if_pos h]
    rw [hp]
    have la := rightB_len h.1
    rw [h.1] at ca
    rw [h.2] at cb
    refine ACalls.weakR (R := fun E G => (E = .ret (us (keepL b c a)) ∨ (keepL b c a = [] ∧ E = .ret nilS)) ∧ G = []) ?_ ?_
    · refine acalls_of_awp hT mixed Try.func37 rfl (by kernel_rfl) (by kernel_rfl) (Nat.le_of_ble_eq_true rfl) ?_
      refine callP ca rfl rfl ?_
      refine callP cb rfl rfl ?_
      refine callS (clone_ok a (by omega)) [] True.intro rfl ?_
      rintro E G (⟨hnil, rfl, rfl⟩ | ⟨rfl, rfl⟩) _
      · subst hnil
        refine ⟨_, _, rfl, rfl, ?_⟩
        refine callH (deleteNil_ok b c) [0, 1] rfl ⟨.inl rfl, .inl rfl, True.intro⟩ rfl rfl rfl ?_
        exact ⟨rfl, [], nilS, ⟨⟨_, rfl, rfl⟩, True.intro, Nat.le_refl _, rfl⟩, .inr ⟨rfl, rfl⟩, rfl⟩
      · refine ⟨_, [.row [us b], .row [bo c], .dead, .row (a.map u64n)], rfl, by show [_, _, AObj.dead, renO _ (.row (a.map u64n))] = _; rw [renO_us]; rfl, ?_⟩
        refine callS (delete_ok a b c (by omega) hb) [0, 1, 3] ⟨.inl rfl, .inl rfl, .inl (by rw [renO_us]; rfl), True.intro⟩ rfl ?_
        rintro E G ⟨R, m, hm, hR, rfl, rfl⟩ _
        refine ⟨_, [.row [us b], .row [bo c], .dead, .row (R.map u64n)], rfl, by show [_, _, _, renO _ (.row (R.map u64n))] = _; rw [renO_us]; rfl, ?_⟩
        refine ⟨rfl, [], us (keepL b c a), ⟨⟨_, rfl, ?_⟩, True.intro, Nat.zero_le _, rfl⟩, .inl rfl, rfl⟩
        rw [← hR]
        exact frz_usT (H := [.row [us b], .row [bo c], .dead, .row (R.map u64n)]) (k := 6) rfl hm rfl
    · rintro E G ⟨rfl | ⟨h, rfl⟩, rfl⟩
      · exact ⟨_, ⟨rfl, rfl⟩, EndR_refl _⟩
      · rw [h]
        exact ⟨_, ⟨rfl, rfl⟩, EndR_nil⟩
  · have hp : keptP a b c = [] := by unfold keptP; rw [if_neg h]
    rw [hp]
    refine (bad h).weakR ?_
    rintro E G ⟨rfl, rfl⟩
    exact ⟨_, ⟨rfl, rfl⟩, EndR_nil⟩
theorem meet_ok (a b : List Nat) (ha : a.length < 9223372036854775807) (hb : b.length < 9223372036854775807) : ACalls Try.prog 23 [us a, us b] [] (Ret (us (keptP a b true))) := by
  refine acalls_of_awp hT mixed Try.func23 rfl (by kernel_rfl) (by kernel_rfl) (Nat.le_of_ble_eq_true rfl) ?_
  refine callP (kept_ok a b true ha hb) rfl rfl ?_
  refine end0 rfl rfl rfl rfl
theorem lessL_ok (a b : List Nat) (ha : a.length < 9223372036854775807) (hb : b.length < 9223372036854775807) : ACalls Try.prog 25 [us a, us b] [] (Ret (us (keptP a b false))) := by
  refine acalls_of_awp hT mixed Try.func25 rfl (by kernel_rfl) (by kernel_rfl) (Nat.le_of_ble_eq_true rfl) ?_
  refine callP (kept_ok a b false ha hb) rfl rfl ?_
  refine end0 rfl rfl rfl rfl
end Go.Proofs.Ytmfifbclldnpkaa.A
