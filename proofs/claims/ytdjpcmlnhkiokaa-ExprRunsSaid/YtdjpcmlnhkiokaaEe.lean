/- expr: a program, as far as it goes. No condition. -/
import Derived.Test.YtdjpcmlnhkiokaaEd
namespace Go.Proofs.Ytdjpcmlnhkiokaa.A
open Go
set_option linter.unusedVariables false
set_option maxRecDepth 100000
set_option pp.maxSteps 1500

def cd (c : Int × Nat) : List AV := [i64 c.1, u64 c.2]
theorem cd_len (c : Int × Nat) : (cd c).length = 2 := rfl
/-- A word that stands on a stack. -/
def cW (b : Nat) : Prop := b < 18446744073709551616 ∧ bitsB b = b
theorem cW_bits {b : Nat} (h : b < 18446744073709551616) : cW (bitsB b) := ⟨bitsB_lt h, bitsB_bitsB b⟩
theorem cW_O {v : Option Nat} (h : ∀ r, v = some r → r < 18446744073709551616) : cW (bitsO v) := by
  cases v with
  | none => exact ⟨by decide, by decide⟩
  | some r => exact cW_bits (h r rfl)
theorem neg_lt {b : Nat} (h : b < 18446744073709551616) : Op.negFloat .f64 b < 18446744073709551616 := Nat.xor_lt_two_pow (n := 64) h (by decide)
theorem at0_mem {P : Nat → Prop} {l : List Nat} {k : Nat} (hl : ∀ b ∈ l, P b) (hk : k < l.length) : P (at0 l k) := by
  unfold at0
  rw [List.getD_eq_getElem?_getD, List.getElem?_eq_getElem hk]
  exact hl _ (List.getElem_mem hk)
theorem outS_ok {op : Int} {own x : Nat} {l o : List Nat} (hop : 1 ≤ op ∧ op ≤ 16) (ho : own < 18446744073709551616) (hx : x < 18446744073709551616) (hl : ∀ b ∈ l, cW b) (hn : l.length = takesS op) (h : outS op own x l = some o) : o.length = putsS op ∧ ∀ b ∈ o, cW b := by
  have one : ∀ {y : Nat}, cW y → ([y] : List Nat).length = 1 ∧ ∀ b ∈ [y], cW b := fun h => ⟨rfl, fun b hb => by rw [List.mem_singleton] at hb; exact hb ▸ h⟩
  have two : ∀ {y z : Nat}, cW y → cW z → ([y, z] : List Nat).length = 2 ∧ ∀ b ∈ [y, z], cW b := fun h g => ⟨rfl, fun b hb => by
    rcases List.mem_cons.1 hb with hb | hb
    · exact hb ▸ h
    · rw [List.mem_singleton] at hb
      exact hb ▸ g⟩
  have hq : op = 1 ∨ op = 2 ∨ op = 3 ∨ op = 4 ∨ op = 5 ∨ op = 6 ∨ op = 7 ∨ op = 8 ∨ op = 9 ∨ op = 10 ∨ op = 11 ∨ op = 12 ∨ op = 13 ∨ op = 14 ∨ op = 15 ∨ op = 16 := by omega
  have bin : ∀ op' : Int, l.length = 2 → cW (bitsO (twoO op' (at0 l 0) (at0 l 1))) := fun op' h2 => cW_O (twoO_lt (at0_mem hl (by omega)).1 (at0_mem hl (by omega)).1)
  have c0 : 0 < l.length → cW (at0 l 0) := fun h => at0_mem hl h
  have c1 : 1 < l.length → cW (at0 l 1) := fun h => at0_mem hl h
  rcases hq with rfl | rfl | rfl | rfl | rfl | rfl | rfl | rfl | rfl | rfl | rfl | rfl | rfl | rfl | rfl | rfl
  · cases h; exact one (cW_bits hx)
  · cases h; exact one (cW_bits (bitsB_lt ho))
  · cases h; exact one (bin 3 hn)
  · cases h; exact one (bin 4 hn)
  · cases h; exact one (bin 5 hn)
  · cases h; exact one (bin 6 hn)
  · cases h; exact one (bin 7 hn)
  · cases h; exact one (bin 8 hn)
  · cases h; exact one (cW_bits (neg_lt (c0 (by rw [hn]; decide)).1))
  · cases h; exact one (cW_bits (by omega))
  · cases h; exact one (cW_bits (floorB_lt (c0 (by rw [hn]; decide)).1))
  · cases h
    have := cW_bits (c0 (by rw [hn]; decide)).1
    exact two this this
  · cases h; exact two (cW_bits (c1 (by rw [hn]; decide)).1) (cW_bits (c0 (by rw [hn]; decide)).1)
  · cases h; exact ⟨rfl, fun b hb => by cases hb⟩
  · have h' : (if nanB (at0 l 0) = true then none else if infB (at0 l 0) = true then none else some [bitsB (at0 l 0)]) = some o := h
    split at h'
    · cases h'
    · split at h'
      · cases h'
      · cases h'; exact one (cW_bits (c0 (by rw [hn]; decide)).1)
  · have h' : (if decide (5 < classB (at0 l 2)) = true then some [bitsB (at0 l 0)] else some [bitsB (at0 l 1)]) = some o := h
    split at h'
    · cases h'; exact one (cW_bits (c0 (by rw [hn]; decide)).1)
    · cases h'; exact one (cW_bits (c1 (by rw [hn]; decide)).1)
/-- A stack that may be. -/
def stk (s : List Nat) : Prop := s.length ≤ 8 ∧ ∀ b ∈ s, cW b
theorem stepS_stk {op : Int} {own x : Nat} {s t : List Nat} (hop : 1 ≤ op ∧ op ≤ 16) (ho : own < 18446744073709551616) (hx : x < 18446744073709551616) (hs : stk s) (h : stepS op own x s = some t) : stk t ∧ t.length = s.length - takesS op + putsS op ∧ takesS op ≤ s.length := by
  unfold stepS at h
  split at h
  · cases h
  · rename_i hc
    cases hq : outS op own x (s.drop (s.length - takesS op)) with
    | none => rw [hq] at h; cases h
    | some o =>
      rw [hq] at h
      cases h
      obtain ⟨h1, h2⟩ := outS_ok hop ho hx (fun b hb => hs.2 b (List.mem_of_mem_drop hb)) (by rw [List.length_drop]; omega) hq
      have hlen : (s.take (s.length - takesS op) ++ o).length = s.length - takesS op + putsS op := by
        rw [List.length_append, List.length_take, h1]
        omega
      refine ⟨⟨by rw [hlen]; omega, fun b hb => ?_⟩, hlen, by omega⟩
      rcases List.mem_append.1 hb with hb | hb
      · exact hs.2 b (List.mem_of_mem_take hb)
      · exact h2 b hb
/-- As far as it goes, and how many steps went well. -/
noncomputable def runS (x : Nat) : List (Int × Nat) → List Nat → List Nat × Nat
  | [], s => (s, 0)
  | c :: p, s => match stepS c.1 c.2 x s with
    | none => (s, 0)
    | some t => ((runS x p t).1, (runS x p t).2 + 1)
/-- A program's steps. -/
def okC (c : Int × Nat) : Prop := (1 ≤ c.1 ∧ c.1 ≤ 16) ∧ c.2 < 18446744073709551616
structure RunSt (p : List (Int × Nat)) (x : Nat) where
  k : Nat
  n : Nat
  l : List Nat
  hk : k ≤ p.length
  hn : n ≤ l.length
  hs : stk (l.take n)
  hr : runS x p [] = ((runS x (p.drop k) (l.take n)).1, (runS x (p.drop k) (l.take n)).2 + k)
def RunR (x : Nat) (p : List (Int × Nat)) : AEnd → Heap → Prop := fun E G => E = .ret (.tup [.ptr 0 0, i64 ((runS x p []).2 : Nat)]) ∧ ∃ n l, n ≤ l.length ∧ l.take n = (runS x p []).1 ∧ (G = stP 1 n l ∨ G = stP 7 n l)
theorem renH_stP6 (r : Nat → Nat) (n : Nat) (l : List Nat) : renH r (stP 6 n l) = [.row [.slc (r 6) 0 n 1], .dead, .dead, .dead, .dead, .dead, .row (l.map fl)] := by
  simp only [stP, List.replicate, List.cons_append, List.nil_append, renH, renO_fl]; rfl
theorem renH_stP10 (r : Nat → Nat) (n : Nat) (l : List Nat) : renH r (stP 10 n l) = [.row [.slc (r 10) 0 n 1], .dead, .dead, .dead, .dead, .dead, .dead, .dead, .dead, .dead, .row (l.map fl)] := by
  simp only [stP, List.replicate, List.cons_append, List.nil_append, renH, renO_fl]; rfl
theorem renH_stP12 (r : Nat → Nat) (n : Nat) (l : List Nat) : renH r (stP 12 n l) = [.row [.slc (r 12) 0 n 1], .dead, .dead, .dead, .dead, .dead, .dead, .dead, .dead, .dead, .dead, .dead, .row (l.map fl)] := by
  simp only [stP, List.replicate, List.cons_append, List.nil_append, renH, renO_fl]; rfl
theorem run_ok (p : List (Int × Nat)) (x : Nat) (hx : x < 18446744073709551616) (hp : ∀ c ∈ p, okC c) (hl : p.length < 4611686018427387904) : ACalls Try.prog 22 [.view p.length (flat cd p), fl x] [] (RunR x p) := by
  refine acalls_of_awp hT mixed Try.func22 rfl (by kernel_rfl) (by kernel_rfl) (Nat.le_of_ble_eq_true rfl) ?_
  refine loopG (α := RunSt p x) (fun z => [(0, .view p.length (flat cd p)), (1, fl x), (6, .ptr 0 0), (11, .view p.length (flat cd p)), (12, i64 p.length), (13, i64 (z.k : Nat))]) (fun z => stH z.n z.l) [] (fun z => p.length - z.k)
    ⟨0, 0, [], Nat.zero_le _, Nat.zero_le _, ⟨Nat.zero_le _, fun b hb => by cases hb⟩, rfl⟩ [.cell 0 0 1] [0, 1] ⟨⟨rfl, rfl, rfl, rfl, rfl, rfl, True.intro⟩, ⟨.inl rfl, .inl rfl, True.intro⟩, rfl, rfl, rfl⟩ ?_
  rintro ⟨k, n, l, hk, hn, hs, hr⟩ K hK
  have hinc : wrp .i64 ((k : Int) + 1) = ((k + 1 : Nat) : Int) := by rw [wrpE, wi64]; omega
  refine forkD (fun h => ?_) (fun h => ?_)
  · have h' : k < p.length := by have : (k : Int) < (p.length : Int) := h; omega
    obtain ⟨c, hc⟩ : ∃ c, p[k]? = some c := ⟨_, List.getElem?_eq_getElem h'⟩
    refine Ob.intro (show (0 : Int) ≤ (k : Nat) ∧ ((k : Nat) : Int) < (p.length : Nat) by omega) ?_
    refine optK_intro (flat_takeN cd_len hc) ?_
    have hcp := hp c (List.mem_of_getElem? hc)
    have ht := try_ok c.1 c.2 x n l (by have := hs.1; rw [List.length_take] at this; omega) hn (fun b hb => hs.2 b hb) hcp.1
    have hd : p.drop k = c :: p.drop (k + 1) := by
      obtain ⟨hi, rfl⟩ := List.getElem?_eq_some_iff.1 hc
      exact List.drop_eq_getElem_cons hi
    rw [hd] at hr
    refine callS ht [0, 1] ⟨.inl rfl, .inl (by rw [renO_fl]; rfl), True.intro⟩ rfl ?_
    intro E G hR _
    cases hq : stepS c.1 c.2 x (l.take n) with
    | none =>
      rw [hq] at hR
      obtain ⟨rfl, rfl⟩ := hR
      refine ⟨_, [.row [.slc 7 0 (l.take n).length 1], .dead, .row (cd c), .dead, .dead, .dead, .dead, .row ((l.take n).map fl)], rfl, by rw [renH_stP6]; rfl, ?_⟩
      have e1 : (runS x p []).1 = l.take n := by rw [hr]; simp only [runS, hq]
      have e2 : (runS x p []).2 = k := by rw [hr]; simp only [runS, hq, Nat.zero_add]
      have hb : belowH 8 (stP 7 (l.take n).length (l.take n)) = true := by
        simp only [stP, List.replicate, List.cons_append, List.nil_append, belowH, belowO, belowL_fl]
        rfl
      refine endG rfl rfl rfl (G := stP 7 (l.take n).length (l.take n)) ⟨.inl rfl, .inl rfl, .inr rfl, .inl rfl, .inl rfl, .inl rfl, .inl rfl, .inl rfl, True.intro⟩ (Nat.zero_le _) hb ⟨by rw [e2]; rfl, _, _, Nat.le_refl _, by rw [List.take_length, e1], .inr rfl⟩
    | some L =>
      rw [hq] at hR
      obtain ⟨rfl, l', n', h1, h2, rfl | rfl | rfl⟩ := hR
      all_goals
        have hst : stk (l'.take n') := by rw [h2]; exact (stepS_stk hcp.1 hcp.2 hx hs hq).1
        have hrun : runS x p [] = ((runS x (p.drop (k + 1)) (l'.take n')).1, (runS x (p.drop (k + 1)) (l'.take n')).2 + (k + 1)) := by
          rw [hr, h2]
          simp only [runS, hq]
          rw [Nat.add_assoc, Nat.add_comm 1 k]
      · refine ⟨_, [.row [.slc 1 0 n' 1], .row (l'.map fl), .row (cd c)], rfl, by rw [show stP 1 n' l' = stH n' l' from rfl, renH_st]; rfl, ?_⟩
        refine hK ⟨k + 1, n', l', by omega, h1, hst, ?_⟩ [] [0, 1] _ (show p.length - k = p.length - (k + 1) + 1 by omega) ⟨⟨rfl, rfl, rfl, rfl, rfl, congrArg i64 hinc, True.intro⟩, ⟨.inl rfl, .inl (by rw [renO_fl]; rfl), True.intro⟩, rfl, rfl, rfl⟩
        exact hrun
      · refine ⟨_, [.row [.slc 11 0 n' 1], .dead, .row (cd c), .dead, .dead, .dead, .dead, .dead, .dead, .dead, .dead, .row (l'.map fl)], rfl, by rw [renH_stP10]; rfl, ?_⟩
        refine hK ⟨k + 1, n', l', by omega, h1, hst, ?_⟩ [] [0, 11] _ (show p.length - k = p.length - (k + 1) + 1 by omega) ⟨⟨rfl, rfl, rfl, rfl, rfl, congrArg i64 hinc, True.intro⟩, ⟨.inl rfl, .inl (by rw [renO_fl]; rfl), True.intro⟩, rfl, rfl, rfl⟩
        exact hrun
      · refine ⟨_, [.row [.slc 13 0 n' 1], .dead, .row (cd c), .dead, .dead, .dead, .dead, .dead, .dead, .dead, .dead, .dead, .dead, .row (l'.map fl)], rfl, by rw [renH_stP12]; rfl, ?_⟩
        refine hK ⟨k + 1, n', l', by omega, h1, hst, ?_⟩ [] [0, 13] _ (show p.length - k = p.length - (k + 1) + 1 by omega) ⟨⟨rfl, rfl, rfl, rfl, rfl, congrArg i64 hinc, True.intro⟩, ⟨.inl rfl, .inl (by rw [renO_fl]; rfl), True.intro⟩, rfl, rfl, rfl⟩
        exact hrun
  · have h' : k = p.length := by have : ¬ (k : Int) < (p.length : Int) := h; omega
    subst h'
    rw [List.drop_length] at hr
    have e1 : (runS x p []).1 = l.take n := by rw [hr]; rfl
    have e2 : (runS x p []).2 = p.length := by rw [hr]; exact Nat.zero_add _
    refine endG rfl rfl rfl (G := stH n l) ⟨.inl rfl, .inl rfl, True.intro⟩ (Nat.zero_le _) (belowH_st _ _) ⟨by rw [e2]; rfl, n, l, hn, e1.symm, .inl rfl⟩
end Go.Proofs.Ytdjpcmlnhkiokaa.A
