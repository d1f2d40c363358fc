/- expr: one step. No condition. -/
import Derived.Test.YtdjpcmlnhkiokaaEb
namespace Go.Proofs.Ytdjpcmlnhkiokaa.A
open Go
set_option linter.unusedVariables false
set_option maxRecDepth 100000
set_option pp.maxSteps 1500

def takesS (op : Int) : Nat := if op ≤ 2 then 0 else if op ≤ 8 then 2 else if op ≤ 11 ∨ op = 15 then 1 else if op = 12 then 1 else if op = 13 then 2 else if op = 14 then 1 else 3
def putsS (op : Int) : Nat := if op ≤ 2 then 1 else if op ≤ 8 then 1 else if op ≤ 11 ∨ op = 15 then 1 else if op = 12 then 2 else if op = 13 then 2 else if op = 14 then 0 else 1
def at0 (l : List Nat) (k : Nat) : Nat := l.getD k 0
/-- What a step puts for what it takes. -/
noncomputable def outS (op : Int) (own x : Nat) (l : List Nat) : Option (List Nat) :=
  if op = 1 then some [bitsB x] else if op = 2 then some [bitsB (bitsB own)] else if op ≤ 8 then some [bitsO (twoO op (at0 l 0) (at0 l 1))]
  else if op = 9 then some [bitsB (Op.negFloat .f64 (at0 l 0))] else if op = 10 then some [bitsB (at0 l 0 % 9223372036854775808)] else if op = 11 then some [bitsB (floorB (at0 l 0))]
  else if op = 12 then some [bitsB (at0 l 0), bitsB (at0 l 0)] else if op = 13 then some [bitsB (at0 l 1), bitsB (at0 l 0)] else if op = 14 then some []
  else if op = 15 then (if nanB (at0 l 0) = true then none else if infB (at0 l 0) = true then none else some [bitsB (at0 l 0)])
  else (if decide (5 < classB (at0 l 2)) = true then some [bitsB (at0 l 0)] else some [bitsB (at0 l 1)])
/-- One step of a program. -/
noncomputable def stepS (op : Int) (own x : Nat) (s : List Nat) : Option (List Nat) :=
  if s.length < takesS op ∨ 8 < s.length - takesS op + putsS op then none
  else (outS op own x (s.drop (s.length - takesS op))).map (s.take (s.length - takesS op) ++ ·)
theorem stepS_eq {op : Int} {own x m k : Nat} {l o : List Nat} (hk : takesS op = k) (hn : m + k ≤ l.length) (hp : m + putsS op ≤ 8) (ho : outS op own x ((l.take (m + k)).drop m) = some o) : stepS op own x (l.take (m + k)) = some (l.take m ++ o) := by
  have hlen : (l.take (m + k)).length = m + k := by rw [List.length_take]; omega
  unfold stepS
  rw [hlen, hk, if_neg (by omega), Nat.add_sub_cancel, ho, List.take_take, Nat.min_eq_left (by omega)]
  rfl
theorem stepS_bad {op : Int} {own x m k : Nat} {l : List Nat} (hk : takesS op = k) (hn : m + k ≤ l.length) (ho : outS op own x ((l.take (m + k)).drop m) = none) : stepS op own x (l.take (m + k)) = none := by
  have hlen : (l.take (m + k)).length = m + k := by rw [List.length_take]; omega
  unfold stepS
  rw [hlen, hk, Nat.add_sub_cancel, ho]
  split <;> rfl
theorem stepS_few {op : Int} {own x n : Nat} {l : List Nat} (hn : n ≤ l.length) (h : n < takesS op ∨ 8 < n - takesS op + putsS op) : stepS op own x (l.take n) = none := by
  have hlen : (l.take n).length = n := by rw [List.length_take]; omega
  unfold stepS
  rw [hlen, if_pos h]
theorem top1 {l : List Nat} {m : Nat} (h : m + 1 ≤ l.length) : ∃ a, l[m]? = some a ∧ (l.take (m + 1)).drop m = [a] ∧ a ∈ l.take (m + 1) := by
  have ha : l[m]? = some l[m] := List.getElem?_eq_getElem (by omega)
  refine ⟨l[m], ha, ?_, ?_⟩
  · rw [take_snocA ha, List.drop_append_of_le_length (by rw [List.length_take]; omega), List.drop_of_length_le (by rw [List.length_take]; omega)]
    rfl
  · rw [take_snocA ha]
    exact List.mem_append_right _ (List.mem_singleton.2 rfl)
theorem top2 {l : List Nat} {m : Nat} (h : m + 2 ≤ l.length) : ∃ a b, l[m]? = some a ∧ l[m + 1]? = some b ∧ (l.take (m + 2)).drop m = [a, b] ∧ a ∈ l.take (m + 2) ∧ b ∈ l.take (m + 2) := by
  obtain ⟨a, h1, h2, h3⟩ := top1 (l := l) (m := m) (by omega)
  have hb : l[m + 1]? = some l[m + 1] := List.getElem?_eq_getElem (by omega)
  have ht : l.take (m + 2) = l.take (m + 1) ++ [l[m + 1]] := take_snocA hb
  refine ⟨a, l[m + 1], h1, hb, ?_, ?_, ?_⟩
  · rw [ht, List.drop_append_of_le_length (by rw [List.length_take]; omega), h2]
    rfl
  · rw [ht]
    exact List.mem_append_left _ h3
  · rw [ht]
    exact List.mem_append_right _ (List.mem_singleton.2 rfl)
theorem top3 {l : List Nat} {m : Nat} (h : m + 3 ≤ l.length) : ∃ a b c, l[m]? = some a ∧ l[m + 1]? = some b ∧ l[m + 2]? = some c ∧ (l.take (m + 3)).drop m = [a, b, c] ∧ c ∈ l.take (m + 3) := by
  obtain ⟨a, b, h1, h2, h3, _, _⟩ := top2 (l := l) (m := m) (by omega)
  have hb : l[m + 2]? = some l[m + 2] := List.getElem?_eq_getElem (by omega)
  have ht : l.take (m + 3) = l.take (m + 2) ++ [l[m + 2]] := take_snocA hb
  refine ⟨a, b, l[m + 2], h1, h2, hb, ?_, ?_⟩
  · rw [ht, List.drop_append_of_le_length (by rw [List.length_take]; omega), h3]
    rfl
  · rw [ht]
    exact List.mem_append_right _ (List.mem_singleton.2 rfl)
def stS4 (n : Nat) (l : List Nat) : Heap := [.row [.slc 4 0 n 1], .dead, .dead, .dead, .row (l.map fl)]
def stS6 (n : Nat) (l : List Nat) : Heap := [.row [.slc 6 0 n 1], .dead, .dead, .dead, .dead, .dead, .row (l.map fl)]
theorem belowH_st4 (n : Nat) (l : List Nat) : belowH 5 (stS4 n l) = true := by
  simp only [stS4, belowH, belowO, belowL_fl]
  rfl
theorem belowH_st6 (n : Nat) (l : List Nat) : belowH 7 (stS6 n l) = true := by
  simp only [stS6, belowH, belowO, belowL_fl]
  rfl
def StepR (o : Option (List Nat)) : AEnd → Heap → Prop := fun E G => match o with
  | some L => E = .ret (.tup []) ∧ ∃ l n, n ≤ l.length ∧ l.take n = L ∧ (G = stH n l ∨ G = stS4 n l ∨ G = stS6 n l)
  | none => E = .pan oddV ∧ ∃ n, G = [.row [.slc 1 0 n 1], .dead] ∨ G = [.row [.slc 4 0 n 1], .dead, .dead, .dead, .dead]
theorem renL_fl (r : Nat → Nat) (l : List Nat) : renL r (l.map fl) = l.map fl := renL_map (fun _ _ => rfl) r l
theorem renO_fl (r : Nat → Nat) (l : List Nat) : renO r (.row (l.map fl)) = .row (l.map fl) := by simp only [renO, renL_fl]
theorem renH_st (r : Nat → Nat) (n : Nat) (l : List Nat) : renH r (stH n l) = [.row [.slc (r 1) 0 n 1], .row (l.map fl)] := by simp only [stH, renH, renO_fl]; rfl
theorem renH_st3 (r : Nat → Nat) (n : Nat) (l : List Nat) : renH r (stH3 n l) = [.row [.slc (r 3) 0 n 1], .dead, .dead, .row (l.map fl)] := by simp only [stH3, renH, renO_fl]; rfl
theorem ren_flo (r : Nat → Nat) (v : Option Nat) : ren r (flo v) = flo v := by cases v <;> rfl
theorem callPan {g : FuncId} {bs args : List AV} {Hs Hs' H H' : Heap} {K : AV → Heap → Prop} {Kp : Value → Heap → Prop} (h : SurePan g bs Hs Hs') (is : List Nat) (ha : args = renL (rn is H.length) bs)
    (hsel : Sel H (rn is H.length) is Hs) (hn : noDup is = true) (hm : merge H is (renH (rn is H.length) Hs') = H') (k : Kp oddV H') : ACalls Try.prog g args H (panK K Kp) := by
  subst ha
  refine callS h is hsel hn ?_
  rintro E G ⟨rfl, rfl⟩ _
  exact ⟨_, _, rfl, hm, k⟩
theorem step1_ok (own x n : Nat) (l : List Nat) (h8 : n ≤ 8) (hn : n ≤ l.length) (hc : ∀ b ∈ l.take n, b < 18446744073709551616 ∧ bitsB b = b) : ACalls Try.prog 34 [.ptr 0 0, .agg [i64 1, u64 own], fl x] (stH n l) (StepR (stepS 1 own x (l.take n))) := by
  by_cases hlt : n < 8
  · have e : stepS 1 own x (l.take n) = some (l.take n ++ [bitsO (some x)]) := stepS_eq (m := n) (k := 0) rfl hn (show n + 1 ≤ 8 by omega) rfl
    rw [e]
    refine acalls_of_awp hT mixed Try.func34 rfl (by kernel_rfl) (by kernel_rfl) (Nat.le_of_ble_eq_true rfl) ?_
    refine callH (args := [.ptr 0 0, flo (some x)]) (H := [.row [.slc 1 0 (n) 1], .row (l.map fl), .row [i64 1, u64 own]]) (H' := [.row [.slc 4 0 (n + 1) 1], .dead, .row [i64 1, u64 own], .dead, .row ((l.take (n) ++ [bitsO (some x)]).map fl)]) (push_ok (n) l (some x) (by omega) (by omega)) [0, 1] rfl ⟨.inl rfl, .inl (by rw [renO_fl]; rfl), True.intro⟩ rfl rfl (by rw [renH_st3]; rfl) ?_
    refine endG rfl rfl rfl (G := stS4 (n + 1) (l.take (n) ++ [bitsO (some x)])) ⟨.inl rfl, .inl rfl, .inr rfl, .inl rfl, .inl rfl, True.intro⟩ (show 2 ≤ 5 by decide) (belowH_st4 _ _) ⟨rfl, _, _, ?_, ?_, .inr (.inl rfl)⟩
    · rw [List.length_append, List.length_take, List.length_singleton]; omega
    · rw [List.take_of_length_le (by rw [List.length_append, List.length_take, List.length_singleton]; omega)]
  · rw [stepS_few (op := 1) (own := own) (x := x) hn (.inr (show 8 < n - 0 + 1 by omega))]
    refine acalls_of_awp hT mixed Try.func34 rfl (by kernel_rfl) (by kernel_rfl) (Nat.le_of_ble_eq_true rfl) ?_
    refine callPan (H := [.row [.slc 1 0 (n) 1], .row (l.map fl), .row [i64 1, u64 own]]) (H' := [.row [.slc 1 0 (n) 1], .row (l.map fl), .row [i64 1, u64 own]]) (args := [.ptr 0 0, flo (some (x))]) (push_odd (n) l (some (x)) (by omega)) [0, 1] rfl ⟨.inl rfl, .inl (by rw [renO_fl]; rfl), True.intro⟩ rfl (by rw [renH_st]; rfl) ?_
    exact ⟨rfl, [.row [.slc 1 0 (n) 1], .dead], ⟨.inl rfl, .inr rfl, True.intro⟩, Nat.le_refl 2, rfl, rfl, _, .inl rfl⟩
theorem step2_ok (own x n : Nat) (l : List Nat) (h8 : n ≤ 8) (hn : n ≤ l.length) (hc : ∀ b ∈ l.take n, b < 18446744073709551616 ∧ bitsB b = b) : ACalls Try.prog 34 [.ptr 0 0, .agg [i64 2, u64 own], fl x] (stH n l) (StepR (stepS 2 own x (l.take n))) := by
  have hf := from_ok own
  by_cases hlt : n < 8
  · have e : stepS 2 own x (l.take n) = some (l.take n ++ [bitsO (some (bitsB own))]) := stepS_eq (m := n) (k := 0) rfl hn (show n + 1 ≤ 8 by omega) rfl
    rw [e]
    refine acalls_of_awp hT mixed Try.func34 rfl (by kernel_rfl) (by kernel_rfl) (Nat.le_of_ble_eq_true rfl) ?_
    refine callP hf rfl rfl ?_
    refine callH (args := [.ptr 0 0, flo (some (bitsB own))]) (H := [.row [.slc 1 0 (n) 1], .row (l.map fl), .row [i64 2, u64 own]]) (H' := [.row [.slc 4 0 (n + 1) 1], .dead, .row [i64 2, u64 own], .dead, .row ((l.take (n) ++ [bitsO (some (bitsB own))]).map fl)]) (push_ok (n) l (some (bitsB own)) (by omega) (by omega)) [0, 1] rfl ⟨.inl rfl, .inl (by rw [renO_fl]; rfl), True.intro⟩ rfl rfl (by rw [renH_st3]; rfl) ?_
    refine endG rfl rfl rfl (G := stS4 (n + 1) (l.take (n) ++ [bitsO (some (bitsB own))])) ⟨.inl rfl, .inl rfl, .inr rfl, .inl rfl, .inl rfl, True.intro⟩ (show 2 ≤ 5 by decide) (belowH_st4 _ _) ⟨rfl, _, _, ?_, ?_, .inr (.inl rfl)⟩
    · rw [List.length_append, List.length_take, List.length_singleton]; omega
    · rw [List.take_of_length_le (by rw [List.length_append, List.length_take, List.length_singleton]; omega)]
  · rw [stepS_few (op := 2) (own := own) (x := x) hn (.inr (show 8 < n - 0 + 1 by omega))]
    refine acalls_of_awp hT mixed Try.func34 rfl (by kernel_rfl) (by kernel_rfl) (Nat.le_of_ble_eq_true rfl) ?_
    refine callP hf rfl rfl ?_
    refine callPan (H := [.row [.slc 1 0 (n) 1], .row (l.map fl), .row [i64 2, u64 own]]) (H' := [.row [.slc 1 0 (n) 1], .row (l.map fl), .row [i64 2, u64 own]]) (args := [.ptr 0 0, flo (some (bitsB own))]) (push_odd (n) l (some (bitsB own)) (by omega)) [0, 1] rfl ⟨.inl rfl, .inl (by rw [renO_fl]; rfl), True.intro⟩ rfl (by rw [renH_st]; rfl) ?_
    exact ⟨rfl, [.row [.slc 1 0 (n) 1], .dead], ⟨.inl rfl, .inr rfl, True.intro⟩, Nat.le_refl 2, rfl, rfl, _, .inl rfl⟩
theorem step3_ok (own x n : Nat) (l : List Nat) (h8 : n ≤ 8) (hn : n ≤ l.length) (hc : ∀ b ∈ l.take n, b < 18446744073709551616 ∧ bitsB b = b) : ACalls Try.prog 34 [.ptr 0 0, .agg [i64 3, u64 own], fl x] (stH n l) (StepR (stepS 3 own x (l.take n))) := by
  rcases n with _ | _ | m
  · rw [stepS_few (op := 3) (own := own) (x := x) hn (.inl (show 0 < 2 by decide))]
    refine acalls_of_awp hT mixed Try.func34 rfl (by kernel_rfl) (by kernel_rfl) (Nat.le_of_ble_eq_true rfl) ?_
    refine callPan (H' := [.row [.slc 1 0 0 1], .row (l.map fl), .row [i64 3, u64 own]]) (pop_odd l) [0, 1] rfl ⟨.inl rfl, .inl (by rw [renO_fl]; rfl), True.intro⟩ rfl (by rw [renH_st]; rfl) ?_
    exact ⟨rfl, [.row [.slc 1 0 0 1], .dead], ⟨.inl rfl, .inr rfl, True.intro⟩, Nat.le_refl 2, rfl, rfl, _, .inl rfl⟩
  · rw [stepS_few (op := 3) (own := own) (x := x) hn (.inl (show 1 < 2 by decide))]
    obtain ⟨a, h1, h2, h3⟩ := top1 (l := l) (m := 0) hn
    refine acalls_of_awp hT mixed Try.func34 rfl (by kernel_rfl) (by kernel_rfl) (Nat.le_of_ble_eq_true rfl) ?_
    refine callH (H' := [.row [.slc 1 0 (0) 1], .row (l.map fl), .row [i64 3, u64 own]]) (pop_ok (0) l _ h1 (by omega)) [0, 1] rfl ⟨.inl rfl, .inl (by rw [renO_fl]; rfl), True.intro⟩ rfl rfl (by rw [renH_st]; rfl) ?_
    refine callPan (H' := [.row [.slc 1 0 0 1], .row (l.map fl), .row [i64 3, u64 own]]) (pop_odd l) [0, 1] rfl ⟨.inl rfl, .inl (by rw [renO_fl]; rfl), True.intro⟩ rfl (by rw [renH_st]; rfl) ?_
    exact ⟨rfl, [.row [.slc 1 0 0 1], .dead], ⟨.inl rfl, .inr rfl, True.intro⟩, Nat.le_refl 2, rfl, rfl, _, .inl rfl⟩
  · obtain ⟨a, b, h1, h2, h3, h4, h5⟩ := top2 (l := l) (m := m) hn
    rw [stepS_eq (op := 3) (own := own) (x := x) (k := 2) (o := [bitsO (twoO 3 a b)]) rfl hn (show m + 1 ≤ 8 by omega) (by rw [h3]; rfl)]
    have h := two_ok 3 a b (by decide) (by decide) (hc a h4).1 (hc b h5).1
    generalize twoO 3 a b = v at *
    cases v with
    | none =>
      refine acalls_of_awp hT mixed Try.func34 rfl (by kernel_rfl) (by kernel_rfl) (Nat.le_of_ble_eq_true rfl) ?_
      refine callH (H' := [.row [.slc 1 0 (m + 1) 1], .row (l.map fl), .row [i64 3, u64 own]]) (pop_ok (m + 1) l _ h2 (by omega)) [0, 1] rfl ⟨.inl rfl, .inl (by rw [renO_fl]; rfl), True.intro⟩ rfl rfl (by rw [renH_st]; rfl) ?_
      refine callH (H' := [.row [.slc 1 0 (m) 1], .row (l.map fl), .row [i64 3, u64 own]]) (pop_ok (m) l _ h1 (by omega)) [0, 1] rfl ⟨.inl rfl, .inl (by rw [renO_fl]; rfl), True.intro⟩ rfl rfl (by rw [renH_st]; rfl) ?_
      refine callP h rfl rfl ?_
      refine callH (args := [.ptr 0 0, flo (none)]) (H := [.row [.slc 1 0 (m) 1], .row (l.map fl), .row [i64 3, u64 own]]) (H' := [.row [.slc 4 0 (m + 1) 1], .dead, .row [i64 3, u64 own], .dead, .row ((l.take (m) ++ [bitsO (none)]).map fl)]) (push_ok (m) l (none) (by omega) (by omega)) [0, 1] rfl ⟨.inl rfl, .inl (by rw [renO_fl]; rfl), True.intro⟩ rfl rfl (by rw [renH_st3]; rfl) ?_
      refine endG rfl rfl rfl (G := stS4 (m + 1) (l.take (m) ++ [bitsO (none)])) ⟨.inl rfl, .inl rfl, .inr rfl, .inl rfl, .inl rfl, True.intro⟩ (show 2 ≤ 5 by decide) (belowH_st4 _ _) ⟨rfl, _, _, ?_, ?_, .inr (.inl rfl)⟩
      · rw [List.length_append, List.length_take, List.length_singleton]; omega
      · rw [List.take_of_length_le (by rw [List.length_append, List.length_take, List.length_singleton]; omega)]
    | some r =>
      refine acalls_of_awp hT mixed Try.func34 rfl (by kernel_rfl) (by kernel_rfl) (Nat.le_of_ble_eq_true rfl) ?_
      refine callH (H' := [.row [.slc 1 0 (m + 1) 1], .row (l.map fl), .row [i64 3, u64 own]]) (pop_ok (m + 1) l _ h2 (by omega)) [0, 1] rfl ⟨.inl rfl, .inl (by rw [renO_fl]; rfl), True.intro⟩ rfl rfl (by rw [renH_st]; rfl) ?_
      refine callH (H' := [.row [.slc 1 0 (m) 1], .row (l.map fl), .row [i64 3, u64 own]]) (pop_ok (m) l _ h1 (by omega)) [0, 1] rfl ⟨.inl rfl, .inl (by rw [renO_fl]; rfl), True.intro⟩ rfl rfl (by rw [renH_st]; rfl) ?_
      refine callP h rfl rfl ?_
      refine callH (args := [.ptr 0 0, flo (some r)]) (H := [.row [.slc 1 0 (m) 1], .row (l.map fl), .row [i64 3, u64 own]]) (H' := [.row [.slc 4 0 (m + 1) 1], .dead, .row [i64 3, u64 own], .dead, .row ((l.take (m) ++ [bitsO (some r)]).map fl)]) (push_ok (m) l (some r) (by omega) (by omega)) [0, 1] rfl ⟨.inl rfl, .inl (by rw [renO_fl]; rfl), True.intro⟩ rfl rfl (by rw [renH_st3]; rfl) ?_
      refine endG rfl rfl rfl (G := stS4 (m + 1) (l.take (m) ++ [bitsO (some r)])) ⟨.inl rfl, .inl rfl, .inr rfl, .inl rfl, .inl rfl, True.intro⟩ (show 2 ≤ 5 by decide) (belowH_st4 _ _) ⟨rfl, _, _, ?_, ?_, .inr (.inl rfl)⟩
      · rw [List.length_append, List.length_take, List.length_singleton]; omega
      · rw [List.take_of_length_le (by rw [List.length_append, List.length_take, List.length_singleton]; omega)]
theorem step4_ok (own x n : Nat) (l : List Nat) (h8 : n ≤ 8) (hn : n ≤ l.length) (hc : ∀ b ∈ l.take n, b < 18446744073709551616 ∧ bitsB b = b) : ACalls Try.prog 34 [.ptr 0 0, .agg [i64 4, u64 own], fl x] (stH n l) (StepR (stepS 4 own x (l.take n))) := by
  rcases n with _ | _ | m
  · rw [stepS_few (op := 4) (own := own) (x := x) hn (.inl (show 0 < 2 by decide))]
    refine acalls_of_awp hT mixed Try.func34 rfl (by kernel_rfl) (by kernel_rfl) (Nat.le_of_ble_eq_true rfl) ?_
    refine callPan (H' := [.row [.slc 1 0 0 1], .row (l.map fl), .row [i64 4, u64 own]]) (pop_odd l) [0, 1] rfl ⟨.inl rfl, .inl (by rw [renO_fl]; rfl), True.intro⟩ rfl (by rw [renH_st]; rfl) ?_
    exact ⟨rfl, [.row [.slc 1 0 0 1], .dead], ⟨.inl rfl, .inr rfl, True.intro⟩, Nat.le_refl 2, rfl, rfl, _, .inl rfl⟩
  · rw [stepS_few (op := 4) (own := own) (x := x) hn (.inl (show 1 < 2 by decide))]
    obtain ⟨a, h1, h2, h3⟩ := top1 (l := l) (m := 0) hn
    refine acalls_of_awp hT mixed Try.func34 rfl (by kernel_rfl) (by kernel_rfl) (Nat.le_of_ble_eq_true rfl) ?_
    refine callH (H' := [.row [.slc 1 0 (0) 1], .row (l.map fl), .row [i64 4, u64 own]]) (pop_ok (0) l _ h1 (by omega)) [0, 1] rfl ⟨.inl rfl, .inl (by rw [renO_fl]; rfl), True.intro⟩ rfl rfl (by rw [renH_st]; rfl) ?_
    refine callPan (H' := [.row [.slc 1 0 0 1], .row (l.map fl), .row [i64 4, u64 own]]) (pop_odd l) [0, 1] rfl ⟨.inl rfl, .inl (by rw [renO_fl]; rfl), True.intro⟩ rfl (by rw [renH_st]; rfl) ?_
    exact ⟨rfl, [.row [.slc 1 0 0 1], .dead], ⟨.inl rfl, .inr rfl, True.intro⟩, Nat.le_refl 2, rfl, rfl, _, .inl rfl⟩
  · obtain ⟨a, b, h1, h2, h3, h4, h5⟩ := top2 (l := l) (m := m) hn
    rw [stepS_eq (op := 4) (own := own) (x := x) (k := 2) (o := [bitsO (twoO 4 a b)]) rfl hn (show m + 1 ≤ 8 by omega) (by rw [h3]; rfl)]
    have h := two_ok 4 a b (by decide) (by decide) (hc a h4).1 (hc b h5).1
    generalize twoO 4 a b = v at *
    cases v with
    | none =>
      refine acalls_of_awp hT mixed Try.func34 rfl (by kernel_rfl) (by kernel_rfl) (Nat.le_of_ble_eq_true rfl) ?_
      refine callH (H' := [.row [.slc 1 0 (m + 1) 1], .row (l.map fl), .row [i64 4, u64 own]]) (pop_ok (m + 1) l _ h2 (by omega)) [0, 1] rfl ⟨.inl rfl, .inl (by rw [renO_fl]; rfl), True.intro⟩ rfl rfl (by rw [renH_st]; rfl) ?_
      refine callH (H' := [.row [.slc 1 0 (m) 1], .row (l.map fl), .row [i64 4, u64 own]]) (pop_ok (m) l _ h1 (by omega)) [0, 1] rfl ⟨.inl rfl, .inl (by rw [renO_fl]; rfl), True.intro⟩ rfl rfl (by rw [renH_st]; rfl) ?_
      refine callP h rfl rfl ?_
      refine callH (args := [.ptr 0 0, flo (none)]) (H := [.row [.slc 1 0 (m) 1], .row (l.map fl), .row [i64 4, u64 own]]) (H' := [.row [.slc 4 0 (m + 1) 1], .dead, .row [i64 4, u64 own], .dead, .row ((l.take (m) ++ [bitsO (none)]).map fl)]) (push_ok (m) l (none) (by omega) (by omega)) [0, 1] rfl ⟨.inl rfl, .inl (by rw [renO_fl]; rfl), True.intro⟩ rfl rfl (by rw [renH_st3]; rfl) ?_
      refine endG rfl rfl rfl (G := stS4 (m + 1) (l.take (m) ++ [bitsO (none)])) ⟨.inl rfl, .inl rfl, .inr rfl, .inl rfl, .inl rfl, True.intro⟩ (show 2 ≤ 5 by decide) (belowH_st4 _ _) ⟨rfl, _, _, ?_, ?_, .inr (.inl rfl)⟩
      · rw [List.length_append, List.length_take, List.length_singleton]; omega
      · rw [List.take_of_length_le (by rw [List.length_append, List.length_take, List.length_singleton]; omega)]
    | some r =>
      refine acalls_of_awp hT mixed Try.func34 rfl (by kernel_rfl) (by kernel_rfl) (Nat.le_of_ble_eq_true rfl) ?_
      refine callH (H' := [.row [.slc 1 0 (m + 1) 1], .row (l.map fl), .row [i64 4, u64 own]]) (pop_ok (m + 1) l _ h2 (by omega)) [0, 1] rfl ⟨.inl rfl, .inl (by rw [renO_fl]; rfl), True.intro⟩ rfl rfl (by rw [renH_st]; rfl) ?_
      refine callH (H' := [.row [.slc 1 0 (m) 1], .row (l.map fl), .row [i64 4, u64 own]]) (pop_ok (m) l _ h1 (by omega)) [0, 1] rfl ⟨.inl rfl, .inl (by rw [renO_fl]; rfl), True.intro⟩ rfl rfl (by rw [renH_st]; rfl) ?_
      refine callP h rfl rfl ?_
      refine callH (args := [.ptr 0 0, flo (some r)]) (H := [.row [.slc 1 0 (m) 1], .row (l.map fl), .row [i64 4, u64 own]]) (H' := [.row [.slc 4 0 (m + 1) 1], .dead, .row [i64 4, u64 own], .dead, .row ((l.take (m) ++ [bitsO (some r)]).map fl)]) (push_ok (m) l (some r) (by omega) (by omega)) [0, 1] rfl ⟨.inl rfl, .inl (by rw [renO_fl]; rfl), True.intro⟩ rfl rfl (by rw [renH_st3]; rfl) ?_
      refine endG rfl rfl rfl (G := stS4 (m + 1) (l.take (m) ++ [bitsO (some r)])) ⟨.inl rfl, .inl rfl, .inr rfl, .inl rfl, .inl rfl, True.intro⟩ (show 2 ≤ 5 by decide) (belowH_st4 _ _) ⟨rfl, _, _, ?_, ?_, .inr (.inl rfl)⟩
      · rw [List.length_append, List.length_take, List.length_singleton]; omega
      · rw [List.take_of_length_le (by rw [List.length_append, List.length_take, List.length_singleton]; omega)]
theorem step5_ok (own x n : Nat) (l : List Nat) (h8 : n ≤ 8) (hn : n ≤ l.length) (hc : ∀ b ∈ l.take n, b < 18446744073709551616 ∧ bitsB b = b) : ACalls Try.prog 34 [.ptr 0 0, .agg [i64 5, u64 own], fl x] (stH n l) (StepR (stepS 5 own x (l.take n))) := by
  rcases n with _ | _ | m
  · rw [stepS_few (op := 5) (own := own) (x := x) hn (.inl (show 0 < 2 by decide))]
    refine acalls_of_awp hT mixed Try.func34 rfl (by kernel_rfl) (by kernel_rfl) (Nat.le_of_ble_eq_true rfl) ?_
    refine callPan (H' := [.row [.slc 1 0 0 1], .row (l.map fl), .row [i64 5, u64 own]]) (pop_odd l) [0, 1] rfl ⟨.inl rfl, .inl (by rw [renO_fl]; rfl), True.intro⟩ rfl (by rw [renH_st]; rfl) ?_
    exact ⟨rfl, [.row [.slc 1 0 0 1], .dead], ⟨.inl rfl, .inr rfl, True.intro⟩, Nat.le_refl 2, rfl, rfl, _, .inl rfl⟩
  · rw [stepS_few (op := 5) (own := own) (x := x) hn (.inl (show 1 < 2 by decide))]
    obtain ⟨a, h1, h2, h3⟩ := top1 (l := l) (m := 0) hn
    refine acalls_of_awp hT mixed Try.func34 rfl (by kernel_rfl) (by kernel_rfl) (Nat.le_of_ble_eq_true rfl) ?_
    refine callH (H' := [.row [.slc 1 0 (0) 1], .row (l.map fl), .row [i64 5, u64 own]]) (pop_ok (0) l _ h1 (by omega)) [0, 1] rfl ⟨.inl rfl, .inl (by rw [renO_fl]; rfl), True.intro⟩ rfl rfl (by rw [renH_st]; rfl) ?_
    refine callPan (H' := [.row [.slc 1 0 0 1], .row (l.map fl), .row [i64 5, u64 own]]) (pop_odd l) [0, 1] rfl ⟨.inl rfl, .inl (by rw [renO_fl]; rfl), True.intro⟩ rfl (by rw [renH_st]; rfl) ?_
    exact ⟨rfl, [.row [.slc 1 0 0 1], .dead], ⟨.inl rfl, .inr rfl, True.intro⟩, Nat.le_refl 2, rfl, rfl, _, .inl rfl⟩
  · obtain ⟨a, b, h1, h2, h3, h4, h5⟩ := top2 (l := l) (m := m) hn
    rw [stepS_eq (op := 5) (own := own) (x := x) (k := 2) (o := [bitsO (twoO 5 a b)]) rfl hn (show m + 1 ≤ 8 by omega) (by rw [h3]; rfl)]
    have h := two_ok 5 a b (by decide) (by decide) (hc a h4).1 (hc b h5).1
    generalize twoO 5 a b = v at *
    cases v with
    | none =>
      refine acalls_of_awp hT mixed Try.func34 rfl (by kernel_rfl) (by kernel_rfl) (Nat.le_of_ble_eq_true rfl) ?_
      refine callH (H' := [.row [.slc 1 0 (m + 1) 1], .row (l.map fl), .row [i64 5, u64 own]]) (pop_ok (m + 1) l _ h2 (by omega)) [0, 1] rfl ⟨.inl rfl, .inl (by rw [renO_fl]; rfl), True.intro⟩ rfl rfl (by rw [renH_st]; rfl) ?_
      refine callH (H' := [.row [.slc 1 0 (m) 1], .row (l.map fl), .row [i64 5, u64 own]]) (pop_ok (m) l _ h1 (by omega)) [0, 1] rfl ⟨.inl rfl, .inl (by rw [renO_fl]; rfl), True.intro⟩ rfl rfl (by rw [renH_st]; rfl) ?_
      refine callP h rfl rfl ?_
      refine callH (args := [.ptr 0 0, flo (none)]) (H := [.row [.slc 1 0 (m) 1], .row (l.map fl), .row [i64 5, u64 own]]) (H' := [.row [.slc 4 0 (m + 1) 1], .dead, .row [i64 5, u64 own], .dead, .row ((l.take (m) ++ [bitsO (none)]).map fl)]) (push_ok (m) l (none) (by omega) (by omega)) [0, 1] rfl ⟨.inl rfl, .inl (by rw [renO_fl]; rfl), True.intro⟩ rfl rfl (by rw [renH_st3]; rfl) ?_
      refine endG rfl rfl rfl (G := stS4 (m + 1) (l.take (m) ++ [bitsO (none)])) ⟨.inl rfl, .inl rfl, .inr rfl, .inl rfl, .inl rfl, True.intro⟩ (show 2 ≤ 5 by decide) (belowH_st4 _ _) ⟨rfl, _, _, ?_, ?_, .inr (.inl rfl)⟩
      · rw [List.length_append, List.length_take, List.length_singleton]; omega
      · rw [List.take_of_length_le (by rw [List.length_append, List.length_take, List.length_singleton]; omega)]
    | some r =>
      refine acalls_of_awp hT mixed Try.func34 rfl (by kernel_rfl) (by kernel_rfl) (Nat.le_of_ble_eq_true rfl) ?_
      refine callH (H' := [.row [.slc 1 0 (m + 1) 1], .row (l.map fl), .row [i64 5, u64 own]]) (pop_ok (m + 1) l _ h2 (by omega)) [0, 1] rfl ⟨.inl rfl, .inl (by rw [renO_fl]; rfl), True.intro⟩ rfl rfl (by rw [renH_st]; rfl) ?_
      refine callH (H' := [.row [.slc 1 0 (m) 1], .row (l.map fl), .row [i64 5, u64 own]]) (pop_ok (m) l _ h1 (by omega)) [0, 1] rfl ⟨.inl rfl, .inl (by rw [renO_fl]; rfl), True.intro⟩ rfl rfl (by rw [renH_st]; rfl) ?_
      refine callP h rfl rfl ?_
      refine callH (args := [.ptr 0 0, flo (some r)]) (H := [.row [.slc 1 0 (m) 1], .row (l.map fl), .row [i64 5, u64 own]]) (H' := [.row [.slc 4 0 (m + 1) 1], .dead, .row [i64 5, u64 own], .dead, .row ((l.take (m) ++ [bitsO (some r)]).map fl)]) (push_ok (m) l (some r) (by omega) (by omega)) [0, 1] rfl ⟨.inl rfl, .inl (by rw [renO_fl]; rfl), True.intro⟩ rfl rfl (by rw [renH_st3]; rfl) ?_
      refine endG rfl rfl rfl (G := stS4 (m + 1) (l.take (m) ++ [bitsO (some r)])) ⟨.inl rfl, .inl rfl, .inr rfl, .inl rfl, .inl rfl, True.intro⟩ (show 2 ≤ 5 by decide) (belowH_st4 _ _) ⟨rfl, _, _, ?_, ?_, .inr (.inl rfl)⟩
      · rw [List.length_append, List.length_take, List.length_singleton]; omega
      · rw [List.take_of_length_le (by rw [List.length_append, List.length_take, List.length_singleton]; omega)]
theorem step6_ok (own x n : Nat) (l : List Nat) (h8 : n ≤ 8) (hn : n ≤ l.length) (hc : ∀ b ∈ l.take n, b < 18446744073709551616 ∧ bitsB b = b) : ACalls Try.prog 34 [.ptr 0 0, .agg [i64 6, u64 own], fl x] (stH n l) (StepR (stepS 6 own x (l.take n))) := by
  rcases n with _ | _ | m
  · rw [stepS_few (op := 6) (own := own) (x := x) hn (.inl (show 0 < 2 by decide))]
    refine acalls_of_awp hT mixed Try.func34 rfl (by kernel_rfl) (by kernel_rfl) (Nat.le_of_ble_eq_true rfl) ?_
    refine callPan (H' := [.row [.slc 1 0 0 1], .row (l.map fl), .row [i64 6, u64 own]]) (pop_odd l) [0, 1] rfl ⟨.inl rfl, .inl (by rw [renO_fl]; rfl), True.intro⟩ rfl (by rw [renH_st]; rfl) ?_
    exact ⟨rfl, [.row [.slc 1 0 0 1], .dead], ⟨.inl rfl, .inr rfl, True.intro⟩, Nat.le_refl 2, rfl, rfl, _, .inl rfl⟩
  · rw [stepS_few (op := 6) (own := own) (x := x) hn (.inl (show 1 < 2 by decide))]
    obtain ⟨a, h1, h2, h3⟩ := top1 (l := l) (m := 0) hn
    refine acalls_of_awp hT mixed Try.func34 rfl (by kernel_rfl) (by kernel_rfl) (Nat.le_of_ble_eq_true rfl) ?_
    refine callH (H' := [.row [.slc 1 0 (0) 1], .row (l.map fl), .row [i64 6, u64 own]]) (pop_ok (0) l _ h1 (by omega)) [0, 1] rfl ⟨.inl rfl, .inl (by rw [renO_fl]; rfl), True.intro⟩ rfl rfl (by rw [renH_st]; rfl) ?_
    refine callPan (H' := [.row [.slc 1 0 0 1], .row (l.map fl), .row [i64 6, u64 own]]) (pop_odd l) [0, 1] rfl ⟨.inl rfl, .inl (by rw [renO_fl]; rfl), True.intro⟩ rfl (by rw [renH_st]; rfl) ?_
    exact ⟨rfl, [.row [.slc 1 0 0 1], .dead], ⟨.inl rfl, .inr rfl, True.intro⟩, Nat.le_refl 2, rfl, rfl, _, .inl rfl⟩
  · obtain ⟨a, b, h1, h2, h3, h4, h5⟩ := top2 (l := l) (m := m) hn
    rw [stepS_eq (op := 6) (own := own) (x := x) (k := 2) (o := [bitsO (twoO 6 a b)]) rfl hn (show m + 1 ≤ 8 by omega) (by rw [h3]; rfl)]
    have h := two_ok 6 a b (by decide) (by decide) (hc a h4).1 (hc b h5).1
    generalize twoO 6 a b = v at *
    cases v with
    | none =>
      refine acalls_of_awp hT mixed Try.func34 rfl (by kernel_rfl) (by kernel_rfl) (Nat.le_of_ble_eq_true rfl) ?_
      refine callH (H' := [.row [.slc 1 0 (m + 1) 1], .row (l.map fl), .row [i64 6, u64 own]]) (pop_ok (m + 1) l _ h2 (by omega)) [0, 1] rfl ⟨.inl rfl, .inl (by rw [renO_fl]; rfl), True.intro⟩ rfl rfl (by rw [renH_st]; rfl) ?_
      refine callH (H' := [.row [.slc 1 0 (m) 1], .row (l.map fl), .row [i64 6, u64 own]]) (pop_ok (m) l _ h1 (by omega)) [0, 1] rfl ⟨.inl rfl, .inl (by rw [renO_fl]; rfl), True.intro⟩ rfl rfl (by rw [renH_st]; rfl) ?_
      refine callP h rfl rfl ?_
      refine callH (args := [.ptr 0 0, flo (none)]) (H := [.row [.slc 1 0 (m) 1], .row (l.map fl), .row [i64 6, u64 own]]) (H' := [.row [.slc 4 0 (m + 1) 1], .dead, .row [i64 6, u64 own], .dead, .row ((l.take (m) ++ [bitsO (none)]).map fl)]) (push_ok (m) l (none) (by omega) (by omega)) [0, 1] rfl ⟨.inl rfl, .inl (by rw [renO_fl]; rfl), True.intro⟩ rfl rfl (by rw [renH_st3]; rfl) ?_
      refine endG rfl rfl rfl (G := stS4 (m + 1) (l.take (m) ++ [bitsO (none)])) ⟨.inl rfl, .inl rfl, .inr rfl, .inl rfl, .inl rfl, True.intro⟩ (show 2 ≤ 5 by decide) (belowH_st4 _ _) ⟨rfl, _, _, ?_, ?_, .inr (.inl rfl)⟩
      · rw [List.length_append, List.length_take, List.length_singleton]; omega
      · rw [List.take_of_length_le (by rw [List.length_append, List.length_take, List.length_singleton]; omega)]
    | some r =>
      refine acalls_of_awp hT mixed Try.func34 rfl (by kernel_rfl) (by kernel_rfl) (Nat.le_of_ble_eq_true rfl) ?_
      refine callH (H' := [.row [.slc 1 0 (m + 1) 1], .row (l.map fl), .row [i64 6, u64 own]]) (pop_ok (m + 1) l _ h2 (by omega)) [0, 1] rfl ⟨.inl rfl, .inl (by rw [renO_fl]; rfl), True.intro⟩ rfl rfl (by rw [renH_st]; rfl) ?_
      refine callH (H' := [.row [.slc 1 0 (m) 1], .row (l.map fl), .row [i64 6, u64 own]]) (pop_ok (m) l _ h1 (by omega)) [0, 1] rfl ⟨.inl rfl, .inl (by rw [renO_fl]; rfl), True.intro⟩ rfl rfl (by rw [renH_st]; rfl) ?_
      refine callP h rfl rfl ?_
      refine callH (args := [.ptr 0 0, flo (some r)]) (H := [.row [.slc 1 0 (m) 1], .row (l.map fl), .row [i64 6, u64 own]]) (H' := [.row [.slc 4 0 (m + 1) 1], .dead, .row [i64 6, u64 own], .dead, .row ((l.take (m) ++ [bitsO (some r)]).map fl)]) (push_ok (m) l (some r) (by omega) (by omega)) [0, 1] rfl ⟨.inl rfl, .inl (by rw [renO_fl]; rfl), True.intro⟩ rfl rfl (by rw [renH_st3]; rfl) ?_
      refine endG rfl rfl rfl (G := stS4 (m + 1) (l.take (m) ++ [bitsO (some r)])) ⟨.inl rfl, .inl rfl, .inr rfl, .inl rfl, .inl rfl, True.intro⟩ (show 2 ≤ 5 by decide) (belowH_st4 _ _) ⟨rfl, _, _, ?_, ?_, .inr (.inl rfl)⟩
      · rw [List.length_append, List.length_take, List.length_singleton]; omega
      · rw [List.take_of_length_le (by rw [List.length_append, List.length_take, List.length_singleton]; omega)]
theorem step7_ok (own x n : Nat) (l : List Nat) (h8 : n ≤ 8) (hn : n ≤ l.length) (hc : ∀ b ∈ l.take n, b < 18446744073709551616 ∧ bitsB b = b) : ACalls Try.prog 34 [.ptr 0 0, .agg [i64 7, u64 own], fl x] (stH n l) (StepR (stepS 7 own x (l.take n))) := by
  rcases n with _ | _ | m
  · rw [stepS_few (op := 7) (own := own) (x := x) hn (.inl (show 0 < 2 by decide))]
    refine acalls_of_awp hT mixed Try.func34 rfl (by kernel_rfl) (by kernel_rfl) (Nat.le_of_ble_eq_true rfl) ?_
    refine callPan (H' := [.row [.slc 1 0 0 1], .row (l.map fl), .row [i64 7, u64 own]]) (pop_odd l) [0, 1] rfl ⟨.inl rfl, .inl (by rw [renO_fl]; rfl), True.intro⟩ rfl (by rw [renH_st]; rfl) ?_
    exact ⟨rfl, [.row [.slc 1 0 0 1], .dead], ⟨.inl rfl, .inr rfl, True.intro⟩, Nat.le_refl 2, rfl, rfl, _, .inl rfl⟩
  · rw [stepS_few (op := 7) (own := own) (x := x) hn (.inl (show 1 < 2 by decide))]
    obtain ⟨a, h1, h2, h3⟩ := top1 (l := l) (m := 0) hn
    refine acalls_of_awp hT mixed Try.func34 rfl (by kernel_rfl) (by kernel_rfl) (Nat.le_of_ble_eq_true rfl) ?_
    refine callH (H' := [.row [.slc 1 0 (0) 1], .row (l.map fl), .row [i64 7, u64 own]]) (pop_ok (0) l _ h1 (by omega)) [0, 1] rfl ⟨.inl rfl, .inl (by rw [renO_fl]; rfl), True.intro⟩ rfl rfl (by rw [renH_st]; rfl) ?_
    refine callPan (H' := [.row [.slc 1 0 0 1], .row (l.map fl), .row [i64 7, u64 own]]) (pop_odd l) [0, 1] rfl ⟨.inl rfl, .inl (by rw [renO_fl]; rfl), True.intro⟩ rfl (by rw [renH_st]; rfl) ?_
    exact ⟨rfl, [.row [.slc 1 0 0 1], .dead], ⟨.inl rfl, .inr rfl, True.intro⟩, Nat.le_refl 2, rfl, rfl, _, .inl rfl⟩
  · obtain ⟨a, b, h1, h2, h3, h4, h5⟩ := top2 (l := l) (m := m) hn
    rw [stepS_eq (op := 7) (own := own) (x := x) (k := 2) (o := [bitsO (twoO 7 a b)]) rfl hn (show m + 1 ≤ 8 by omega) (by rw [h3]; rfl)]
    have h := two_ok 7 a b (by decide) (by decide) (hc a h4).1 (hc b h5).1
    generalize twoO 7 a b = v at *
    cases v with
    | none =>
      refine acalls_of_awp hT mixed Try.func34 rfl (by kernel_rfl) (by kernel_rfl) (Nat.le_of_ble_eq_true rfl) ?_
      refine callH (H' := [.row [.slc 1 0 (m + 1) 1], .row (l.map fl), .row [i64 7, u64 own]]) (pop_ok (m + 1) l _ h2 (by omega)) [0, 1] rfl ⟨.inl rfl, .inl (by rw [renO_fl]; rfl), True.intro⟩ rfl rfl (by rw [renH_st]; rfl) ?_
      refine callH (H' := [.row [.slc 1 0 (m) 1], .row (l.map fl), .row [i64 7, u64 own]]) (pop_ok (m) l _ h1 (by omega)) [0, 1] rfl ⟨.inl rfl, .inl (by rw [renO_fl]; rfl), True.intro⟩ rfl rfl (by rw [renH_st]; rfl) ?_
      refine callP h rfl rfl ?_
      refine callH (args := [.ptr 0 0, flo (none)]) (H := [.row [.slc 1 0 (m) 1], .row (l.map fl), .row [i64 7, u64 own]]) (H' := [.row [.slc 4 0 (m + 1) 1], .dead, .row [i64 7, u64 own], .dead, .row ((l.take (m) ++ [bitsO (none)]).map fl)]) (push_ok (m) l (none) (by omega) (by omega)) [0, 1] rfl ⟨.inl rfl, .inl (by rw [renO_fl]; rfl), True.intro⟩ rfl rfl (by rw [renH_st3]; rfl) ?_
      refine endG rfl rfl rfl (G := stS4 (m + 1) (l.take (m) ++ [bitsO (none)])) ⟨.inl rfl, .inl rfl, .inr rfl, .inl rfl, .inl rfl, True.intro⟩ (show 2 ≤ 5 by decide) (belowH_st4 _ _) ⟨rfl, _, _, ?_, ?_, .inr (.inl rfl)⟩
      · rw [List.length_append, List.length_take, List.length_singleton]; omega
      · rw [List.take_of_length_le (by rw [List.length_append, List.length_take, List.length_singleton]; omega)]
    | some r =>
      refine acalls_of_awp hT mixed Try.func34 rfl (by kernel_rfl) (by kernel_rfl) (Nat.le_of_ble_eq_true rfl) ?_
      refine callH (H' := [.row [.slc 1 0 (m + 1) 1], .row (l.map fl), .row [i64 7, u64 own]]) (pop_ok (m + 1) l _ h2 (by omega)) [0, 1] rfl ⟨.inl rfl, .inl (by rw [renO_fl]; rfl), True.intro⟩ rfl rfl (by rw [renH_st]; rfl) ?_
      refine callH (H' := [.row [.slc 1 0 (m) 1], .row (l.map fl), .row [i64 7, u64 own]]) (pop_ok (m) l _ h1 (by omega)) [0, 1] rfl ⟨.inl rfl, .inl (by rw [renO_fl]; rfl), True.intro⟩ rfl rfl (by rw [renH_st]; rfl) ?_
      refine callP h rfl rfl ?_
      refine callH (args := [.ptr 0 0, flo (some r)]) (H := [.row [.slc 1 0 (m) 1], .row (l.map fl), .row [i64 7, u64 own]]) (H' := [.row [.slc 4 0 (m + 1) 1], .dead, .row [i64 7, u64 own], .dead, .row ((l.take (m) ++ [bitsO (some r)]).map fl)]) (push_ok (m) l (some r) (by omega) (by omega)) [0, 1] rfl ⟨.inl rfl, .inl (by rw [renO_fl]; rfl), True.intro⟩ rfl rfl (by rw [renH_st3]; rfl) ?_
      refine endG rfl rfl rfl (G := stS4 (m + 1) (l.take (m) ++ [bitsO (some r)])) ⟨.inl rfl, .inl rfl, .inr rfl, .inl rfl, .inl rfl, True.intro⟩ (show 2 ≤ 5 by decide) (belowH_st4 _ _) ⟨rfl, _, _, ?_, ?_, .inr (.inl rfl)⟩
      · rw [List.length_append, List.length_take, List.length_singleton]; omega
      · rw [List.take_of_length_le (by rw [List.length_append, List.length_take, List.length_singleton]; omega)]
theorem step8_ok (own x n : Nat) (l : List Nat) (h8 : n ≤ 8) (hn : n ≤ l.length) (hc : ∀ b ∈ l.take n, b < 18446744073709551616 ∧ bitsB b = b) : ACalls Try.prog 34 [.ptr 0 0, .agg [i64 8, u64 own], fl x] (stH n l) (StepR (stepS 8 own x (l.take n))) := by
  rcases n with _ | _ | m
  · rw [stepS_few (op := 8) (own := own) (x := x) hn (.inl (show 0 < 2 by decide))]
    refine acalls_of_awp hT mixed Try.func34 rfl (by kernel_rfl) (by kernel_rfl) (Nat.le_of_ble_eq_true rfl) ?_
    refine callPan (H' := [.row [.slc 1 0 0 1], .row (l.map fl), .row [i64 8, u64 own]]) (pop_odd l) [0, 1] rfl ⟨.inl rfl, .inl (by rw [renO_fl]; rfl), True.intro⟩ rfl (by rw [renH_st]; rfl) ?_
    exact ⟨rfl, [.row [.slc 1 0 0 1], .dead], ⟨.inl rfl, .inr rfl, True.intro⟩, Nat.le_refl 2, rfl, rfl, _, .inl rfl⟩
  · rw [stepS_few (op := 8) (own := own) (x := x) hn (.inl (show 1 < 2 by decide))]
    obtain ⟨a, h1, h2, h3⟩ := top1 (l := l) (m := 0) hn
    refine acalls_of_awp hT mixed Try.func34 rfl (by kernel_rfl) (by kernel_rfl) (Nat.le_of_ble_eq_true rfl) ?_
    refine callH (H' := [.row [.slc 1 0 (0) 1], .row (l.map fl), .row [i64 8, u64 own]]) (pop_ok (0) l _ h1 (by omega)) [0, 1] rfl ⟨.inl rfl, .inl (by rw [renO_fl]; rfl), True.intro⟩ rfl rfl (by rw [renH_st]; rfl) ?_
    refine callPan (H' := [.row [.slc 1 0 0 1], .row (l.map fl), .row [i64 8, u64 own]]) (pop_odd l) [0, 1] rfl ⟨.inl rfl, .inl (by rw [renO_fl]; rfl), True.intro⟩ rfl (by rw [renH_st]; rfl) ?_
    exact ⟨rfl, [.row [.slc 1 0 0 1], .dead], ⟨.inl rfl, .inr rfl, True.intro⟩, Nat.le_refl 2, rfl, rfl, _, .inl rfl⟩
  · obtain ⟨a, b, h1, h2, h3, h4, h5⟩ := top2 (l := l) (m := m) hn
    rw [stepS_eq (op := 8) (own := own) (x := x) (k := 2) (o := [bitsO (twoO 8 a b)]) rfl hn (show m + 1 ≤ 8 by omega) (by rw [h3]; rfl)]
    have h := two_ok 8 a b (by decide) (by decide) (hc a h4).1 (hc b h5).1
    generalize twoO 8 a b = v at *
    cases v with
    | none =>
      refine acalls_of_awp hT mixed Try.func34 rfl (by kernel_rfl) (by kernel_rfl) (Nat.le_of_ble_eq_true rfl) ?_
      refine callH (H' := [.row [.slc 1 0 (m + 1) 1], .row (l.map fl), .row [i64 8, u64 own]]) (pop_ok (m + 1) l _ h2 (by omega)) [0, 1] rfl ⟨.inl rfl, .inl (by rw [renO_fl]; rfl), True.intro⟩ rfl rfl (by rw [renH_st]; rfl) ?_
      refine callH (H' := [.row [.slc 1 0 (m) 1], .row (l.map fl), .row [i64 8, u64 own]]) (pop_ok (m) l _ h1 (by omega)) [0, 1] rfl ⟨.inl rfl, .inl (by rw [renO_fl]; rfl), True.intro⟩ rfl rfl (by rw [renH_st]; rfl) ?_
      refine callP h rfl rfl ?_
      refine callH (args := [.ptr 0 0, flo (none)]) (H := [.row [.slc 1 0 (m) 1], .row (l.map fl), .row [i64 8, u64 own]]) (H' := [.row [.slc 4 0 (m + 1) 1], .dead, .row [i64 8, u64 own], .dead, .row ((l.take (m) ++ [bitsO (none)]).map fl)]) (push_ok (m) l (none) (by omega) (by omega)) [0, 1] rfl ⟨.inl rfl, .inl (by rw [renO_fl]; rfl), True.intro⟩ rfl rfl (by rw [renH_st3]; rfl) ?_
      refine endG rfl rfl rfl (G := stS4 (m + 1) (l.take (m) ++ [bitsO (none)])) ⟨.inl rfl, .inl rfl, .inr rfl, .inl rfl, .inl rfl, True.intro⟩ (show 2 ≤ 5 by decide) (belowH_st4 _ _) ⟨rfl, _, _, ?_, ?_, .inr (.inl rfl)⟩
      · rw [List.length_append, List.length_take, List.length_singleton]; omega
      · rw [List.take_of_length_le (by rw [List.length_append, List.length_take, List.length_singleton]; omega)]
    | some r =>
      refine acalls_of_awp hT mixed Try.func34 rfl (by kernel_rfl) (by kernel_rfl) (Nat.le_of_ble_eq_true rfl) ?_
      refine callH (H' := [.row [.slc 1 0 (m + 1) 1], .row (l.map fl), .row [i64 8, u64 own]]) (pop_ok (m + 1) l _ h2 (by omega)) [0, 1] rfl ⟨.inl rfl, .inl (by rw [renO_fl]; rfl), True.intro⟩ rfl rfl (by rw [renH_st]; rfl) ?_
      refine callH (H' := [.row [.slc 1 0 (m) 1], .row (l.map fl), .row [i64 8, u64 own]]) (pop_ok (m) l _ h1 (by omega)) [0, 1] rfl ⟨.inl rfl, .inl (by rw [renO_fl]; rfl), True.intro⟩ rfl rfl (by rw [renH_st]; rfl) ?_
      refine callP h rfl rfl ?_
      refine callH (args := [.ptr 0 0, flo (some r)]) (H := [.row [.slc 1 0 (m) 1], .row (l.map fl), .row [i64 8, u64 own]]) (H' := [.row [.slc 4 0 (m + 1) 1], .dead, .row [i64 8, u64 own], .dead, .row ((l.take (m) ++ [bitsO (some r)]).map fl)]) (push_ok (m) l (some r) (by omega) (by omega)) [0, 1] rfl ⟨.inl rfl, .inl (by rw [renO_fl]; rfl), True.intro⟩ rfl rfl (by rw [renH_st3]; rfl) ?_
      refine endG rfl rfl rfl (G := stS4 (m + 1) (l.take (m) ++ [bitsO (some r)])) ⟨.inl rfl, .inl rfl, .inr rfl, .inl rfl, .inl rfl, True.intro⟩ (show 2 ≤ 5 by decide) (belowH_st4 _ _) ⟨rfl, _, _, ?_, ?_, .inr (.inl rfl)⟩
      · rw [List.length_append, List.length_take, List.length_singleton]; omega
      · rw [List.take_of_length_le (by rw [List.length_append, List.length_take, List.length_singleton]; omega)]
theorem step9_ok (own x n : Nat) (l : List Nat) (h8 : n ≤ 8) (hn : n ≤ l.length) (hc : ∀ b ∈ l.take n, b < 18446744073709551616 ∧ bitsB b = b) : ACalls Try.prog 34 [.ptr 0 0, .agg [i64 9, u64 own], fl x] (stH n l) (StepR (stepS 9 own x (l.take n))) := by
  rcases n with _ | m
  · rw [stepS_few (op := 9) (own := own) (x := x) hn (.inl (show 0 < 1 by decide))]
    refine acalls_of_awp hT mixed Try.func34 rfl (by kernel_rfl) (by kernel_rfl) (Nat.le_of_ble_eq_true rfl) ?_
    refine callPan (H' := [.row [.slc 1 0 0 1], .row (l.map fl), .row [i64 9, u64 own]]) (pop_odd l) [0, 1] rfl ⟨.inl rfl, .inl (by rw [renO_fl]; rfl), True.intro⟩ rfl (by rw [renH_st]; rfl) ?_
    exact ⟨rfl, [.row [.slc 1 0 0 1], .dead], ⟨.inl rfl, .inr rfl, True.intro⟩, Nat.le_refl 2, rfl, rfl, _, .inl rfl⟩
  · obtain ⟨a, h1, h2, h3⟩ := top1 (l := l) (m := m) hn
    rw [stepS_eq (op := 9) (own := own) (x := x) (k := 1) (o := [bitsO (some (Op.negFloat .f64 a))]) rfl hn (show m + 1 ≤ 8 by omega) (by rw [h2]; rfl)]
    refine acalls_of_awp hT mixed Try.func34 rfl (by kernel_rfl) (by kernel_rfl) (Nat.le_of_ble_eq_true rfl) ?_
    refine callH (H' := [.row [.slc 1 0 (m) 1], .row (l.map fl), .row [i64 9, u64 own]]) (pop_ok (m) l _ h1 (by omega)) [0, 1] rfl ⟨.inl rfl, .inl (by rw [renO_fl]; rfl), True.intro⟩ rfl rfl (by rw [renH_st]; rfl) ?_
    refine callH (args := [.ptr 0 0, flo (some (Op.negFloat .f64 a))]) (H := [.row [.slc 1 0 (m) 1], .row (l.map fl), .row [i64 9, u64 own]]) (H' := [.row [.slc 4 0 (m + 1) 1], .dead, .row [i64 9, u64 own], .dead, .row ((l.take (m) ++ [bitsO (some (Op.negFloat .f64 a))]).map fl)]) (push_ok (m) l (some (Op.negFloat .f64 a)) (by omega) (by omega)) [0, 1] rfl ⟨.inl rfl, .inl (by rw [renO_fl]; rfl), True.intro⟩ rfl rfl (by rw [renH_st3]; rfl) ?_
    refine endG rfl rfl rfl (G := stS4 (m + 1) (l.take (m) ++ [bitsO (some (Op.negFloat .f64 a))])) ⟨.inl rfl, .inl rfl, .inr rfl, .inl rfl, .inl rfl, True.intro⟩ (show 2 ≤ 5 by decide) (belowH_st4 _ _) ⟨rfl, _, _, ?_, ?_, .inr (.inl rfl)⟩
    · rw [List.length_append, List.length_take, List.length_singleton]; omega
    · rw [List.take_of_length_le (by rw [List.length_append, List.length_take, List.length_singleton]; omega)]
theorem step10_ok (own x n : Nat) (l : List Nat) (h8 : n ≤ 8) (hn : n ≤ l.length) (hc : ∀ b ∈ l.take n, b < 18446744073709551616 ∧ bitsB b = b) : ACalls Try.prog 34 [.ptr 0 0, .agg [i64 10, u64 own], fl x] (stH n l) (StepR (stepS 10 own x (l.take n))) := by
  rcases n with _ | m
  · rw [stepS_few (op := 10) (own := own) (x := x) hn (.inl (show 0 < 1 by decide))]
    refine acalls_of_awp hT mixed Try.func34 rfl (by kernel_rfl) (by kernel_rfl) (Nat.le_of_ble_eq_true rfl) ?_
    refine callPan (H' := [.row [.slc 1 0 0 1], .row (l.map fl), .row [i64 10, u64 own]]) (pop_odd l) [0, 1] rfl ⟨.inl rfl, .inl (by rw [renO_fl]; rfl), True.intro⟩ rfl (by rw [renH_st]; rfl) ?_
    exact ⟨rfl, [.row [.slc 1 0 0 1], .dead], ⟨.inl rfl, .inr rfl, True.intro⟩, Nat.le_refl 2, rfl, rfl, _, .inl rfl⟩
  · obtain ⟨a, h1, h2, h3⟩ := top1 (l := l) (m := m) hn
    rw [stepS_eq (op := 10) (own := own) (x := x) (k := 1) (o := [bitsO (some (a % 9223372036854775808))]) rfl hn (show m + 1 ≤ 8 by omega) (by rw [h2]; rfl)]
    have h := abs_ok a (hc a h3).1
    generalize a % 9223372036854775808 = z at *
    refine acalls_of_awp hT mixed Try.func34 rfl (by kernel_rfl) (by kernel_rfl) (Nat.le_of_ble_eq_true rfl) ?_
    refine callH (H' := [.row [.slc 1 0 (m) 1], .row (l.map fl), .row [i64 10, u64 own]]) (pop_ok (m) l _ h1 (by omega)) [0, 1] rfl ⟨.inl rfl, .inl (by rw [renO_fl]; rfl), True.intro⟩ rfl rfl (by rw [renH_st]; rfl) ?_
    refine callP h rfl rfl ?_
    refine callH (args := [.ptr 0 0, flo (some z)]) (H := [.row [.slc 1 0 (m) 1], .row (l.map fl), .row [i64 10, u64 own]]) (H' := [.row [.slc 4 0 (m + 1) 1], .dead, .row [i64 10, u64 own], .dead, .row ((l.take (m) ++ [bitsO (some z)]).map fl)]) (push_ok (m) l (some z) (by omega) (by omega)) [0, 1] rfl ⟨.inl rfl, .inl (by rw [renO_fl]; rfl), True.intro⟩ rfl rfl (by rw [renH_st3]; rfl) ?_
    refine endG rfl rfl rfl (G := stS4 (m + 1) (l.take (m) ++ [bitsO (some z)])) ⟨.inl rfl, .inl rfl, .inr rfl, .inl rfl, .inl rfl, True.intro⟩ (show 2 ≤ 5 by decide) (belowH_st4 _ _) ⟨rfl, _, _, ?_, ?_, .inr (.inl rfl)⟩
    · rw [List.length_append, List.length_take, List.length_singleton]; omega
    · rw [List.take_of_length_le (by rw [List.length_append, List.length_take, List.length_singleton]; omega)]
theorem step11_ok (own x n : Nat) (l : List Nat) (h8 : n ≤ 8) (hn : n ≤ l.length) (hc : ∀ b ∈ l.take n, b < 18446744073709551616 ∧ bitsB b = b) : ACalls Try.prog 34 [.ptr 0 0, .agg [i64 11, u64 own], fl x] (stH n l) (StepR (stepS 11 own x (l.take n))) := by
  rcases n with _ | m
  · rw [stepS_few (op := 11) (own := own) (x := x) hn (.inl (show 0 < 1 by decide))]
    refine acalls_of_awp hT mixed Try.func34 rfl (by kernel_rfl) (by kernel_rfl) (Nat.le_of_ble_eq_true rfl) ?_
    refine callPan (H' := [.row [.slc 1 0 0 1], .row (l.map fl), .row [i64 11, u64 own]]) (pop_odd l) [0, 1] rfl ⟨.inl rfl, .inl (by rw [renO_fl]; rfl), True.intro⟩ rfl (by rw [renH_st]; rfl) ?_
    exact ⟨rfl, [.row [.slc 1 0 0 1], .dead], ⟨.inl rfl, .inr rfl, True.intro⟩, Nat.le_refl 2, rfl, rfl, _, .inl rfl⟩
  · obtain ⟨a, h1, h2, h3⟩ := top1 (l := l) (m := m) hn
    rw [stepS_eq (op := 11) (own := own) (x := x) (k := 1) (o := [bitsO (some (floorB a))]) rfl hn (show m + 1 ≤ 8 by omega) (by rw [h2]; rfl)]
    have h := floor_ok a fun hn => by
      have := (hc a h3).2
      unfold bitsB at this
      rw [if_pos hn] at this
      exact this.symm
    generalize floorB a = z at *
    refine acalls_of_awp hT mixed Try.func34 rfl (by kernel_rfl) (by kernel_rfl) (Nat.le_of_ble_eq_true rfl) ?_
    refine callH (H' := [.row [.slc 1 0 (m) 1], .row (l.map fl), .row [i64 11, u64 own]]) (pop_ok (m) l _ h1 (by omega)) [0, 1] rfl ⟨.inl rfl, .inl (by rw [renO_fl]; rfl), True.intro⟩ rfl rfl (by rw [renH_st]; rfl) ?_
    refine callP h rfl rfl ?_
    refine callH (args := [.ptr 0 0, flo (some z)]) (H := [.row [.slc 1 0 (m) 1], .row (l.map fl), .row [i64 11, u64 own]]) (H' := [.row [.slc 4 0 (m + 1) 1], .dead, .row [i64 11, u64 own], .dead, .row ((l.take (m) ++ [bitsO (some z)]).map fl)]) (push_ok (m) l (some z) (by omega) (by omega)) [0, 1] rfl ⟨.inl rfl, .inl (by rw [renO_fl]; rfl), True.intro⟩ rfl rfl (by rw [renH_st3]; rfl) ?_
    refine endG rfl rfl rfl (G := stS4 (m + 1) (l.take (m) ++ [bitsO (some z)])) ⟨.inl rfl, .inl rfl, .inr rfl, .inl rfl, .inl rfl, True.intro⟩ (show 2 ≤ 5 by decide) (belowH_st4 _ _) ⟨rfl, _, _, ?_, ?_, .inr (.inl rfl)⟩
    · rw [List.length_append, List.length_take, List.length_singleton]; omega
    · rw [List.take_of_length_le (by rw [List.length_append, List.length_take, List.length_singleton]; omega)]
theorem step12_ok (own x n : Nat) (l : List Nat) (h8 : n ≤ 8) (hn : n ≤ l.length) (hc : ∀ b ∈ l.take n, b < 18446744073709551616 ∧ bitsB b = b) : ACalls Try.prog 34 [.ptr 0 0, .agg [i64 12, u64 own], fl x] (stH n l) (StepR (stepS 12 own x (l.take n))) := by
  rcases n with _ | m
  · rw [stepS_few (op := 12) (own := own) (x := x) hn (.inl (show 0 < 1 by decide))]
    refine acalls_of_awp hT mixed Try.func34 rfl (by kernel_rfl) (by kernel_rfl) (Nat.le_of_ble_eq_true rfl) ?_
    refine callPan (H' := [.row [.slc 1 0 0 1], .row (l.map fl), .row [i64 12, u64 own]]) (pop_odd l) [0, 1] rfl ⟨.inl rfl, .inl (by rw [renO_fl]; rfl), True.intro⟩ rfl (by rw [renH_st]; rfl) ?_
    exact ⟨rfl, [.row [.slc 1 0 0 1], .dead], ⟨.inl rfl, .inr rfl, True.intro⟩, Nat.le_refl 2, rfl, rfl, _, .inl rfl⟩
  · obtain ⟨a, h1, h2, h3⟩ := top1 (l := l) (m := m) hn
    by_cases h7 : m < 7
    · rw [stepS_eq (op := 12) (own := own) (x := x) (k := 1) (o := [bitsO (some a), bitsO (some a)]) rfl hn (show m + 2 ≤ 8 by omega) (by rw [h2]; rfl)]
      refine acalls_of_awp hT mixed Try.func34 rfl (by kernel_rfl) (by kernel_rfl) (Nat.le_of_ble_eq_true rfl) ?_
      refine callH (H' := [.row [.slc 1 0 (m) 1], .row (l.map fl), .row [i64 12, u64 own]]) (pop_ok (m) l _ h1 (by omega)) [0, 1] rfl ⟨.inl rfl, .inl (by rw [renO_fl]; rfl), True.intro⟩ rfl rfl (by rw [renH_st]; rfl) ?_
      refine callH (args := [.ptr 0 0, flo (some a)]) (H := [.row [.slc 1 0 (m) 1], .row (l.map fl), .row [i64 12, u64 own]]) (H' := [.row [.slc 4 0 (m + 1) 1], .dead, .row [i64 12, u64 own], .dead, .row ((l.take (m) ++ [bitsO (some a)]).map fl)]) (push_ok (m) l (some a) (by omega) (by omega)) [0, 1] rfl ⟨.inl rfl, .inl (by rw [renO_fl]; rfl), True.intro⟩ rfl rfl (by rw [renH_st3]; rfl) ?_
      refine callH (args := [.ptr 0 0, flo (some a)]) (H := [.row [.slc 4 0 (m + 1) 1], .dead, .row [i64 12, u64 own], .dead, .row ((l.take (m) ++ [bitsO (some a)]).map fl)]) (H' := [.row [.slc 6 0 (m + 2) 1], .dead, .row [i64 12, u64 own], .dead, .dead, .dead, .row (((l.take (m) ++ [bitsO (some a)]).take (m + 1) ++ [bitsO (some a)]).map fl)]) (push_ok (m + 1) (l.take (m) ++ [bitsO (some a)]) (some a) (by omega) (by rw [List.length_append, List.length_take, List.length_singleton]; omega)) [0, 4] rfl ⟨.inl rfl, .inl (by rw [renO_fl]; rfl), True.intro⟩ rfl rfl (by rw [renH_st3]; rfl) ?_
      refine endG rfl rfl rfl (G := stS6 (m + 2) ((l.take (m) ++ [bitsO (some a)]).take (m + 1) ++ [bitsO (some a)])) ⟨.inl rfl, .inl rfl, .inr rfl, .inl rfl, .inl rfl, .inl rfl, .inl rfl, True.intro⟩ (show 2 ≤ 7 by decide) (belowH_st6 _ _) ⟨rfl, _, _, ?_, ?_, .inr (.inr rfl)⟩
      · rw [List.length_append, List.length_take, List.length_append, List.length_take, List.length_singleton]; (try simp only [List.length_singleton]); omega
      · rw [List.take_of_length_le (l := l.take (m) ++ _) (by rw [List.length_append, List.length_take, List.length_singleton]; omega), List.take_of_length_le (by simp only [List.length_append, List.length_take, List.length_singleton]; omega), List.append_assoc]; rfl
    · rw [stepS_few (op := 12) (own := own) (x := x) hn (.inr (show 8 < m + 1 - 1 + 2 by omega))]
      refine acalls_of_awp hT mixed Try.func34 rfl (by kernel_rfl) (by kernel_rfl) (Nat.le_of_ble_eq_true rfl) ?_
      refine callH (H' := [.row [.slc 1 0 (m) 1], .row (l.map fl), .row [i64 12, u64 own]]) (pop_ok (m) l _ h1 (by omega)) [0, 1] rfl ⟨.inl rfl, .inl (by rw [renO_fl]; rfl), True.intro⟩ rfl rfl (by rw [renH_st]; rfl) ?_
      refine callH (args := [.ptr 0 0, flo (some a)]) (H := [.row [.slc 1 0 (m) 1], .row (l.map fl), .row [i64 12, u64 own]]) (H' := [.row [.slc 4 0 (m + 1) 1], .dead, .row [i64 12, u64 own], .dead, .row ((l.take (m) ++ [bitsO (some a)]).map fl)]) (push_ok (m) l (some a) (by omega) (by omega)) [0, 1] rfl ⟨.inl rfl, .inl (by rw [renO_fl]; rfl), True.intro⟩ rfl rfl (by rw [renH_st3]; rfl) ?_
      refine callPan (H := [.row [.slc 4 0 (m + 1) 1], .dead, .row [i64 12, u64 own], .dead, .row ((l.take m ++ [bitsO (some a)]).map fl)]) (H' := [.row [.slc 4 0 (m + 1) 1], .dead, .row [i64 12, u64 own], .dead, .row ((l.take m ++ [bitsO (some a)]).map fl)]) (args := [.ptr 0 0, flo (some a)]) (push_odd (m + 1) (l.take m ++ [bitsO (some a)]) (some a) (by omega)) [0, 4] rfl ⟨.inl rfl, .inl (by rw [renO_fl]; rfl), True.intro⟩ rfl (by rw [renH_st]; rfl) ?_
      exact ⟨rfl, [.row [.slc 4 0 (m + 1) 1], .dead, .dead, .dead, .dead], ⟨.inl rfl, .inl rfl, .inr rfl, .inl rfl, .inr rfl, True.intro⟩, (show 2 ≤ 5 by decide), rfl, rfl, _, .inr rfl⟩
theorem step13_ok (own x n : Nat) (l : List Nat) (h8 : n ≤ 8) (hn : n ≤ l.length) (hc : ∀ b ∈ l.take n, b < 18446744073709551616 ∧ bitsB b = b) : ACalls Try.prog 34 [.ptr 0 0, .agg [i64 13, u64 own], fl x] (stH n l) (StepR (stepS 13 own x (l.take n))) := by
  rcases n with _ | _ | m
  · rw [stepS_few (op := 13) (own := own) (x := x) hn (.inl (show 0 < 2 by decide))]
    refine acalls_of_awp hT mixed Try.func34 rfl (by kernel_rfl) (by kernel_rfl) (Nat.le_of_ble_eq_true rfl) ?_
    refine callPan (H' := [.row [.slc 1 0 0 1], .row (l.map fl), .row [i64 13, u64 own]]) (pop_odd l) [0, 1] rfl ⟨.inl rfl, .inl (by rw [renO_fl]; rfl), True.intro⟩ rfl (by rw [renH_st]; rfl) ?_
    exact ⟨rfl, [.row [.slc 1 0 0 1], .dead], ⟨.inl rfl, .inr rfl, True.intro⟩, Nat.le_refl 2, rfl, rfl, _, .inl rfl⟩
  · rw [stepS_few (op := 13) (own := own) (x := x) hn (.inl (show 1 < 2 by decide))]
    obtain ⟨a, h1, h2, h3⟩ := top1 (l := l) (m := 0) hn
    refine acalls_of_awp hT mixed Try.func34 rfl (by kernel_rfl) (by kernel_rfl) (Nat.le_of_ble_eq_true rfl) ?_
    refine callH (H' := [.row [.slc 1 0 (0) 1], .row (l.map fl), .row [i64 13, u64 own]]) (pop_ok (0) l _ h1 (by omega)) [0, 1] rfl ⟨.inl rfl, .inl (by rw [renO_fl]; rfl), True.intro⟩ rfl rfl (by rw [renH_st]; rfl) ?_
    refine callPan (H' := [.row [.slc 1 0 0 1], .row (l.map fl), .row [i64 13, u64 own]]) (pop_odd l) [0, 1] rfl ⟨.inl rfl, .inl (by rw [renO_fl]; rfl), True.intro⟩ rfl (by rw [renH_st]; rfl) ?_
    exact ⟨rfl, [.row [.slc 1 0 0 1], .dead], ⟨.inl rfl, .inr rfl, True.intro⟩, Nat.le_refl 2, rfl, rfl, _, .inl rfl⟩
  · obtain ⟨a, b, h1, h2, h3, h4, h5⟩ := top2 (l := l) (m := m) hn
    rw [stepS_eq (op := 13) (own := own) (x := x) (k := 2) (o := [bitsO (some b), bitsO (some a)]) rfl hn (show m + 2 ≤ 8 by omega) (by rw [h3]; rfl)]
    refine acalls_of_awp hT mixed Try.func34 rfl (by kernel_rfl) (by kernel_rfl) (Nat.le_of_ble_eq_true rfl) ?_
    refine callH (H' := [.row [.slc 1 0 (m + 1) 1], .row (l.map fl), .row [i64 13, u64 own]]) (pop_ok (m + 1) l _ h2 (by omega)) [0, 1] rfl ⟨.inl rfl, .inl (by rw [renO_fl]; rfl), True.intro⟩ rfl rfl (by rw [renH_st]; rfl) ?_
    refine callH (H' := [.row [.slc 1 0 (m) 1], .row (l.map fl), .row [i64 13, u64 own]]) (pop_ok (m) l _ h1 (by omega)) [0, 1] rfl ⟨.inl rfl, .inl (by rw [renO_fl]; rfl), True.intro⟩ rfl rfl (by rw [renH_st]; rfl) ?_
    refine callH (args := [.ptr 0 0, flo (some b)]) (H := [.row [.slc 1 0 (m) 1], .row (l.map fl), .row [i64 13, u64 own]]) (H' := [.row [.slc 4 0 (m + 1) 1], .dead, .row [i64 13, u64 own], .dead, .row ((l.take (m) ++ [bitsO (some b)]).map fl)]) (push_ok (m) l (some b) (by omega) (by omega)) [0, 1] rfl ⟨.inl rfl, .inl (by rw [renO_fl]; rfl), True.intro⟩ rfl rfl (by rw [renH_st3]; rfl) ?_
    refine callH (args := [.ptr 0 0, flo (some a)]) (H := [.row [.slc 4 0 (m + 1) 1], .dead, .row [i64 13, u64 own], .dead, .row ((l.take (m) ++ [bitsO (some b)]).map fl)]) (H' := [.row [.slc 6 0 (m + 2) 1], .dead, .row [i64 13, u64 own], .dead, .dead, .dead, .row (((l.take (m) ++ [bitsO (some b)]).take (m + 1) ++ [bitsO (some a)]).map fl)]) (push_ok (m + 1) (l.take (m) ++ [bitsO (some b)]) (some a) (by omega) (by rw [List.length_append, List.length_take, List.length_singleton]; omega)) [0, 4] rfl ⟨.inl rfl, .inl (by rw [renO_fl]; rfl), True.intro⟩ rfl rfl (by rw [renH_st3]; rfl) ?_
    refine endG rfl rfl rfl (G := stS6 (m + 2) ((l.take (m) ++ [bitsO (some b)]).take (m + 1) ++ [bitsO (some a)])) ⟨.inl rfl, .inl rfl, .inr rfl, .inl rfl, .inl rfl, .inl rfl, .inl rfl, True.intro⟩ (show 2 ≤ 7 by decide) (belowH_st6 _ _) ⟨rfl, _, _, ?_, ?_, .inr (.inr rfl)⟩
    · rw [List.length_append, List.length_take, List.length_append, List.length_take, List.length_singleton]; (try simp only [List.length_singleton]); omega
    · rw [List.take_of_length_le (l := l.take (m) ++ _) (by rw [List.length_append, List.length_take, List.length_singleton]; omega), List.take_of_length_le (by simp only [List.length_append, List.length_take, List.length_singleton]; omega), List.append_assoc]; rfl
theorem step14_ok (own x n : Nat) (l : List Nat) (h8 : n ≤ 8) (hn : n ≤ l.length) (hc : ∀ b ∈ l.take n, b < 18446744073709551616 ∧ bitsB b = b) : ACalls Try.prog 34 [.ptr 0 0, .agg [i64 14, u64 own], fl x] (stH n l) (StepR (stepS 14 own x (l.take n))) := by
  rcases n with _ | m
  · rw [stepS_few (op := 14) (own := own) (x := x) hn (.inl (show 0 < 1 by decide))]
    refine acalls_of_awp hT mixed Try.func34 rfl (by kernel_rfl) (by kernel_rfl) (Nat.le_of_ble_eq_true rfl) ?_
    refine callPan (H' := [.row [.slc 1 0 0 1], .row (l.map fl), .row [i64 14, u64 own]]) (pop_odd l) [0, 1] rfl ⟨.inl rfl, .inl (by rw [renO_fl]; rfl), True.intro⟩ rfl (by rw [renH_st]; rfl) ?_
    exact ⟨rfl, [.row [.slc 1 0 0 1], .dead], ⟨.inl rfl, .inr rfl, True.intro⟩, Nat.le_refl 2, rfl, rfl, _, .inl rfl⟩
  · obtain ⟨a, h1, h2, h3⟩ := top1 (l := l) (m := m) hn
    rw [stepS_eq (op := 14) (own := own) (x := x) (k := 1) (o := []) rfl hn (show m + 0 ≤ 8 by omega) (by rw [h2]; rfl)]
    refine acalls_of_awp hT mixed Try.func34 rfl (by kernel_rfl) (by kernel_rfl) (Nat.le_of_ble_eq_true rfl) ?_
    refine callH (H' := [.row [.slc 1 0 (m) 1], .row (l.map fl), .row [i64 14, u64 own]]) (pop_ok (m) l _ h1 (by omega)) [0, 1] rfl ⟨.inl rfl, .inl (by rw [renO_fl]; rfl), True.intro⟩ rfl rfl (by rw [renH_st]; rfl) ?_
    refine endG rfl rfl rfl (G := stH m l) ⟨.inl rfl, .inl rfl, True.intro⟩ (Nat.le_refl 2) (belowH_st _ _) ⟨rfl, l, m, by omega, by rw [List.append_nil], .inl rfl⟩
theorem step15_ok (own x n : Nat) (l : List Nat) (h8 : n ≤ 8) (hn : n ≤ l.length) (hc : ∀ b ∈ l.take n, b < 18446744073709551616 ∧ bitsB b = b) : ACalls Try.prog 34 [.ptr 0 0, .agg [i64 15, u64 own], fl x] (stH n l) (StepR (stepS 15 own x (l.take n))) := by
  rcases n with _ | m
  · rw [stepS_few (op := 15) (own := own) (x := x) hn (.inl (show 0 < 1 by decide))]
    refine acalls_of_awp hT mixed Try.func34 rfl (by kernel_rfl) (by kernel_rfl) (Nat.le_of_ble_eq_true rfl) ?_
    refine callPan (H' := [.row [.slc 1 0 0 1], .row (l.map fl), .row [i64 15, u64 own]]) (pop_odd l) [0, 1] rfl ⟨.inl rfl, .inl (by rw [renO_fl]; rfl), True.intro⟩ rfl (by rw [renH_st]; rfl) ?_
    exact ⟨rfl, [.row [.slc 1 0 0 1], .dead], ⟨.inl rfl, .inr rfl, True.intro⟩, Nat.le_refl 2, rfl, rfl, _, .inl rfl⟩
  · obtain ⟨a, h1, h2, h3⟩ := top1 (l := l) (m := m) hn
    have hb := (hc a h3).1
    have hN := isNaN_ok a
    by_cases h : nanB a = true
    · rw [stepS_bad (op := 15) (own := own) (x := x) (k := 1) rfl hn (by rw [h2]; exact if_pos h)]
      rw [h] at hN
      refine acalls_of_awp hT mixed Try.func34 rfl (by kernel_rfl) (by kernel_rfl) (Nat.le_of_ble_eq_true rfl) ?_
      refine callH (H' := [.row [.slc 1 0 (m) 1], .row (l.map fl), .row [i64 15, u64 own]]) (pop_ok (m) l _ h1 (by omega)) [0, 1] rfl ⟨.inl rfl, .inl (by rw [renO_fl]; rfl), True.intro⟩ rfl rfl (by rw [renH_st]; rfl) ?_
      refine callP hN rfl rfl ?_
      exact ⟨rfl, [.row [.slc 1 0 m 1], .dead], ⟨.inl rfl, .inr rfl, True.intro⟩, Nat.le_refl 2, rfl, rfl, _, .inl rfl⟩
    · have h' : nanB a = false := by cases hq : nanB a <;> first | rfl | exact absurd hq h
      rw [h'] at hN
      have hI := isInf_ok a hb h'
      by_cases g : infB a = true
      · rw [stepS_bad (op := 15) (own := own) (x := x) (k := 1) rfl hn (by rw [h2]; exact (if_neg h).trans (if_pos g))]
        rw [g] at hI
        refine acalls_of_awp hT mixed Try.func34 rfl (by kernel_rfl) (by kernel_rfl) (Nat.le_of_ble_eq_true rfl) ?_
        refine callH (H' := [.row [.slc 1 0 (m) 1], .row (l.map fl), .row [i64 15, u64 own]]) (pop_ok (m) l _ h1 (by omega)) [0, 1] rfl ⟨.inl rfl, .inl (by rw [renO_fl]; rfl), True.intro⟩ rfl rfl (by rw [renH_st]; rfl) ?_
        refine callP hN rfl rfl ?_
        refine callP hI rfl rfl ?_
        exact ⟨rfl, [.row [.slc 1 0 m 1], .dead], ⟨.inl rfl, .inr rfl, True.intro⟩, Nat.le_refl 2, rfl, rfl, _, .inl rfl⟩
      · rw [stepS_eq (op := 15) (own := own) (x := x) (k := 1) (o := [bitsO (some a)]) rfl hn (show m + 1 ≤ 8 by omega) (by rw [h2]; exact (if_neg h).trans (if_neg g))]
        have g' : infB a = false := by cases hq : infB a <;> first | rfl | exact absurd hq g
        rw [g'] at hI
        refine acalls_of_awp hT mixed Try.func34 rfl (by kernel_rfl) (by kernel_rfl) (Nat.le_of_ble_eq_true rfl) ?_
        refine callH (H' := [.row [.slc 1 0 (m) 1], .row (l.map fl), .row [i64 15, u64 own]]) (pop_ok (m) l _ h1 (by omega)) [0, 1] rfl ⟨.inl rfl, .inl (by rw [renO_fl]; rfl), True.intro⟩ rfl rfl (by rw [renH_st]; rfl) ?_
        refine callP hN rfl rfl ?_
        refine callP hI rfl rfl ?_
        refine callH (args := [.ptr 0 0, flo (some a)]) (H := [.row [.slc 1 0 (m) 1], .row (l.map fl), .row [i64 15, u64 own]]) (H' := [.row [.slc 4 0 (m + 1) 1], .dead, .row [i64 15, u64 own], .dead, .row ((l.take (m) ++ [bitsO (some a)]).map fl)]) (push_ok (m) l (some a) (by omega) (by omega)) [0, 1] rfl ⟨.inl rfl, .inl (by rw [renO_fl]; rfl), True.intro⟩ rfl rfl (by rw [renH_st3]; rfl) ?_
        refine endG rfl rfl rfl (G := stS4 (m + 1) (l.take (m) ++ [bitsO (some a)])) ⟨.inl rfl, .inl rfl, .inr rfl, .inl rfl, .inl rfl, True.intro⟩ (show 2 ≤ 5 by decide) (belowH_st4 _ _) ⟨rfl, _, _, ?_, ?_, .inr (.inl rfl)⟩
        · rw [List.length_append, List.length_take, List.length_singleton]; omega
        · rw [List.take_of_length_le (by rw [List.length_append, List.length_take, List.length_singleton]; omega)]
theorem step16_ok (own x n : Nat) (l : List Nat) (h8 : n ≤ 8) (hn : n ≤ l.length) (hc : ∀ b ∈ l.take n, b < 18446744073709551616 ∧ bitsB b = b) : ACalls Try.prog 34 [.ptr 0 0, .agg [i64 16, u64 own], fl x] (stH n l) (StepR (stepS 16 own x (l.take n))) := by
  rcases n with _ | _ | _ | m
  · rw [stepS_few (op := 16) (own := own) (x := x) hn (.inl (show 0 < 3 by decide))]
    refine acalls_of_awp hT mixed Try.func34 rfl (by kernel_rfl) (by kernel_rfl) (Nat.le_of_ble_eq_true rfl) ?_
    refine callPan (H' := [.row [.slc 1 0 0 1], .row (l.map fl), .row [i64 16, u64 own]]) (pop_odd l) [0, 1] rfl ⟨.inl rfl, .inl (by rw [renO_fl]; rfl), True.intro⟩ rfl (by rw [renH_st]; rfl) ?_
    exact ⟨rfl, [.row [.slc 1 0 0 1], .dead], ⟨.inl rfl, .inr rfl, True.intro⟩, Nat.le_refl 2, rfl, rfl, _, .inl rfl⟩
  · rw [stepS_few (op := 16) (own := own) (x := x) hn (.inl (show 1 < 3 by decide))]
    obtain ⟨a, h1, h2, h3⟩ := top1 (l := l) (m := 0) hn
    refine acalls_of_awp hT mixed Try.func34 rfl (by kernel_rfl) (by kernel_rfl) (Nat.le_of_ble_eq_true rfl) ?_
    refine callH (H' := [.row [.slc 1 0 (0) 1], .row (l.map fl), .row [i64 16, u64 own]]) (pop_ok (0) l _ h1 (by omega)) [0, 1] rfl ⟨.inl rfl, .inl (by rw [renO_fl]; rfl), True.intro⟩ rfl rfl (by rw [renH_st]; rfl) ?_
    refine callPan (H' := [.row [.slc 1 0 0 1], .row (l.map fl), .row [i64 16, u64 own]]) (pop_odd l) [0, 1] rfl ⟨.inl rfl, .inl (by rw [renO_fl]; rfl), True.intro⟩ rfl (by rw [renH_st]; rfl) ?_
    exact ⟨rfl, [.row [.slc 1 0 0 1], .dead], ⟨.inl rfl, .inr rfl, True.intro⟩, Nat.le_refl 2, rfl, rfl, _, .inl rfl⟩
  · rw [stepS_few (op := 16) (own := own) (x := x) hn (.inl (show 2 < 3 by decide))]
    obtain ⟨a, b, h1, h2, h3, h4, h5⟩ := top2 (l := l) (m := 0) hn
    refine acalls_of_awp hT mixed Try.func34 rfl (by kernel_rfl) (by kernel_rfl) (Nat.le_of_ble_eq_true rfl) ?_
    refine callH (H' := [.row [.slc 1 0 (1) 1], .row (l.map fl), .row [i64 16, u64 own]]) (pop_ok (1) l _ h2 (by omega)) [0, 1] rfl ⟨.inl rfl, .inl (by rw [renO_fl]; rfl), True.intro⟩ rfl rfl (by rw [renH_st]; rfl) ?_
    refine callH (H' := [.row [.slc 1 0 (0) 1], .row (l.map fl), .row [i64 16, u64 own]]) (pop_ok (0) l _ h1 (by omega)) [0, 1] rfl ⟨.inl rfl, .inl (by rw [renO_fl]; rfl), True.intro⟩ rfl rfl (by rw [renH_st]; rfl) ?_
    refine callPan (H' := [.row [.slc 1 0 0 1], .row (l.map fl), .row [i64 16, u64 own]]) (pop_odd l) [0, 1] rfl ⟨.inl rfl, .inl (by rw [renO_fl]; rfl), True.intro⟩ rfl (by rw [renH_st]; rfl) ?_
    exact ⟨rfl, [.row [.slc 1 0 0 1], .dead], ⟨.inl rfl, .inr rfl, True.intro⟩, Nat.le_refl 2, rfl, rfl, _, .inl rfl⟩
  · obtain ⟨a, b, c, h1, h2, h3, h4, h5⟩ := top3 (l := l) (m := m) hn
    have hA := above_ok c (hc c h5).1
    by_cases h : decide (5 < classB c) = true
    · rw [stepS_eq (op := 16) (own := own) (x := x) (k := 3) (o := [bitsO (some a)]) rfl hn (show m + 1 ≤ 8 by omega) (by rw [h4]; exact if_pos h)]
      rw [h] at hA
      refine acalls_of_awp hT mixed Try.func34 rfl (by kernel_rfl) (by kernel_rfl) (Nat.le_of_ble_eq_true rfl) ?_
      refine callH (H' := [.row [.slc 1 0 (m + 2) 1], .row (l.map fl), .row [i64 16, u64 own]]) (pop_ok (m + 2) l _ h3 (by omega)) [0, 1] rfl ⟨.inl rfl, .inl (by rw [renO_fl]; rfl), True.intro⟩ rfl rfl (by rw [renH_st]; rfl) ?_
      refine callH (H' := [.row [.slc 1 0 (m + 1) 1], .row (l.map fl), .row [i64 16, u64 own]]) (pop_ok (m + 1) l _ h2 (by omega)) [0, 1] rfl ⟨.inl rfl, .inl (by rw [renO_fl]; rfl), True.intro⟩ rfl rfl (by rw [renH_st]; rfl) ?_
      refine callH (H' := [.row [.slc 1 0 (m) 1], .row (l.map fl), .row [i64 16, u64 own]]) (pop_ok (m) l _ h1 (by omega)) [0, 1] rfl ⟨.inl rfl, .inl (by rw [renO_fl]; rfl), True.intro⟩ rfl rfl (by rw [renH_st]; rfl) ?_
      refine callP hA rfl rfl ?_
      refine callH (args := [.ptr 0 0, flo (some a)]) (H := [.row [.slc 1 0 (m) 1], .row (l.map fl), .row [i64 16, u64 own]]) (H' := [.row [.slc 4 0 (m + 1) 1], .dead, .row [i64 16, u64 own], .dead, .row ((l.take (m) ++ [bitsO (some a)]).map fl)]) (push_ok (m) l (some a) (by omega) (by omega)) [0, 1] rfl ⟨.inl rfl, .inl (by rw [renO_fl]; rfl), True.intro⟩ rfl rfl (by rw [renH_st3]; rfl) ?_
      refine endG rfl rfl rfl (G := stS4 (m + 1) (l.take (m) ++ [bitsO (some a)])) ⟨.inl rfl, .inl rfl, .inr rfl, .inl rfl, .inl rfl, True.intro⟩ (show 2 ≤ 5 by decide) (belowH_st4 _ _) ⟨rfl, _, _, ?_, ?_, .inr (.inl rfl)⟩
      · rw [List.length_append, List.length_take, List.length_singleton]; omega
      · rw [List.take_of_length_le (by rw [List.length_append, List.length_take, List.length_singleton]; omega)]
    · rw [stepS_eq (op := 16) (own := own) (x := x) (k := 3) (o := [bitsO (some b)]) rfl hn (show m + 1 ≤ 8 by omega) (by rw [h4]; exact if_neg h)]
      have h' : decide (5 < classB c) = false := by cases hq : decide (5 < classB c) <;> first | rfl | exact absurd hq h
      rw [h'] at hA
      refine acalls_of_awp hT mixed Try.func34 rfl (by kernel_rfl) (by kernel_rfl) (Nat.le_of_ble_eq_true rfl) ?_
      refine callH (H' := [.row [.slc 1 0 (m + 2) 1], .row (l.map fl), .row [i64 16, u64 own]]) (pop_ok (m + 2) l _ h3 (by omega)) [0, 1] rfl ⟨.inl rfl, .inl (by rw [renO_fl]; rfl), True.intro⟩ rfl rfl (by rw [renH_st]; rfl) ?_
      refine callH (H' := [.row [.slc 1 0 (m + 1) 1], .row (l.map fl), .row [i64 16, u64 own]]) (pop_ok (m + 1) l _ h2 (by omega)) [0, 1] rfl ⟨.inl rfl, .inl (by rw [renO_fl]; rfl), True.intro⟩ rfl rfl (by rw [renH_st]; rfl) ?_
      refine callH (H' := [.row [.slc 1 0 (m) 1], .row (l.map fl), .row [i64 16, u64 own]]) (pop_ok (m) l _ h1 (by omega)) [0, 1] rfl ⟨.inl rfl, .inl (by rw [renO_fl]; rfl), True.intro⟩ rfl rfl (by rw [renH_st]; rfl) ?_
      refine callP hA rfl rfl ?_
      refine callH (args := [.ptr 0 0, flo (some b)]) (H := [.row [.slc 1 0 (m) 1], .row (l.map fl), .row [i64 16, u64 own]]) (H' := [.row [.slc 4 0 (m + 1) 1], .dead, .row [i64 16, u64 own], .dead, .row ((l.take (m) ++ [bitsO (some b)]).map fl)]) (push_ok (m) l (some b) (by omega) (by omega)) [0, 1] rfl ⟨.inl rfl, .inl (by rw [renO_fl]; rfl), True.intro⟩ rfl rfl (by rw [renH_st3]; rfl) ?_
      refine endG rfl rfl rfl (G := stS4 (m + 1) (l.take (m) ++ [bitsO (some b)])) ⟨.inl rfl, .inl rfl, .inr rfl, .inl rfl, .inl rfl, True.intro⟩ (show 2 ≤ 5 by decide) (belowH_st4 _ _) ⟨rfl, _, _, ?_, ?_, .inr (.inl rfl)⟩
      · rw [List.length_append, List.length_take, List.length_singleton]; omega
      · rw [List.take_of_length_le (by rw [List.length_append, List.length_take, List.length_singleton]; omega)]
theorem step_ok (op : Int) (own x n : Nat) (l : List Nat) (h8 : n ≤ 8) (hn : n ≤ l.length) (hc : ∀ b ∈ l.take n, b < 18446744073709551616 ∧ bitsB b = b) (hop : 1 ≤ op ∧ op ≤ 16) : ACalls Try.prog 34 [.ptr 0 0, .agg [i64 op, u64 own], fl x] (stH n l) (StepR (stepS op own x (l.take n))) := by
  have hq : op = 1 ∨ op = 2 ∨ op = 3 ∨ op = 4 ∨ op = 5 ∨ op = 6 ∨ op = 7 ∨ op = 8 ∨ op = 9 ∨ op = 10 ∨ op = 11 ∨ op = 12 ∨ op = 13 ∨ op = 14 ∨ op = 15 ∨ op = 16 := by omega
  rcases hq with rfl | rfl | rfl | rfl | rfl | rfl | rfl | rfl | rfl | rfl | rfl | rfl | rfl | rfl | rfl | rfl
  · exact step1_ok own x n l h8 hn hc
  · exact step2_ok own x n l h8 hn hc
  · exact step3_ok own x n l h8 hn hc
  · exact step4_ok own x n l h8 hn hc
  · exact step5_ok own x n l h8 hn hc
  · exact step6_ok own x n l h8 hn hc
  · exact step7_ok own x n l h8 hn hc
  · exact step8_ok own x n l h8 hn hc
  · exact step9_ok own x n l h8 hn hc
  · exact step10_ok own x n l h8 hn hc
  · exact step11_ok own x n l h8 hn hc
  · exact step12_ok own x n l h8 hn hc
  · exact step13_ok own x n l h8 hn hc
  · exact step14_ok own x n l h8 hn hc
  · exact step15_ok own x n l h8 hn hc
  · exact step16_ok own x n l h8 hn hc
end Go.Proofs.Ytdjpcmlnhkiokaa.A
