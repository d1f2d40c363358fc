/- label: Join, who is in whom, what both have. No condition. -/
import Derived.Test.YtmfifbclldnpkaaLh
namespace Go.Proofs.Ytmfifbclldnpkaa.A
open Go
set_option linter.unusedVariables false
set_option maxRecDepth 100000
set_option pp.maxSteps 1500

def joinP (a b : List Nat) : List Nat × Int := if rightB a = true ∧ rightB b = true then ofP (a ++ b) else ([], 1)
theorem rightB_len {l : List Nat} (h : rightB l = true) : l.length ≤ 6 := by
  unfold rightB at h
  rw [Bool.and_eq_true] at h
  exact of_decide_eq_true h.1
theorem of12_ok (tags : List Nat) (hn : tags.length ≤ 12) : ACalls Try.prog 10 [us tags] [] (Ret (.tup [us (ofP tags).1, i64 (ofP tags).2])) := of_gen tags (by omega) (sort12_ok tags hn)
theorem join_ok (a b : List Nat) (ha : a.length < 9223372036854775807) (hb : b.length < 9223372036854775807) : ACalls Try.prog 22 [us a, us b] [] (Ret (.tup [us (joinP a b).1, i64 (joinP a b).2])) := by
  have ca := right_ok a ha
  have cb := right_ok b hb
  have bad : ¬ (rightB a = true ∧ rightB b = true) → ACalls Try.prog 22 [us a, us b] [] (Ret (.tup [nilS, i64 1])) := fun h => by
    cases h1 : rightB a with
    | false =>
      rw [h1] at ca
      refine acalls_of_awp hT mixed Try.func22 rfl (by kernel_rfl) (by kernel_rfl) (Nat.le_of_ble_eq_true rfl) ?_
      refine callP ca rfl rfl ?_
      refine end0 rfl rfl rfl rfl
    | true =>
      have h2 : rightB b = false := by cases h2 : rightB b with
        | false => rfl
        | true => exact absurd ⟨h1, h2⟩ h
      rw [h1] at ca
      rw [h2] at cb
      refine acalls_of_awp hT mixed Try.func22 rfl (by kernel_rfl) (by kernel_rfl) (Nat.le_of_ble_eq_true rfl) ?_
      refine callP ca rfl rfl ?_
      refine callP cb rfl rfl ?_
      refine end0 rfl rfl rfl rfl
  by_cases h : rightB a = true ∧ rightB b = true
  · have hp : joinP a b = ofP (a ++ b) := by unfold joinP; rw [if_pos h]
    rw [hp]
    have la := rightB_len h.1
    have lb := rightB_len h.2
    have hfl : [a, b].flatten = a ++ b := by simp
    have hc := concat_ok [a, b] (by rw [hfl, List.length_append]; omega) (show 2 ≤ 1000 by omega)
    have ho := of12_ok (a ++ b) (by rw [List.length_append]; omega)
    rw [hfl] at hc
    rw [h.1] at ca
    rw [h.2] at cb
    generalize ofP (a ++ b) = q at *
    obtain ⟨q1, q2⟩ := q
    refine acalls_of_awp hT mixed Try.func22 rfl (by kernel_rfl) (by kernel_rfl) (Nat.le_of_ble_eq_true rfl) ?_
    refine callP ca rfl rfl ?_
    refine callP cb rfl rfl ?_
    refine callCut (H := [.row [us a, us b]]) (bs := [vws [a, b]]) 0 rfl ?_
    refine callS hc [] True.intro rfl ?_
    rintro E G (⟨h0, rfl, rfl⟩ | ⟨R, m, hm, hR, rfl, rfl⟩) _
    · rw [h0] at ho
      refine ⟨_, _, rfl, rfl, ?_⟩
      refine callS (nilArg ho) [] True.intro rfl ?_
      rintro E G ⟨rfl, rfl⟩ _
      refine ⟨_, _, rfl, rfl, ?_⟩
      exact ⟨rfl, [], .tup [us q1, i64 q2], ⟨⟨_, rfl, rfl⟩, True.intro, Nat.zero_le _, rfl⟩, rfl, rfl⟩
    · refine ⟨_, [.dead, .row (R.map u64n)], rfl, by rw [renH_us]; rfl, ?_⟩
      have hfz : frz [.dead, .row (R.map u64n)] 0 8 (.slc 1 0 m 1) = some (us (a ++ b)) := by rw [← hR]; exact frz_usT (k := 6) rfl hm rfl
      have hfm : mapO (frz [.dead, .row (R.map u64n)] 0 8) [.slc 1 0 m 1] = some [us (a ++ b)] := by simp only [mapO, hfz]
      refine callCut (H := [.dead, .row (R.map u64n)]) (bs := [us (a ++ b)]) 0 hfm ?_
      refine callS ho [] True.intro rfl ?_
      rintro E G ⟨rfl, rfl⟩ _
      refine ⟨_, _, rfl, rfl, ?_⟩
      exact ⟨rfl, [], .tup [us q1, i64 q2], ⟨⟨_, rfl, rfl⟩, True.intro, Nat.zero_le _, rfl⟩, rfl, rfl⟩
  · have hp : joinP a b = ([], 1) := by unfold joinP; rw [if_neg h]
    rw [hp]
    refine (bad h).weakR ?_
    rintro E G ⟨rfl, rfl⟩
    exact ⟨_, ⟨rfl, rfl⟩, EndR_nilT _⟩
def inB (a b : List Nat) : Bool := a.all fun x => decide (x ∈ b)
theorem inB_drop {a b : List Nat} {k x : Nat} (hx : a[k]? = some x) : inB (a.drop k) b = (decide (x ∈ b) && inB (a.drop (k + 1)) b) := by
  obtain ⟨h1, rfl⟩ := List.getElem?_eq_some_iff.1 hx
  rw [List.drop_eq_getElem_cons h1]
  unfold inB
  rw [List.all_cons]
theorem rin_ok (a b : List Nat) (hn : a.length < 9223372036854775807) (hm : b.length < 9223372036854775807) : ACalls Try.prog 26 [us a, us b] [] (Ret (bo (inB a b))) := by
  refine acalls_of_awp hT mixed Try.func26 rfl (by kernel_rfl) (by kernel_rfl) (Nat.le_of_ble_eq_true rfl) ?_
  refine loopI (α := { k : Nat // k ≤ a.length ∧ inB (a.drop k) b = inB a b }) (fun z => [(0, us a), (1, us b), (5, i64 (z.val : Nat))]) (fun _ => []) (fun z => a.length - z.val) ⟨0, Nat.zero_le _, rfl⟩ [] ⟨⟨rfl, rfl, rfl, True.intro⟩, True.intro, rfl, rfl, rfl⟩ ?_
  rintro ⟨k, hk, hp⟩ K hK
  have hinc : wrp .i64 ((k : Int) + 1) = ((k + 1 : Nat) : Int) := by rw [wrpE, wi64]; omega
  refine forkD (fun h => ?_) (fun h => ?_)
  · have h' : k < a.length := by have : (k : Int) < (a.length : Int) := h; omega
    obtain ⟨x, hx⟩ : ∃ x, a[k]? = some x := ⟨_, List.getElem?_eq_getElem h'⟩
    rw [inB_drop hx] at hp
    refine Ob.intro (show (0 : Int) ≤ (k : Nat) ∧ ((k : Nat) : Int) < (a.length : Nat) by omega) ?_
    refine optK_intro (nth_map hx) ?_
    refine callP (has2_ok b x hm) rfl rfl ?_
    refine forkD (fun g => ?_) (fun g => ?_)
    · rw [decide_eq_true g, Bool.true_and] at hp
      refine hK ⟨k + 1, h', hp⟩ [] _ (show a.length - k = a.length - (k + 1) + 1 by omega) ⟨⟨rfl, rfl, congrArg i64 hinc, True.intro⟩, True.intro, rfl, rfl, rfl⟩
    · rw [decide_eq_false g, Bool.false_and] at hp
      refine end0 rfl rfl rfl (congrArg bo hp)
  · have h' : k = a.length := by have : ¬ (k : Int) < (a.length : Int) := h; omega
    rw [h', List.drop_length] at hp
    refine end0 rfl rfl rfl (congrArg bo hp)
def notIn (b : List Nat) (x : Nat) : Bool := !(decide (x ∈ b))
theorem inF_ok (b : List Nat) (x : Nat) (hm : b.length < 9223372036854775807) : ACalls Try.prog 39 [u64n x, .ptr 0 0] [.row [us b]] (RetH (bo (notIn b x)) [.row [us b]]) := by
  refine acalls_of_awp hT mixed Try.func39 rfl (by kernel_rfl) (by kernel_rfl) (Nat.le_of_ble_eq_true rfl) ?_
  refine callP (hasL_ok b x hm) rfl rfl ?_
  refine forkD (fun g => ?_) (fun g => ?_)
  · exact ⟨rfl, [.row [us b]], bo false, ⟨⟨_, rfl, rfl⟩, ⟨.inl rfl, True.intro⟩, Nat.le_refl _, rfl⟩, by unfold notIn; rw [decide_eq_true g]; rfl, rfl⟩
  · exact ⟨rfl, [.row [us b]], bo true, ⟨⟨_, rfl, rfl⟩, ⟨.inl rfl, True.intro⟩, Nat.le_refl _, rfl⟩, by unfold notIn; rw [decide_eq_false g]; rfl, rfl⟩
/-- Where p is met first. -/
def idxP (p : Nat → Bool) (l : List Nat) : Int := if l.any p then (l.findIdx p : Nat) else -1
structure IxSt (p : Nat → Bool) (l : List Nat) where
  k : Nat
  hk : k ≤ l.length
  hno : ∀ j, j < k → p (atN l j) = false
theorem idxP_at {p : Nat → Bool} {l : List Nat} {k : Nat} (hk : k < l.length) (hno : ∀ j, j < k → p (atN l j) = false) (h : p (atN l k) = true) : idxP p l = (k : Nat) := by
  have h1 : l.any p = true := List.any_eq_true.2 ⟨atN l k, (mem_atN l _).2 ⟨k, hk, rfl⟩, h⟩
  unfold idxP
  rw [if_pos h1]
  have hat : ∀ j (hj : j < l.length), l[j] = atN l j := fun j hj => by
    have := atN_some hj
    rw [List.getElem?_eq_getElem hj] at this
    exact Option.some.inj this
  have : l.findIdx p = k := by
    rw [List.findIdx_eq hk]
    refine ⟨by rw [hat k hk]; exact h, fun j hj => by rw [hat j (by omega)]; exact hno j hj⟩
  rw [this]
theorem idxP_none {p : Nat → Bool} {l : List Nat} (hno : ∀ j, j < l.length → p (atN l j) = false) : idxP p l = -1 := by
  have h1 : l.any p = false := by
    rw [Bool.eq_false_iff]
    intro h
    obtain ⟨x, hx, hp⟩ := List.any_eq_true.1 h
    obtain ⟨j, hj, rfl⟩ := (mem_atN l x).1 hx
    rw [hno j hj] at hp
    cases hp
  unfold idxP
  rw [h1]
  rfl
def finA : AV := .fn (.func 39) [.ptr 0 0]
theorem idxIn_ok (l b : List Nat) (hn : l.length < 9223372036854775807) (hm : b.length < 9223372036854775807) : ACalls Try.prog 48 [us l, .fn (.func 39) [.ptr 0 0]] [.row [us b]] (RetH (i64 (idxP (notIn b) l)) [.row [us b]]) := by
  refine acalls_of_awp hT mixed Try.func48 rfl (by kernel_rfl) (by kernel_rfl) (Nat.le_of_ble_eq_true rfl) ?_
  refine loopI (α := IxSt (notIn b) l) (fun z => [(0, us l), (1, finA), (7, i64 l.length), (8, i64 (z.k : Nat))]) (fun _ => [.row [us b]]) (fun z => l.length - z.k) ⟨0, Nat.zero_le _, fun j hj => by omega⟩ [0] ⟨⟨rfl, rfl, rfl, rfl, True.intro⟩, ⟨.inl rfl, True.intro⟩, rfl, rfl, rfl⟩ ?_
  rintro ⟨k, hk, hno⟩ K hK
  have hinc : wrp .i64 ((k : Int) + 1) = ((k + 1 : Nat) : Int) := by rw [wrpE, wi64]; omega
  refine forkD (fun h => ?_) (fun h => ?_)
  · have h' : k < l.length := by have : (k : Int) < (l.length : Int) := h; omega
    have hx := atN_some h'
    refine Ob.intro (show (0 : Int) ≤ (k : Nat) ∧ ((k : Nat) : Int) < (l.length : Nat) by omega) ?_
    refine optK_intro (nth_map hx) ?_
    have hc := inF_ok b (atN l k) hm
    cases hq : (notIn b) (atN l k) with
    | true =>
      rw [show (_ : Bool) = true from hq] at hc
      refine callH hc [0] rfl ⟨.inl rfl, True.intro⟩ rfl rfl rfl ?_
      exact ⟨rfl, [.row [us b]], i64 (k : Nat), ⟨⟨_, rfl, rfl⟩, ⟨.inl rfl, True.intro⟩, Nat.le_refl _, rfl⟩, by rw [idxP_at h' hno hq], rfl⟩
    | false =>
      rw [show (_ : Bool) = false from hq] at hc
      refine callH hc [0] rfl ⟨.inl rfl, True.intro⟩ rfl rfl rfl ?_
      refine hK ⟨k + 1, h', fun j hj => ?_⟩ [0] _ (show l.length - k = l.length - (k + 1) + 1 by omega) ⟨⟨rfl, rfl, rfl, congrArg i64 hinc, True.intro⟩, ⟨.inl rfl, True.intro⟩, rfl, rfl, rfl⟩
      by_cases hjk : j = k
      · rw [hjk]; exact hq
      · exact hno j (by omega)
  · have h' : k = l.length := by have : ¬ (k : Int) < (l.length : Int) := h; omega
    exact ⟨rfl, [.row [us b]], i64 (-1), ⟨⟨_, rfl, rfl⟩, ⟨.inl rfl, True.intro⟩, Nat.le_refl _, rfl⟩, by rw [idxP_none (fun j hj => hno j (by omega))], rfl⟩
theorem inB_idx (a b : List Nat) : inB a b = decide (idxP (notIn b) a < 0) := by
  unfold idxP
  cases h : a.any (notIn b) with
  | true =>
    obtain ⟨x, hx, hp⟩ := List.any_eq_true.1 h
    have h1 : inB a b = false := by
      rw [Bool.eq_false_iff]
      intro hh
      have := List.all_eq_true.1 hh x hx
      unfold notIn at hp
      rw [this] at hp
      cases hp
    rw [h1, if_pos rfl]
    exact (decide_eq_false (by omega)).symm
  | false =>
    have h1 : inB a b = true := by
      refine List.all_eq_true.2 fun x hx => ?_
      have : notIn b x = false := by
        cases hq : notIn b x with
        | false => rfl
        | true =>
          have := List.any_eq_true.2 ⟨x, hx, hq⟩
          rw [h] at this
          cases this
      unfold notIn at this
      simpa using this
    rw [h1]
    rfl
theorem in_ok (a b : List Nat) (hn : a.length < 9223372036854775807) (hm : b.length < 9223372036854775807) : ACalls Try.prog 24 [us a, us b] [] (Ret (bo (inB a b))) := by
  have hc : ACalls Try.prog 38 [us a, finA] [.row [us b]] (RetH (bo (!(inB a b))) [.row [us b]]) := by
    refine acalls_of_awp hT mixed Try.func38 rfl (by kernel_rfl) (by kernel_rfl) (Nat.le_of_ble_eq_true rfl) ?_
    refine callH (idxIn_ok a b hn hm) [0] rfl ⟨.inl rfl, True.intro⟩ rfl rfl rfl ?_
    refine forkD (fun h => ?_) (fun h => ?_)
    · have h' : ¬ idxP (notIn b) a < 0 := by have : idxP (notIn b) a ≥ 0 := h; omega
      exact ⟨rfl, [.row [us b]], bo true, ⟨⟨_, rfl, rfl⟩, ⟨.inl rfl, True.intro⟩, Nat.le_refl _, rfl⟩, by rw [inB_idx, decide_eq_false h']; rfl, rfl⟩
    · have h' : idxP (notIn b) a < 0 := by have : ¬ idxP (notIn b) a ≥ 0 := h; omega
      exact ⟨rfl, [.row [us b]], bo false, ⟨⟨_, rfl, rfl⟩, ⟨.inl rfl, True.intro⟩, Nat.le_refl _, rfl⟩, by rw [inB_idx, decide_eq_true h']; rfl, rfl⟩
  generalize inB a b = q at *
  cases q with
  | true =>
    refine acalls_of_awp hT mixed Try.func24 rfl (by kernel_rfl) (by kernel_rfl) (Nat.le_of_ble_eq_true rfl) ?_
    refine callH hc [0] rfl ⟨.inl rfl, True.intro⟩ rfl rfl rfl ?_
    exact ⟨rfl, [], bo true, ⟨⟨_, rfl, rfl⟩, True.intro, Nat.zero_le _, rfl⟩, rfl, rfl⟩
  | false =>
    refine acalls_of_awp hT mixed Try.func24 rfl (by kernel_rfl) (by kernel_rfl) (Nat.le_of_ble_eq_true rfl) ?_
    refine callH hc [0] rfl ⟨.inl rfl, True.intro⟩ rfl rfl rfl ?_
    exact ⟨rfl, [], bo false, ⟨⟨_, rfl, rfl⟩, True.intro, Nat.zero_le _, rfl⟩, rfl, rfl⟩
end Go.Proofs.Ytmfifbclldnpkaa.A
