/- The functions of agg: tallies of lists; the law AggNil. No condition. -/
import Derived.Test.YtihjhigckomapaaGb
import Derived.Test.YtihjhigckomapaaOs
import Derived.Test.YtihjhigckomapaaAm19
namespace Go.Proofs.Ytihjhigckomapaa.A
open Go
set_option linter.unusedVariables false
set_option maxRecDepth 100000
set_option pp.maxSteps 1500

abbrev Acc := Nat × Option Nat × Nat × Nat
noncomputable def stepA (a : Acc) (x : Nat) : Acc := (a.1 + 1, addS a.2.1 x, lowS a.1 a.2.2.1 x, highS a.1 a.2.2.2 x)
noncomputable def accA (l : List Nat) : Acc := l.foldl stepA (0, some 0, 0, 0)
noncomputable def talA (a : Acc) : AV := if a.1 = 0 then tal 0 0 0 0 0 else tal a.1 (bitsO a.2.1) (bitsB a.2.2.1) (bitsB a.2.2.2) (bitsO (meanS a.2.1 a.1))
theorem accA_snoc (l : List Nat) (x : Nat) : accA (l ++ [x]) = stepA (accA l) x := by simp [accA]
theorem lowS_lt {c lo x : Nat} (h1 : lo < 18446744073709551616) (h2 : x < 18446744073709551616) : lowS c lo x < 18446744073709551616 := by unfold lowS; split <;> assumption
theorem highS_lt {c lo x : Nat} (h1 : lo < 18446744073709551616) (h2 : x < 18446744073709551616) : highS c lo x < 18446744073709551616 := by unfold highS; split <;> assumption
def adrA (a : Acc) : AObj := .row (adr a.1 a.2.1 a.2.2.1 a.2.2.2)
def AccOk (a : Acc) : Prop := a.1 < 1000000 ∧ a.2.2.1 < 18446744073709551616 ∧ a.2.2.2 < 18446744073709551616
theorem addA_ok (a : Acc) (x : Nat) (ha : AccOk a) (hx : x < 18446744073709551616) :
    ACalls Try.prog 12 [.ptr 0 0, fl x] [adrA a] (RetH (i64 0) [adrA (stepA a x)]) :=
  add_ok a.1 a.2.1 _ a.2.2.1 a.2.2.2 x ha.1 ha.2.1 ha.2.2 hx rfl
theorem tallyA_ok (a : Acc) : ACalls Try.prog 11 [.ptr 0 0] [adrA a] (RetH (talA a) [adrA a]) := by
  unfold talA adrA
  by_cases h : a.1 = 0
  · rw [if_pos h, h]
    exact tally0_ok _ _ _
  · rw [if_neg h]
    exact tally_ok _ _ _ _ _ (by omega) rfl
theorem renO_adr (r : Nat → Nat) (a : Acc) : renO r (adrA a) = adrA a := by
  unfold adrA adr
  cases a.2.1 <;> rfl
/-- How far, and what so far. -/
def AccSt (l : List Nat) : Type := { x : Nat × Acc // x.1 ≤ l.length ∧ x.2 = accA (l.take x.1) ∧ AccOk x.2 ∧ x.2.1 = x.1 }
theorem take_snoc' {l : List Nat} {i x : Nat} (h : l[i]? = some x) : l.take (i + 1) = l.take i ++ [x] := by
  obtain ⟨hi, rfl⟩ := List.getElem?_eq_some_iff.1 h
  exact List.take_succ_eq_append_getElem hi
theorem stepOk {l : List Nat} {k : Nat} {a : Acc} {x : Nat} (hn : l.length ≤ 1000) (hx : l[k]? = some x) (hb : x < 18446744073709551616) (h : k ≤ l.length ∧ a = accA (l.take k) ∧ AccOk a ∧ a.1 = k) :
    k + 1 ≤ l.length ∧ stepA a x = accA (l.take (k + 1)) ∧ AccOk (stepA a x) ∧ (stepA a x).1 = k + 1 := by
  obtain ⟨h1, h2, h3, h4⟩ := h
  have hi := (List.getElem?_eq_some_iff.1 hx).1
  refine ⟨hi, by rw [take_snoc' hx, accA_snoc, h2], ⟨?_, lowS_lt h3.2.1 hb, highS_lt h3.2.2 hb⟩, by simp [stepA, h4]⟩
  show a.1 + 1 < 1000000
  omega
def zTal : AObj := .row [i64 0, u64 0, u64 0, u64 0, u64 0]
theorem ofA_ok (l : List Nat) (hn : l.length ≤ 1000) (hl : ∀ x ∈ l, x < 18446744073709551616) : ACalls Try.prog 13 [.view l.length (l.map fl)] [] (Ret (talA (accA l))) := by
  refine acalls_of_awp hT mixed Try.func13 rfl (by kernel_rfl) (by kernel_rfl) (Nat.le_of_ble_eq_true rfl) ?_
  refine callH new_ok [] rfl True.intro rfl rfl (H' := [zTal, adrA (0, some 0, 0, 0)]) rfl ?_
  refine loopI (α := AccSt l) (fun x => [(2, .ptr 0 0), (3, .ptr 1 0), (7, .view l.length (l.map fl)), (8, i64 l.length), (9, i64 (x.val.1 : Nat))]) (fun x => [zTal, adrA x.val.2]) (fun x => l.length - x.val.1)
    ⟨(0, 0, some 0, 0, 0), Nat.zero_le _, rfl, ⟨by decide, by decide, by decide⟩, rfl⟩ [0, 1] ⟨⟨rfl, rfl, rfl, rfl, rfl, True.intro⟩, ⟨.inl rfl, .inl rfl, True.intro⟩, rfl, rfl, rfl⟩ ?_
  intro x K hK
  obtain ⟨⟨k, a⟩, hst⟩ := x
  replace hst : k ≤ l.length ∧ a = accA (l.take k) ∧ AccOk a ∧ a.1 = k := hst
  refine forkD (fun h => ?_) (fun h => ?_)
  · have h' : k < l.length := by have : (k : Int) < (l.length : Int) := h; omega
    obtain ⟨y, hy⟩ : ∃ y, l[k]? = some y := ⟨_, List.getElem?_eq_getElem h'⟩
    have hyb := hl y (List.mem_of_getElem? hy)
    refine Ob.intro (show (0 : Int) ≤ (k : Nat) ∧ ((k : Nat) : Int) < (l.length : Nat) by omega) ?_
    refine optK_intro (nth_map hy) ?_
    refine callH (addA_ok a y hst.2.2.1 hyb) [1] rfl ⟨.inl (by rw [renO_adr]; rfl), True.intro⟩ rfl rfl (H' := [zTal, adrA (stepA a y)]) (by simp only [renH, renO_adr]; rfl) ?_
    refine hK ⟨(k + 1, stepA a y), stepOk hn hy hyb hst⟩ [0, 1] _ ?_ ?_
    · show l.length - k = l.length - (k + 1) + 1
      omega
    · refine ⟨⟨rfl, rfl, rfl, rfl, congrArg i64 (?_ : wrp .i64 ((k : Int) + 1) = ((k + 1 : Nat) : Int)), True.intro⟩, ⟨.inl rfl, .inl (by rw [renO_adr]; rfl), True.intro⟩, rfl, rfl, rfl⟩
      rw [wrpE, wi64]
      omega
  · have h' : k = l.length := by have : ¬ (k : Int) < (l.length : Int) := h; omega
    have ha : a = accA l := by rw [hst.2.1, h', List.take_length]
    subst ha
    have htl := tallyA_ok (accA l)
    unfold talA at htl ⊢
    by_cases h0 : (accA l).1 = 0
    · rw [if_pos h0] at htl ⊢
      refine callH htl [1] rfl ⟨.inl (by rw [renO_adr]; rfl), True.intro⟩ rfl rfl (H' := [zTal, adrA (accA l)]) (by simp only [renH, renO_adr]; rfl) ?_
      refine end0 rfl rfl rfl rfl
    · rw [if_neg h0] at htl ⊢
      refine callH htl [1] rfl ⟨.inl (by rw [renO_adr]; rfl), True.intro⟩ rfl rfl (H' := [zTal, adrA (accA l)]) (by simp only [renH, renO_adr]; rfl) ?_
      refine end0 rfl rfl rfl rfl
theorem awakeG_ok : ACalls Try.prog 7 [] [] (Ret (bo true)) := by
  have ho := ofA_ok [4607182418800017408, nanW] (by decide) (by decide)
  have e : ∃ m, talA (accA [4607182418800017408, nanW]) = tal 2 nanW 4607182418800017408 nanW m := by
    have hs : (accA [4607182418800017408, nanW]).2.1 = none := by
      show addS (addS (some 0) 4607182418800017408) nanW = none
      cases addS (some 0) 4607182418800017408 with
      | none => rfl
      | some y =>
        show fari .add .f64 y nanW = none
        rw [fari_add]
        show ((Ieee.double.read y).sum (Ieee.double.read nanW)).map _ = none
        have : Ieee.double.read nanW = .nan false 2251799813685249 := by decide
        rw [this]
        cases Ieee.double.read y <;> rfl
    have h1 : (accA [4607182418800017408, nanW]).1 = 2 := rfl
    have h2 : (accA [4607182418800017408, nanW]).2.2.1 = 4607182418800017408 := by
      show lowS 1 (lowS 0 0 4607182418800017408) nanW = _
      decide
    have h3 : (accA [4607182418800017408, nanW]).2.2.2 = nanW := by
      show highS 1 (highS 0 0 4607182418800017408) nanW = _
      decide
    unfold talA
    rw [if_neg (by rw [h1]; decide), h1, h2, h3, hs]
    exact ⟨_, rfl⟩
  obtain ⟨m, e⟩ := e
  rw [e] at ho
  refine acalls_of_awp hT mixed Try.func7 rfl (by kernel_rfl) (by kernel_rfl) (Nat.le_of_ble_eq_true rfl) ?_
  refine callP nanF_ok rfl rfl ?_
  refine callF ho rfl rfl ?_
  refine end0 rfl rfl rfl rfl
theorem aggNil_ok (x : Nat) : ACalls Try.prog 4 [u64 x] [] (Ret (bo true)) := by
  refine acalls_of_awp hT mixed Try.func4 rfl (by kernel_rfl) (by kernel_rfl) (Nat.le_of_ble_eq_true rfl) ?_
  refine callP awakeG_ok rfl rfl ?_
  refine callP (float64frombits_ok x) rfl rfl ?_
  refine callP (addNil_ok x) rfl rfl ?_
  refine callP tallyNil_ok rfl rfl ?_
  refine end0 rfl rfl rfl rfl
theorem wf_nat {l : List AV} (h : Wf (.int .u64) l) : ∃ m : Nat, l = [u64 m] ∧ m < 18446744073709551616 := by
  obtain ⟨m, rfl, hm⟩ := h
  have hm := wf_u64 hm
  refine ⟨m.toNat, ?_, by omega⟩
  have : ((m.toNat : Nat) : Int) = m := by omega
  rw [this]
  rfl
theorem aggNil_law (l0 : List AV) (w0 : Wf (.int .u64) l0) : ACalls Try.prog 4 [argA (.int .u64) l0] [] (Ret (.sc (.bool true))) := by
  obtain ⟨m, rfl, hm⟩ := wf_nat w0
  exact aggNil_ok m
end Go.Proofs.Ytihjhigckomapaa.A
