/- law03: far. No condition. -/
import Derived.Test.YthebddjpnkimjaaWh
namespace Go.Proofs.Ythebddjpnkimjaa.A
open Go
set_option linter.unusedVariables false
set_option linter.unusedSimpArgs false
set_option maxRecDepth 100000
set_option pp.maxSteps 300

def farI : Nat → List It → Bool
  | 0, _ => true
  | r + 1, l => decide (100 < l.length) || l.any fun x => match x with
    | .mk n s l2 k => decide (300 < s.size) || decide (20 < l2.length) || farI r k
theorem itC_at {l : List It} {j : Nat} {x : It} (h : l[j]? = some x) (c : Nat) (hc : c < 4) : (flat itC l)[j * 4 + c]? = (itC x)[c]? := by
  have h1 := (takeN_some (flat_takeN itC_len h)).2
  rw [Int.toNat_natCast] at h1
  have h2 : (((flat itC l).drop (j * 4)).take 4)[c]? = (itC x)[c]? := by rw [← h1]
  rw [List.getElem?_take, if_pos hc, List.getElem?_drop] at h2
  exact h2
/-- A field of one of a row of items. -/
theorem fldI {l : List It} {j : Nat} {x : It} (h : l[j]? = some x) (c : Nat) {a : AV} (hc : (itC x)[c]? = some a) : nth (List.drop c (List.drop ((j : Int).toNat * 4) (flat itC l))) 0 = some a := by
  have hc4 : c < 4 := by
    have := (List.getElem?_eq_some_iff.1 hc).1
    rw [itC_len] at this
    exact this
  rw [nth_eq, List.getElem?_drop, List.getElem?_drop, Int.toNat_natCast, Nat.add_zero]
  exact (itC_at h c hc4).trans hc
theorem itC_k (n : Nat) (s : ByteArray) (l : List Nat) (k : List It) : (itC (.mk n s l k))[3]? = some (itsV k) := by rw [itC, itsC_flat]; rfl
theorem farI_snoc {r : Nat} {l : List It} {j n2 : Nat} {s2 : ByteArray} {l2 : List Nat} {k2 : List It} (hl : l.length ≤ 100) (hx : l[j]? = some (.mk n2 s2 l2 k2)) (h : farI (r + 1) (l.take j) = false) (h1 : ¬ 300 < s2.size) (h2 : ¬ 20 < l2.length) (h3 : farI r k2 = false) :
    farI (r + 1) (l.take (j + 1)) = false := by
  rw [take_snocA hx]
  unfold farI at h ⊢
  simp only [Bool.or_eq_false_iff, decide_eq_false_iff_not] at h ⊢
  have := (List.getElem?_eq_some_iff.1 hx).1
  refine ⟨by rw [List.length_append, List.length_take]; simp only [List.length_cons, List.length_nil]; omega, ?_⟩
  rw [List.any_append, h.2]
  simp [h1, h2, h3]
theorem farI_bad {r : Nat} {l : List It} {n : Nat} {s : ByteArray} {l2 : List Nat} {k : List It} (hx : It.mk n s l2 k ∈ l) (h : (decide (300 < s.size) || decide (20 < l2.length) || farI r k) = true) : farI (r + 1) l = true := by
  unfold farI
  rw [List.any_eq_true.2 ⟨_, hx, h⟩, Bool.or_true]
theorem farI_len {r : Nat} {l : List It} (h : 100 < l.length) : farI r l = true := by
  cases r with
  | zero => rfl
  | succ r => unfold farI; rw [decide_eq_true h]; rfl
theorem far_ok : ∀ (r : Nat) (d : Int) (l : List It), r ≤ 4 → d = 4 - (r : Int) → ACalls Try.prog 8 [itsV l, i64 d] [] (Ret (bo (farI r l)))
  | 0, d, l, hr, hd => by
    refine acalls_of_awp hT mixed Try.func8 rfl (by kernel_rfl) (by kernel_rfl) (Nat.le_of_ble_eq_true rfl) ?_
    refine forkD (fun h => ?_) (fun h => ?_)
    · refine end0 rfl rfl rfl rfl
    · refine forkD (fun h => ?_) (fun h => ?_)
      · refine end0 rfl rfl rfl rfl
      · exact absurd (show d > 3 by omega) h
  | r + 1, d, l, hr, hd => by
    refine acalls_of_awp hT mixed Try.func8 rfl (by kernel_rfl) (by kernel_rfl) (Nat.le_of_ble_eq_true rfl) ?_
    refine forkD (fun h => ?_) (fun h => ?_)
    · have h' : 100 < l.length := by have : (l.length : Int) > 100 := h; omega
      refine end0 rfl rfl rfl (congrArg bo (farI_len h').symm)
    have h' : l.length ≤ 100 := by have : ¬ (l.length : Int) > 100 := h; omega
    refine forkD (fun h => ?_) (fun h => ?_)
    · exfalso
      have : d > 3 := h
      omega
    refine loopI (α := {j : Nat // j ≤ l.length ∧ farI (r + 1) (l.take j) = false}) (fun z => [(0, itsV l), (1, i64 d), (5, i64 (z.1 : Nat))]) (fun z => []) (fun z => l.length - z.1) ⟨0, Nat.zero_le _, by unfold farI; simp⟩ [] ⟨⟨rfl, rfl, rfl, True.intro⟩, True.intro, rfl, rfl, rfl⟩ ?_
    rintro ⟨j, hj, hf⟩ K hK
    have hinc : wrp .i64 ((j : Int) + 1) = ((j + 1 : Nat) : Int) := by rw [wrpE, wi64]; omega
    refine forkD (fun h => ?_) (fun h => ?_)
    · have hjl : j < l.length := by have : (j : Int) < (l.length : Int) := h; omega
      obtain ⟨x, hx⟩ : ∃ x, l[j]? = some x := ⟨_, List.getElem?_eq_getElem hjl⟩
      have hbj : (0 : Int) ≤ (j : Nat) ∧ ((j : Nat) : Int) < (l.length : Nat) := by omega
      obtain ⟨n2, s2, l2, k2⟩ := x
      refine Ob.intro hbj ?_
      have hm := List.mem_of_getElem? hx
      refine optK_intro (fldI hx 1 rfl) ?_
      refine forkD (fun g => ?_) (fun g => ?_)
      · have g' : 300 < s2.size := by have : (s2.size : Int) > 300 := g; omega
        refine end0 rfl rfl rfl (congrArg bo (farI_bad hm ?_).symm)
        simp [g']
      have g' : ¬ 300 < s2.size := by have : ¬ (s2.size : Int) > 300 := g; omega
      refine Ob.intro hbj ?_
      refine optK_intro (fldI hx 2 rfl) ?_
      refine forkD (fun g => ?_) (fun g => ?_)
      · have g2 : 20 < l2.length := by have : (l2.length : Int) > 20 := g; omega
        refine end0 rfl rfl rfl (congrArg bo (farI_bad hm ?_).symm)
        simp [g2]
      have g2 : ¬ 20 < l2.length := by have : ¬ (l2.length : Int) > 20 := g; omega
      refine Ob.intro hbj ?_
      refine optK_intro (fldI hx 3 (itC_k n2 s2 l2 k2)) ?_
      have hdw : wrp .i64 (d + 1) = 4 - (r : Int) := by rw [wrpE, wi64]; omega
      have hc := far_ok r (wrp .i64 (d + 1)) k2 (by omega) hdw
      cases hq : farI r k2 with
      | true =>
        rw [hq] at hc
        refine callP hc rfl rfl ?_
        refine end0 rfl rfl rfl (congrArg bo (farI_bad hm ?_).symm)
        simp [hq]
      | false =>
        rw [hq] at hc
        refine callP hc rfl rfl ?_
        exact hK ⟨j + 1, hjl, farI_snoc h' hx hf g' g2 hq⟩ [] _ (show l.length - j = l.length - (j + 1) + 1 by omega) ⟨⟨rfl, rfl, congrArg i64 hinc, True.intro⟩, True.intro, rfl, rfl, rfl⟩
    · have hjl : j = l.length := by have : ¬ (j : Int) < (l.length : Int) := h; omega
      rw [hjl, List.take_length] at hf
      refine end0 rfl rfl rfl (congrArg bo hf.symm)
end Go.Proofs.Ythebddjpnkimjaa.A
