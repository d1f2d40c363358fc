/- expr: one step, by the document, the rest. No condition. -/
import Derived.Test.YtdjpcmlnhkiokaaEm
namespace Go.Proofs.Ytdjpcmlnhkiokaa.A
open Go
set_option linter.unusedVariables false
set_option maxRecDepth 100000
set_option pp.maxSteps 1500

theorem take1 {l : List Nat} {j b : Nat} (h : l[j]? = some b) : (l.drop j).take 1 = [b] := by
  obtain ⟨hj, rfl⟩ := List.getElem?_eq_some_iff.1 h
  rw [List.drop_eq_getElem_cons hj]
  rfl
theorem rStep7 (own x off k : Nat) (l : List Nat) (hc : ∀ b ∈ l, cW b) (hk : k = 2) (hl : off + 2 ≤ l.length) : ACalls Try.prog 27 [i64 7, fl own, fl x, .slc 0 off k 1] [.row (l.map fl)] (RStepR (outS 7 own x ((l.drop off).take 2)) l) := by
  subst hk
  obtain ⟨a, b, ha, hb, hca, hcb, hq⟩ : ∃ a b, l[off]? = some a ∧ l[off + 1]? = some b ∧ cW a ∧ cW b ∧ (l.drop off).take 2 = [a, b] := by
    have h := List.getElem?_eq_getElem (l := l) (i := off) (by omega)
    have h' := List.getElem?_eq_getElem (l := l) (i := off + 1) (by omega)
    refine ⟨l[off], l[off + 1], h, h', hc _ (List.getElem_mem _), hc _ (List.getElem_mem _), ?_⟩
    rw [List.drop_eq_getElem_cons (by omega), List.drop_eq_getElem_cons (by omega)]
    rfl
  rw [hq]
  have hi0 : (0 : Int) ≤ 0 ∧ 0 < ((2 : Nat) : Int) := by decide
  have hi1 : (0 : Int) ≤ 1 ∧ 1 < ((2 : Nat) : Int) := by decide
  have hx : ∀ G : Heap, rd1 (.row (l.map fl) :: G) 0 (off + (0 : Int).toNat * 1) = some (fl a) := fun G => rd1_at rfl ha rfl
  have hy : ∀ G : Heap, rd1 (.row (l.map fl) :: G) 0 (off + (1 : Int).toNat * 1) = some (fl b) := fun G => rd1_at rfl hb rfl
  have hL := less_ok b a hcb.1 hca.1
  have e0 : outS 7 own x [a, b] = some [bitsO (if placeB a ≤ placeB b then some a else some b)] := rfl
  by_cases h : placeB b < placeB a
  · rw [decide_eq_true h] at hL
    have e : outS 7 own x [a, b] = some [b] := by rw [e0, if_neg (by omega)]; exact congrArg (fun z => some [z]) hcb.2
    rw [e]
    refine acalls_of_awp hT mixed Try.func27 rfl (by kernel_rfl) (by kernel_rfl) (Nat.le_of_ble_eq_true rfl) ?_
    refine ⟨[0, 0, 0, 0, 0, 0, 1], [[], [0], [0, 1], [], [3], [3, 4], [0, 1, 2, 3, 4, 5]], [0, 0, 0, 0, 0, 0, 0], [6], [[3], [67], [68], [3], [70], [71], [69, 72]], Ob.intro (by kernel_rfl) ?_⟩
    repeat first | refine same ?_ | refine Ob.intro hi0 ?_ | refine Ob.intro hi1 ?_ | refine optK_intro (hx _) ?_ | refine optK_intro (hy _) ?_
    refine callP hL rfl rfl ?_
    repeat first | refine same ?_ | refine Ob.intro hi0 ?_ | refine Ob.intro hi1 ?_ | refine optK_intro (hx _) ?_ | refine optK_intro (hy _) ?_
    refine Ob.intro (by decide) ?_
    refine endG rfl rfl rfl (G := [.row (l.map fl)]) ⟨.inl rfl, True.intro⟩ (Nat.le_refl 1) (below1 _) (.inr ⟨off + 1, rfl, rfl, take1 hb, by show off + 1 + 1 ≤ _; omega⟩)
  · rw [decide_eq_false h] at hL
    have e : outS 7 own x [a, b] = some [a] := by rw [e0, if_pos (by omega)]; exact congrArg (fun z => some [z]) hca.2
    rw [e]
    refine acalls_of_awp hT mixed Try.func27 rfl (by kernel_rfl) (by kernel_rfl) (Nat.le_of_ble_eq_true rfl) ?_
    refine ⟨[0, 0, 0, 0, 0, 0, 1], [[], [0], [0, 1], [], [3], [3, 4], [0, 1, 2, 3, 4, 5]], [0, 0, 0, 0, 0, 0, 0], [6], [[3], [67], [68], [3], [70], [71], [69, 72]], Ob.intro (by kernel_rfl) ?_⟩
    repeat first | refine same ?_ | refine Ob.intro hi0 ?_ | refine Ob.intro hi1 ?_ | refine optK_intro (hx _) ?_ | refine optK_intro (hy _) ?_
    refine callP hL rfl rfl ?_
    repeat first | refine same ?_ | refine Ob.intro hi0 ?_ | refine Ob.intro hi1 ?_ | refine optK_intro (hx _) ?_ | refine optK_intro (hy _) ?_
    refine Ob.intro (by decide) ?_
    refine endG rfl rfl rfl (G := [.row (l.map fl)]) ⟨.inl rfl, True.intro⟩ (Nat.le_refl 1) (below1 _) (.inr ⟨off + 0, rfl, rfl, take1 ha, by show off + 0 + 1 ≤ _; omega⟩)
theorem rStep8 (own x off k : Nat) (l : List Nat) (hc : ∀ b ∈ l, cW b) (hk : k = 2) (hl : off + 2 ≤ l.length) : ACalls Try.prog 27 [i64 8, fl own, fl x, .slc 0 off k 1] [.row (l.map fl)] (RStepR (outS 8 own x ((l.drop off).take 2)) l) := by
  subst hk
  obtain ⟨a, b, ha, hb, hca, hcb, hq⟩ : ∃ a b, l[off]? = some a ∧ l[off + 1]? = some b ∧ cW a ∧ cW b ∧ (l.drop off).take 2 = [a, b] := by
    have h := List.getElem?_eq_getElem (l := l) (i := off) (by omega)
    have h' := List.getElem?_eq_getElem (l := l) (i := off + 1) (by omega)
    refine ⟨l[off], l[off + 1], h, h', hc _ (List.getElem_mem _), hc _ (List.getElem_mem _), ?_⟩
    rw [List.drop_eq_getElem_cons (by omega), List.drop_eq_getElem_cons (by omega)]
    rfl
  rw [hq]
  have hi0 : (0 : Int) ≤ 0 ∧ 0 < ((2 : Nat) : Int) := by decide
  have hi1 : (0 : Int) ≤ 1 ∧ 1 < ((2 : Nat) : Int) := by decide
  have hx : ∀ G : Heap, rd1 (.row (l.map fl) :: G) 0 (off + (0 : Int).toNat * 1) = some (fl a) := fun G => rd1_at rfl ha rfl
  have hy : ∀ G : Heap, rd1 (.row (l.map fl) :: G) 0 (off + (1 : Int).toNat * 1) = some (fl b) := fun G => rd1_at rfl hb rfl
  have hL := less_ok a b hca.1 hcb.1
  have e0 : outS 8 own x [a, b] = some [bitsO (if placeB a ≤ placeB b then some b else some a)] := rfl
  by_cases h : placeB a < placeB b
  · rw [decide_eq_true h] at hL
    have e : outS 8 own x [a, b] = some [b] := by rw [e0, if_pos (by omega)]; exact congrArg (fun z => some [z]) hcb.2
    rw [e]
    refine acalls_of_awp hT mixed Try.func27 rfl (by kernel_rfl) (by kernel_rfl) (Nat.le_of_ble_eq_true rfl) ?_
    refine ⟨[0, 0, 0, 0, 0, 0, 1], [[], [0], [0, 1], [], [3], [3, 4], [0, 1, 2, 3, 4, 5]], [0, 0, 0, 0, 0, 0, 0], [6], [[3], [80], [81], [3], [83], [84], [82, 85]], Ob.intro (by kernel_rfl) ?_⟩
    repeat first | refine same ?_ | refine Ob.intro hi0 ?_ | refine Ob.intro hi1 ?_ | refine optK_intro (hx _) ?_ | refine optK_intro (hy _) ?_
    refine callP hL rfl rfl ?_
    repeat first | refine same ?_ | refine Ob.intro hi0 ?_ | refine Ob.intro hi1 ?_ | refine optK_intro (hx _) ?_ | refine optK_intro (hy _) ?_
    refine Ob.intro (by decide) ?_
    refine endG rfl rfl rfl (G := [.row (l.map fl)]) ⟨.inl rfl, True.intro⟩ (Nat.le_refl 1) (below1 _) (.inr ⟨off + 1, rfl, rfl, take1 hb, by show off + 1 + 1 ≤ _; omega⟩)
  · rw [decide_eq_false h] at hL
    have e : outS 8 own x [a, b] = some [a] := by
      rw [e0]
      by_cases h2 : placeB a ≤ placeB b
      · have hab : bitsB a = bitsB b := (placeB_inj hca.1 hcb.1).1 (by omega)
        rw [if_pos h2, hca.2, hcb.2] at *
        rw [hab]
        exact congrArg (fun z => some [z]) hcb.2
      · rw [if_neg h2]
        exact congrArg (fun z => some [z]) hca.2
    rw [e]
    refine acalls_of_awp hT mixed Try.func27 rfl (by kernel_rfl) (by kernel_rfl) (Nat.le_of_ble_eq_true rfl) ?_
    refine ⟨[0, 0, 0, 0, 0, 0, 1], [[], [0], [0, 1], [], [3], [3, 4], [0, 1, 2, 3, 4, 5]], [0, 0, 0, 0, 0, 0, 0], [6], [[3], [80], [81], [3], [83], [84], [82, 85]], Ob.intro (by kernel_rfl) ?_⟩
    repeat first | refine same ?_ | refine Ob.intro hi0 ?_ | refine Ob.intro hi1 ?_ | refine optK_intro (hx _) ?_ | refine optK_intro (hy _) ?_
    refine callP hL rfl rfl ?_
    repeat first | refine same ?_ | refine Ob.intro hi0 ?_ | refine Ob.intro hi1 ?_ | refine optK_intro (hx _) ?_ | refine optK_intro (hy _) ?_
    refine Ob.intro (by decide) ?_
    refine endG rfl rfl rfl (G := [.row (l.map fl)]) ⟨.inl rfl, True.intro⟩ (Nat.le_refl 1) (below1 _) (.inr ⟨off + 0, rfl, rfl, take1 ha, by show off + 0 + 1 ≤ _; omega⟩)
theorem rStep9 (own x off k : Nat) (l : List Nat) (hc : ∀ b ∈ l, cW b) (hk : k = 1) (hl : off + 1 ≤ l.length) : ACalls Try.prog 27 [i64 9, fl own, fl x, .slc 0 off k 1] [.row (l.map fl)] (RStepR (outS 9 own x ((l.drop off).take 1)) l) := by
  subst hk
  obtain ⟨a, ha, hca, hq⟩ : ∃ a, l[off]? = some a ∧ cW a ∧ (l.drop off).take 1 = [a] := by
    have h := List.getElem?_eq_getElem (l := l) (i := off) (by omega)
    refine ⟨l[off], h, hc _ ?_, ?_⟩
    · exact List.getElem_mem _
    · rw [List.drop_eq_getElem_cons (by omega)]
      rfl
  rw [hq]
  have hi0 : (0 : Int) ≤ 0 ∧ 0 < ((1 : Nat) : Int) := by decide
  have hi1 := hi0
  have hx : ∀ G : Heap, rd1 (.row (l.map fl) :: G) 0 (off + (0 : Int).toNat * 1) = some (fl a) := fun G => rd1_at rfl ha rfl
  have hy := hx
  have e : outS 9 own x [a] = some [bitsO (some (Op.negFloat .f64 a))] := rfl
  have hX := xor64 hca.1
  have h1 := rOne_ok (Op.negFloat .f64 a) (neg_lt hca.1)
  have h2 := float64frombits_ok (wrp .u64 ((BitVec.ofInt IntKind.u64.bits (a : Int) ^^^ BitVec.ofInt IntKind.u64.bits 9223372036854775808).toNat : Int))
  have e2 : (wrp .u64 ((BitVec.ofInt IntKind.u64.bits (a : Int) ^^^ BitVec.ofInt IntKind.u64.bits 9223372036854775808).toNat : Int)).toNat = Op.negFloat .f64 a := by rw [hX, Int.toNat_natCast]
  rw [e2] at h2
  rw [e]
  generalize Op.negFloat .f64 a = z at *
  generalize bitsO (some z) = y at *
  refine acalls_of_awp hT mixed Try.func27 rfl (by kernel_rfl) (by kernel_rfl) (Nat.le_of_ble_eq_true rfl) ?_
  refine Ob.intro hi0 ?_
  refine optK_intro (hx _) ?_
  refine callP (float64bits_ok a) rfl rfl ?_
  refine callP h2 rfl rfl ?_
  refine callP h1 rfl rfl ?_
  refine endG rfl rfl rfl (G := [.row (l.map fl), .row ([y].map fl)]) ⟨.inl rfl, .inl rfl, True.intro⟩ (show 1 ≤ 2 by decide) (below2 _ _) (.inl ⟨rfl, rfl⟩)
theorem rStep10 (own x off k : Nat) (l : List Nat) (hc : ∀ b ∈ l, cW b) (hk : k = 1) (hl : off + 1 ≤ l.length) : ACalls Try.prog 27 [i64 10, fl own, fl x, .slc 0 off k 1] [.row (l.map fl)] (RStepR (outS 10 own x ((l.drop off).take 1)) l) := by
  subst hk
  obtain ⟨a, ha, hca, hq⟩ : ∃ a, l[off]? = some a ∧ cW a ∧ (l.drop off).take 1 = [a] := by
    have h := List.getElem?_eq_getElem (l := l) (i := off) (by omega)
    refine ⟨l[off], h, hc _ ?_, ?_⟩
    · exact List.getElem_mem _
    · rw [List.drop_eq_getElem_cons (by omega)]
      rfl
  rw [hq]
  have hi0 : (0 : Int) ≤ 0 ∧ 0 < ((1 : Nat) : Int) := by decide
  have hi1 := hi0
  have hx : ∀ G : Heap, rd1 (.row (l.map fl) :: G) 0 (off + (0 : Int).toNat * 1) = some (fl a) := fun G => rd1_at rfl ha rfl
  have hy := hx
  have e : outS 10 own x [a] = some [bitsO (some (a % 9223372036854775808))] := rfl
  have h1 := rOne_ok (a % 9223372036854775808) (by omega)
  have h2 := float64frombits_ok (hd ((a : Int).tmod 9223372036854775808))
  have e2 : (hd ((a : Int).tmod 9223372036854775808)).toNat = a % 9223372036854775808 := by rw [hd_eq]; rfl
  rw [e2] at h2
  rw [e]
  generalize a % 9223372036854775808 = z at *
  generalize bitsO (some z) = y at *
  refine acalls_of_awp hT mixed Try.func27 rfl (by kernel_rfl) (by kernel_rfl) (Nat.le_of_ble_eq_true rfl) ?_
  refine Ob.intro hi0 ?_
  refine optK_intro (hx _) ?_
  refine callP (float64bits_ok a) rfl rfl ?_
  refine Ob.intro (by decide) ?_
  refine callP h2 rfl rfl ?_
  refine callP h1 rfl rfl ?_
  refine endG rfl rfl rfl (G := [.row (l.map fl), .row ([y].map fl)]) ⟨.inl rfl, .inl rfl, True.intro⟩ (show 1 ≤ 2 by decide) (below2 _ _) (.inl ⟨rfl, rfl⟩)
theorem word_notNan (s : Bool) (r : Nat) (h : r ≤ 9218868437227405312) : nanB (Ieee.double.word s r) = false := by
  rw [wordE]
  unfold nanB
  rw [decide_eq_false_iff_not]
  split <;> omega
theorem floorB_c {a : Nat} (h : cW a) : bitsB (floorB a) = floorB a := by
  by_cases hn : nanB a = true
  · have : floorB a = a := if_pos hn
    rw [this, h.2]
  · have hn' : nanB a = false := by cases hq : nanB a <;> first | rfl | exact absurd hq hn
    have : nanB (floorB a) = false := by
      unfold floorB
      rw [if_neg hn]
      have hi : Ieee.double.infRung = 9218868437227405312 := rfl
      show nanB (Ieee.double.write ((Ieee.double.read a).integral .down)) = false
      cases hq : Ieee.double.read a with
      | number s m e =>
        show nanB (Ieee.double.nearest s _ 0) = false
        unfold Ieee.Format.nearest
        split
        · exact word_notNan _ _ (by decide)
        · exact word_notNan _ _ (by rw [hi]; exact Nat.min_le_right ..)
      | infinity s => exact word_notNan s _ (by rw [hi]; exact Nat.le_refl _)
      | nan s t =>
        have := nan_read ⟨s, t, hq⟩
        rw [hn'] at this
        cases this
    unfold bitsB
    rw [if_neg (by rw [this]; decide)]
theorem rStep11 (own x off k : Nat) (l : List Nat) (hc : ∀ b ∈ l, cW b) (hk : k = 1) (hl : off + 1 ≤ l.length) : ACalls Try.prog 27 [i64 11, fl own, fl x, .slc 0 off k 1] [.row (l.map fl)] (RStepR (outS 11 own x ((l.drop off).take 1)) l) := by
  subst hk
  obtain ⟨a, ha, hca, hq⟩ : ∃ a, l[off]? = some a ∧ cW a ∧ (l.drop off).take 1 = [a] := by
    have h := List.getElem?_eq_getElem (l := l) (i := off) (by omega)
    refine ⟨l[off], h, hc _ ?_, ?_⟩
    · exact List.getElem_mem _
    · rw [List.drop_eq_getElem_cons (by omega)]
      rfl
  rw [hq]
  have hi0 : (0 : Int) ≤ 0 ∧ 0 < ((1 : Nat) : Int) := by decide
  have hi1 := hi0
  have hx : ∀ G : Heap, rd1 (.row (l.map fl) :: G) 0 (off + (0 : Int).toNat * 1) = some (fl a) := fun G => rd1_at rfl ha rfl
  have hy := hx
  have e : outS 11 own x [a] = some [floorB a] := by show some [bitsB (floorB a)] = _; rw [floorB_c hca]
  have h1 := rFloor_ok a hca.1
  rw [e]
  generalize floorB a = z at *
  refine acalls_of_awp hT mixed Try.func27 rfl (by kernel_rfl) (by kernel_rfl) (Nat.le_of_ble_eq_true rfl) ?_
  refine Ob.intro hi0 ?_
  refine optK_intro (hx _) ?_
  refine callP h1 rfl rfl ?_
  refine endG rfl rfl rfl (G := [.row (l.map fl), .row ([z].map fl)]) ⟨.inl rfl, .inl rfl, True.intro⟩ (show 1 ≤ 2 by decide) (below2 _ _) (.inl ⟨rfl, rfl⟩)
theorem rStep12 (own x off k : Nat) (l : List Nat) (hc : ∀ b ∈ l, cW b) (hk : k = 1) (hl : off + 1 ≤ l.length) : ACalls Try.prog 27 [i64 12, fl own, fl x, .slc 0 off k 1] [.row (l.map fl)] (RStepR (outS 12 own x ((l.drop off).take 1)) l) := by
  subst hk
  obtain ⟨a, ha, hca, hq⟩ : ∃ a, l[off]? = some a ∧ cW a ∧ (l.drop off).take 1 = [a] := by
    have h := List.getElem?_eq_getElem (l := l) (i := off) (by omega)
    refine ⟨l[off], h, hc _ ?_, ?_⟩
    · exact List.getElem_mem _
    · rw [List.drop_eq_getElem_cons (by omega)]
      rfl
  rw [hq]
  have hi0 : (0 : Int) ≤ 0 ∧ 0 < ((1 : Nat) : Int) := by decide
  have hi1 := hi0
  have hx : ∀ G : Heap, rd1 (.row (l.map fl) :: G) 0 (off + (0 : Int).toNat * 1) = some (fl a) := fun G => rd1_at rfl ha rfl
  have hy := hx
  have e : outS 12 own x [a] = some [a, a] := by show some [bitsB a, bitsB a] = _; rw [hca.2]
  rw [e]
  refine acalls_of_awp hT mixed Try.func27 rfl (by kernel_rfl) (by kernel_rfl) (Nat.le_of_ble_eq_true rfl) ?_
  refine ⟨[0, 0, 0, 0, 0, 0, 0, 0, 0], [[], [0], [0, 1], [], [3], [3, 4], [0, 1, 2, 3, 4, 5], [0, 1, 2, 3, 4, 5, 6], [0, 1, 2, 3, 4, 5, 6, 7]], [0, 0, 0, 0, 0, 0, 0, 1, 1], [], [[3], [120], [121], [3], [123], [124], [122, 125], [126], []], Ob.intro (by kernel_rfl) ?_⟩
  repeat first | refine same ?_ | refine Ob.intro hi0 ?_ | refine Ob.intro hi1 ?_ | refine optK_intro (hx _) ?_ | refine optK_intro (hy _) ?_
  refine endG rfl rfl rfl (G := [.row (l.map fl), .row ([a, a].map fl)]) ⟨.inl rfl, .inl rfl, True.intro⟩ (show 1 ≤ 2 by decide) (below2 _ _) (.inl ⟨rfl, rfl⟩)
theorem rStep13 (own x off k : Nat) (l : List Nat) (hc : ∀ b ∈ l, cW b) (hk : k = 2) (hl : off + 2 ≤ l.length) : ACalls Try.prog 27 [i64 13, fl own, fl x, .slc 0 off k 1] [.row (l.map fl)] (RStepR (outS 13 own x ((l.drop off).take 2)) l) := by
  subst hk
  obtain ⟨a, b, ha, hb, hca, hcb, hq⟩ : ∃ a b, l[off]? = some a ∧ l[off + 1]? = some b ∧ cW a ∧ cW b ∧ (l.drop off).take 2 = [a, b] := by
    have h := List.getElem?_eq_getElem (l := l) (i := off) (by omega)
    have h' := List.getElem?_eq_getElem (l := l) (i := off + 1) (by omega)
    refine ⟨l[off], l[off + 1], h, h', hc _ (List.getElem_mem _), hc _ (List.getElem_mem _), ?_⟩
    rw [List.drop_eq_getElem_cons (by omega), List.drop_eq_getElem_cons (by omega)]
    rfl
  rw [hq]
  have hi0 : (0 : Int) ≤ 0 ∧ 0 < ((2 : Nat) : Int) := by decide
  have hi1 : (0 : Int) ≤ 1 ∧ 1 < ((2 : Nat) : Int) := by decide
  have hx : ∀ G : Heap, rd1 (.row (l.map fl) :: G) 0 (off + (0 : Int).toNat * 1) = some (fl a) := fun G => rd1_at rfl ha rfl
  have hy : ∀ G : Heap, rd1 (.row (l.map fl) :: G) 0 (off + (1 : Int).toNat * 1) = some (fl b) := fun G => rd1_at rfl hb rfl
  have e : outS 13 own x [a, b] = some [b, a] := by show some [bitsB b, bitsB a] = _; rw [hca.2, hcb.2]
  rw [e]
  refine acalls_of_awp hT mixed Try.func27 rfl (by kernel_rfl) (by kernel_rfl) (Nat.le_of_ble_eq_true rfl) ?_
  refine ⟨[0, 0, 0, 0, 0, 0, 0, 0, 0], [[], [0], [0, 1], [], [3], [3, 4], [0, 1, 2, 3, 4, 5], [0, 1, 2, 3, 4, 5, 6], [0, 1, 2, 3, 4, 5, 6, 7]], [0, 0, 0, 0, 0, 0, 0, 1, 1], [], [[3], [129], [130], [3], [132], [133], [131, 134], [135], []], Ob.intro (by kernel_rfl) ?_⟩
  repeat first | refine same ?_ | refine Ob.intro hi0 ?_ | refine Ob.intro hi1 ?_ | refine optK_intro (hx _) ?_ | refine optK_intro (hy _) ?_
  refine endG rfl rfl rfl (G := [.row (l.map fl), .row ([b, a].map fl)]) ⟨.inl rfl, .inl rfl, True.intro⟩ (show 1 ≤ 2 by decide) (below2 _ _) (.inl ⟨rfl, rfl⟩)
theorem rStep14 (own x off k : Nat) (l : List Nat) (hc : ∀ b ∈ l, cW b) (hk : k = 1) (hl : off + 1 ≤ l.length) : ACalls Try.prog 27 [i64 14, fl own, fl x, .slc 0 off k 1] [.row (l.map fl)] (RStepR (outS 14 own x ((l.drop off).take 1)) l) := by
  have e : outS 14 own x ((l.drop off).take 1) = some [] := rfl
  rw [e]
  refine acalls_of_awp hT mixed Try.func27 rfl (by kernel_rfl) (by kernel_rfl) (Nat.le_of_ble_eq_true rfl) ?_
  refine endG rfl rfl rfl (G := [.row (l.map fl), .row (([] : List Nat).map fl)]) ⟨.inl rfl, .inl rfl, True.intro⟩ (show 1 ≤ 2 by decide) (below2 _ _) (.inl ⟨rfl, rfl⟩)
end Go.Proofs.Ytdjpcmlnhkiokaa.A
