/- The document's table: what is done, what is clear, sets. No condition. -/
import Derived.Test.YtofinmlloefocaaCo
namespace Go.Proofs.Ytofinmlloefocaa.A
open Go
set_option linter.unusedVariables false
set_option maxRecDepth 100000
set_option pp.maxSteps 1500

theorem doRerr_ok (tags : Nat) (g : Rg) (L : List Rt) (k w t : Int) (x : Nat) (m : Bool) (e : Int) (he : checkE tags g k w t x m = e) (h0 : e ≠ 0) (hR : Rel tags g L) (hL : L.length < 9223372036854775807) :
    ACalls Try.prog 16 [.ptr 1 0, deed k w t x m] (refH g.length tags L) (RetH (.tup [u64 0, i64 e]) (refH g.length tags L)) := by
  cases m
  · have hc := checkR_ok tags g L k w t x false hR hL
    refine acalls_of_awp hT mixed Try.func16 rfl (by kernel_rfl) (by kernel_rfl) (Nat.le_of_ble_eq_true rfl) ?_
    refine callH (H := refH g.length tags L ++ [.row [i64 k, i64 w, i64 t, u64 x, bo false]]) hc [0, 1] rfl ⟨.inl (by rw [renO_rt]; rfl), .inl rfl, True.intro⟩ rfl rfl (H' := refH g.length tags L ++ [.row [i64 k, i64 w, i64 t, u64 x, bo false]]) (by simp only [refH, renH, renO_rt]; rfl) ?_
    rw [he]
    refine fork (fun h1 => ?_) (fun h1 => absurd (bne_eq_false_iff_eq.1 h1) h0)
    refine endH rfl rfl rfl ⟨.inl rfl, .inl rfl, True.intro⟩ (Nat.le_refl 2) (belowH_ref g.length tags L) rfl
  · have hc := checkR_ok tags g L k w t x true hR hL
    refine acalls_of_awp hT mixed Try.func16 rfl (by kernel_rfl) (by kernel_rfl) (Nat.le_of_ble_eq_true rfl) ?_
    refine callH (H := refH g.length tags L ++ [.row [i64 k, i64 w, i64 t, u64 x, bo true]]) hc [0, 1] rfl ⟨.inl (by rw [renO_rt]; rfl), .inl rfl, True.intro⟩ rfl rfl (H' := refH g.length tags L ++ [.row [i64 k, i64 w, i64 t, u64 x, bo true]]) (by simp only [refH, renH, renO_rt]; rfl) ?_
    rw [he]
    refine fork (fun h1 => ?_) (fun h1 => absurd (bne_eq_false_iff_eq.1 h1) h0)
    refine endH rfl rfl rfl ⟨.inl rfl, .inl rfl, True.intro⟩ (Nat.le_refl 2) (belowH_ref g.length tags L) rfl
/-- The document's table behind a deed that was done. -/
def refH4 (p tags : Nat) (L : List Rt) : Heap := [.dead, .row [i64 p, i64 tags, .slc 4 0 L.length 3], .dead, .dead, .row (flat rtC L)]
theorem belowH_ref4 (p tags : Nat) (L : List Rt) : belowH (refH4 p tags L).length (refH4 p tags L) = true := by
  show (belowL 5 (flat rtC L) && _) = true
  rw [belowL_flat (fun _ => rfl)]
  rfl
theorem doGive_ok (tags : Nat) (g : Rg) (L : List Rt) (w t : Int) (x : Nat) (m : Bool) (he : checkE tags g 2 w t x m = 0) (hR : Rel tags g L) (hL : L.length < 1000000) :
    ACalls Try.prog 16 [.ptr 1 0, deed 2 w t x m] (refH g.length tags L) (RetH (.tup [u64 x, i64 0]) (refH4 g.length tags (L ++ [(t, x, m)]))) := by
  cases m
  · have hc := checkR_ok tags g L 2 w t x false hR (by omega)
    refine acalls_of_awp hT mixed Try.func16 rfl (by kernel_rfl) (by kernel_rfl) (Nat.le_of_ble_eq_true rfl) ?_
    refine callH (H := refH g.length tags L ++ [.row [i64 2, i64 w, i64 t, u64 x, bo false]]) hc [0, 1] rfl ⟨.inl (by rw [renO_rt]; rfl), .inl rfl, True.intro⟩ rfl rfl (H' := refH g.length tags L ++ [.row [i64 2, i64 w, i64 t, u64 x, bo false]]) (by simp only [refH, renH, renO_rt]; rfl) ?_
    rw [he]
    refine ⟨[0, 0, 0, 0, 0, 0, 0, 0, 0, 0, 0, 0, 0, 1, 1, 1, 2], [[], [], [1], [1, 2], [1, 2, 3], [], [5], [], [7], [], [9], [5, 6, 7, 8, 9, 10], [5, 6, 7, 8, 9, 10, 11], [1, 2, 3, 4, 5, 6, 7, 8, 9, 10, 11, 12], [0, 1, 2, 3, 4, 5, 6, 7, 8, 9, 10, 11, 12, 13], [0, 1, 2, 3, 4, 5, 6, 7, 8, 9, 10, 11, 12, 13, 14], [0, 1, 2, 3, 4, 5, 6, 7, 8, 9, 10, 11, 12, 13, 14, 15]], [0, 0, 0, 0, 0, 0, 0, 0, 0, 0, 0, 0, 0, 1, 1, 1, 1], [13, 16], [[0], [0], [18], [19], [20], [3], [22], [3], [24], [3], [26], [23, 25, 27], [28], [21, 29], [17], [31], [32, 30]], Ob.intro (by kernel_rfl) ?_⟩
    repeat refine same ?_
    refine Ob.intro rfl ?_
    refine optK_intro (flat_rdAll rtC_len rfl rfl) ?_
    refine Ob.intro (show (L.length + 1) * 24 ≤ 140737488355328 ∧ L.length + 1 ≤ 9223372036854775807 by omega) ?_
    repeat refine same ?_
    have hrow : flat rtC L ++ [i64 t, u64 x, bo false] = flat rtC (L ++ [(t, x, false)]) := by rw [flat_append]; rfl
    have hlen : L.length + 1 = (L ++ [(t, x, false)]).length := by rw [List.length_append]; rfl
    refine endH rfl rfl rfl ⟨.inr rfl, .inl ?_, .inr rfl, .inr rfl, .inl ?_, True.intro⟩ (Nat.le_of_ble_eq_true rfl) (belowH_ref4 g.length tags (L ++ [(t, x, false)])) rfl
    · rw [← hlen]
      rfl
    · rw [← hrow]
      rfl
  · have hc := checkR_ok tags g L 2 w t x true hR (by omega)
    refine acalls_of_awp hT mixed Try.func16 rfl (by kernel_rfl) (by kernel_rfl) (Nat.le_of_ble_eq_true rfl) ?_
    refine callH (H := refH g.length tags L ++ [.row [i64 2, i64 w, i64 t, u64 x, bo true]]) hc [0, 1] rfl ⟨.inl (by rw [renO_rt]; rfl), .inl rfl, True.intro⟩ rfl rfl (H' := refH g.length tags L ++ [.row [i64 2, i64 w, i64 t, u64 x, bo true]]) (by simp only [refH, renH, renO_rt]; rfl) ?_
    rw [he]
    refine ⟨[0, 0, 0, 0, 0, 0, 0, 0, 0, 0, 0, 0, 0, 1, 1, 1, 2], [[], [], [1], [1, 2], [1, 2, 3], [], [5], [], [7], [], [9], [5, 6, 7, 8, 9, 10], [5, 6, 7, 8, 9, 10, 11], [1, 2, 3, 4, 5, 6, 7, 8, 9, 10, 11, 12], [0, 1, 2, 3, 4, 5, 6, 7, 8, 9, 10, 11, 12, 13], [0, 1, 2, 3, 4, 5, 6, 7, 8, 9, 10, 11, 12, 13, 14], [0, 1, 2, 3, 4, 5, 6, 7, 8, 9, 10, 11, 12, 13, 14, 15]], [0, 0, 0, 0, 0, 0, 0, 0, 0, 0, 0, 0, 0, 1, 1, 1, 1], [13, 16], [[0], [0], [18], [19], [20], [3], [22], [3], [24], [3], [26], [23, 25, 27], [28], [21, 29], [17], [31], [32, 30]], Ob.intro (by kernel_rfl) ?_⟩
    repeat refine same ?_
    refine Ob.intro rfl ?_
    refine optK_intro (flat_rdAll rtC_len rfl rfl) ?_
    refine Ob.intro (show (L.length + 1) * 24 ≤ 140737488355328 ∧ L.length + 1 ≤ 9223372036854775807 by omega) ?_
    repeat refine same ?_
    have hrow : flat rtC L ++ [i64 t, u64 x, bo true] = flat rtC (L ++ [(t, x, true)]) := by rw [flat_append]; rfl
    have hlen : L.length + 1 = (L ++ [(t, x, true)]).length := by rw [List.length_append]; rfl
    refine endH rfl rfl rfl ⟨.inr rfl, .inl ?_, .inr rfl, .inr rfl, .inl ?_, True.intro⟩ (Nat.le_of_ble_eq_true rfl) (belowH_ref4 g.length tags (L ++ [(t, x, true)])) rfl
    · rw [← hlen]
      rfl
    · rw [← hrow]
      rfl
theorem doMake_ok (tags : Nat) (g : Rg) (L : List Rt) (w : Int) (he : checkE tags g 1 w 0 0 false = 0) (hR : Rel tags g L) (hL : L.length < 1000000) :
    ACalls Try.prog 16 [.ptr 1 0, deed 1 w 0 0 false] (refH g.length tags L) (RetH (.tup [u64 (tags + 1 : Nat), i64 0]) (refH4 g.length (tags + 1) (L ++ [(w, tags + 1, false), (w, tags + 1, true)]))) := by
  have hc := checkR_ok tags g L 1 w 0 0 false hR (by omega)
  have e2 : wrp .i64 ((tags : Int) + 1) = ((tags + 1 : Nat) : Int) := by have := hR.tag; rw [wrpE, wi64]; omega
  have e3 : wrp .u64 ((tags + 1 : Nat) : Int) = ((tags + 1 : Nat) : Int) := by have := hR.tag; rw [wrpE, wu64]; omega
  refine acalls_of_awp hT mixed Try.func16 rfl (by kernel_rfl) (by kernel_rfl) (Nat.le_of_ble_eq_true rfl) ?_
  refine callH (H := refH g.length tags L ++ [.row [i64 1, i64 w, i64 0, u64 0, bo false]]) hc [0, 1] rfl ⟨.inl (by rw [renO_rt]; rfl), .inl rfl, True.intro⟩ rfl rfl (H' := refH g.length tags L ++ [.row [i64 1, i64 w, i64 0, u64 0, bo false]]) (by simp only [refH, renH, renO_rt]; rfl) ?_
  rw [he]
  refine ⟨[0, 0, 0, 0, 0, 0, 0, 0, 0, 0, 0, 0, 0, 0, 1, 1, 1, 2], [[], [], [1], [1, 2], [1, 2, 3], [], [5], [], [5, 6, 7], [], [9], [], [9, 10, 11], [5, 6, 7, 8, 9, 10, 11, 12], [1, 2, 3, 4, 5, 6, 7, 8, 9, 10, 11, 12, 13], [0, 1, 2, 3, 4, 5, 6, 7, 8, 9, 10, 11, 12, 13, 14], [0, 1, 2, 3, 4, 5, 6, 7, 8, 9, 10, 11, 12, 13, 14, 15], [0, 1, 2, 3, 4, 5, 6, 7, 8, 9, 10, 11, 12, 13, 14, 15, 16]], [0, 0, 0, 0, 0, 0, 0, 0, 0, 0, 0, 0, 0, 0, 1, 1, 1, 1], [14, 17], [[0], [0], [49], [50], [51], [3], [53], [7], [54, 55], [3], [57], [7], [58, 59], [56, 60], [52, 61], [48], [63], [64, 62]], Ob.intro (by kernel_rfl) ?_⟩
  repeat refine same ?_
  refine Ob.intro rfl ?_
  refine optK_intro (flat_rdAll rtC_len rfl rfl) ?_
  refine Ob.intro (show (L.length + 2) * 24 ≤ 140737488355328 ∧ L.length + 2 ≤ 9223372036854775807 by omega) ?_
  repeat refine same ?_
  have hz : wrp .u64 (wrp .i64 ((tags : Int) + 1)) = ((tags + 1 : Nat) : Int) := by rw [e2, e3]
  have hrow : flat rtC L ++ [i64 w, u64 (wrp .u64 (wrp .i64 ((tags : Int) + 1))), bo false, i64 w, u64 (wrp .u64 (wrp .i64 ((tags : Int) + 1))), bo true] = flat rtC (L ++ [(w, tags + 1, false), (w, tags + 1, true)]) := by rw [flat_append, hz]; rfl
  have hlen : L.length + 2 = (L ++ [(w, tags + 1, false), (w, tags + 1, true)]).length := by rw [List.length_append]; rfl
  refine endH rfl rfl rfl ⟨.inr rfl, .inl ?_, .inr rfl, .inr rfl, .inl ?_, True.intro⟩ (Nat.le_of_ble_eq_true rfl) (belowH_ref4 g.length (tags + 1) (L ++ [(w, tags + 1, false), (w, tags + 1, true)])) (congrArg (fun z => AV.tup [u64 z, i64 0]) hz)
  · rw [← hlen]
    exact congrArg (fun z => AObj.row [i64 g.length, i64 z, .slc 4 0 (L.length + 2) 3]) e2.symm
  · rw [← hrow]
    rfl
end Go.Proofs.Ytofinmlloefocaa.A
