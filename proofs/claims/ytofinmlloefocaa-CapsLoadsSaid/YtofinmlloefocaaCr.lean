/- What is told of somebody: both tables. No condition. -/
import Derived.Test.YtofinmlloefocaaCq
namespace Go.Proofs.Ytofinmlloefocaa.A
open Go
set_option linter.unusedVariables false
set_option maxRecDepth 100000
set_option pp.maxSteps 1500

theorem setL_ok (p tags : Nat) (L : List Rt) (w : Int) (m : Bool) (hL : L.length < 1000000) (ht : tags ≤ 1000) :
    ACalls Try.prog 36 [.ptr 1 0, i64 w, bo m] (refH p tags L) (RetH (us (setL tags L w m)) (refH p tags L)) := by
  cases m
  · refine acalls_of_awp hT mixed Try.func36 rfl (by kernel_rfl) (by kernel_rfl) (Nat.le_of_ble_eq_true rfl) ?_
    refine loopI (α := { x : Nat × List Nat // x.1 ≤ tags ∧ x.2 = upto (fun x => decide ((w, x, false) ∈ L)) x.1 }) (fun x => [(0, .ptr 1 0), (1, i64 w), (2, bo false), (7, .slc 2 0 x.val.2.length 1), (8, u64 (x.val.1 + 1 : Nat))]) (fun x => refH p tags L ++ [AObj.row (x.val.2.map u64n)]) (fun x => tags - x.val.1) ⟨(0, []), Nat.zero_le _, rfl⟩ [0, 1, 2] ⟨⟨rfl, rfl, rfl, rfl, rfl, True.intro⟩, ⟨.inl (by rw [renO_rt]; rfl), .inl rfl, .inl rfl, True.intro⟩, rfl, rfl, rfl⟩ ?_
    rintro ⟨⟨k, l⟩, hk, hl⟩ K hK
    replace hk : k ≤ tags := hk
    replace hl : l = upto (fun x => decide ((w, x, false) ∈ L)) k := hl
    have hlen : l.length ≤ k := by rw [hl]; exact upto_len _ _
    have hinc : wrp .u64 (((k + 1 : Nat) : Int) + 1) = ((k + 1 + 1 : Nat) : Int) := by rw [wrpE, wu64]; omega
    have e1 : wrp .u64 (tags : Int) = (tags : Int) := by rw [wrpE, wu64]; omega
    have hsucc := upto_succ (fun x => decide ((w, x, false) ∈ L)) k
    refine forkD (fun h => ?_) (fun h => ?_)
    · have h' : k < tags := by
        have h : ((k + 1 : Nat) : Int) ≤ wrp .u64 (tags : Int) := h
        rw [e1] at h
        omega
      refine callH (hasRt_ok p tags L w (k + 1) false (by omega)) [0, 1] rfl ⟨.inl (by rw [renO_rt]; rfl), .inl rfl, True.intro⟩ rfl rfl (H' := refH p tags L ++ [AObj.row (l.map u64n)]) (by simp only [refH, renH, renO_rt]; rfl) ?_
      refine fork (fun g => ?_) (fun g => ?_)
      · refine Ob.intro rfl ?_
        refine optK_intro (rdN_all (cs := l.map u64n) rfl (show l.length * 1 = (l.map u64n).length by rw [List.length_map]; omega)) ?_
        refine Ob.intro (show (l.length + 1) * 8 ≤ 140737488355328 ∧ l.length + 1 ≤ 9223372036854775807 by omega) ?_
        rw [if_pos g, ← hl] at hsucc
        refine hK ⟨(k + 1, l ++ [k + 1]), h', hsucc.symm⟩ [0, 1, 4] _ (show tags - k = tags - (k + 1) + 1 by omega) ⟨⟨rfl, rfl, rfl, ?_, congrArg u64 hinc, True.intro⟩, ⟨.inl (by rw [renO_rt]; rfl), .inl rfl, .inl ?_, True.intro⟩, rfl, rfl, rfl⟩
        · show AV.slc 4 0 (l.length + 1) 1 = AV.slc 4 0 (l ++ [k + 1]).length 1
          rw [List.length_append]
          rfl
        · rw [renO_us, List.map_append]
          rfl
      · rw [if_neg (by rw [g]; decide), ← hl] at hsucc
        refine hK ⟨(k + 1, l), h', hsucc.symm⟩ [0, 1, 2] _ (show tags - k = tags - (k + 1) + 1 by omega) ⟨⟨rfl, rfl, rfl, rfl, congrArg u64 hinc, True.intro⟩, ⟨.inl (by rw [renO_rt]; rfl), .inl rfl, .inl ?_, True.intro⟩, rfl, rfl, rfl⟩
        rw [renO_us]
        rfl
    · have h' : k = tags := by
        have h : ¬ ((k + 1 : Nat) : Int) ≤ wrp .u64 (tags : Int) := h
        rw [e1] at h
        omega
      rw [h'] at hl
      refine endH rfl rfl (frz_us3 rfl rfl rfl) ⟨.inl rfl, .inl rfl, True.intro⟩ (Nat.le_refl 2) (belowH_ref p tags L) (congrArg us hl)
  · refine acalls_of_awp hT mixed Try.func36 rfl (by kernel_rfl) (by kernel_rfl) (Nat.le_of_ble_eq_true rfl) ?_
    refine loopI (α := { x : Nat × List Nat // x.1 ≤ tags ∧ x.2 = upto (fun x => decide ((w, x, true) ∈ L)) x.1 }) (fun x => [(0, .ptr 1 0), (1, i64 w), (2, bo true), (7, .slc 2 0 x.val.2.length 1), (8, u64 (x.val.1 + 1 : Nat))]) (fun x => refH p tags L ++ [AObj.row (x.val.2.map u64n)]) (fun x => tags - x.val.1) ⟨(0, []), Nat.zero_le _, rfl⟩ [0, 1, 2] ⟨⟨rfl, rfl, rfl, rfl, rfl, True.intro⟩, ⟨.inl (by rw [renO_rt]; rfl), .inl rfl, .inl rfl, True.intro⟩, rfl, rfl, rfl⟩ ?_
    rintro ⟨⟨k, l⟩, hk, hl⟩ K hK
    replace hk : k ≤ tags := hk
    replace hl : l = upto (fun x => decide ((w, x, true) ∈ L)) k := hl
    have hlen : l.length ≤ k := by rw [hl]; exact upto_len _ _
    have hinc : wrp .u64 (((k + 1 : Nat) : Int) + 1) = ((k + 1 + 1 : Nat) : Int) := by rw [wrpE, wu64]; omega
    have e1 : wrp .u64 (tags : Int) = (tags : Int) := by rw [wrpE, wu64]; omega
    have hsucc := upto_succ (fun x => decide ((w, x, true) ∈ L)) k
    refine forkD (fun h => ?_) (fun h => ?_)
    · have h' : k < tags := by
        have h : ((k + 1 : Nat) : Int) ≤ wrp .u64 (tags : Int) := h
        rw [e1] at h
        omega
      refine callH (hasRt_ok p tags L w (k + 1) true (by omega)) [0, 1] rfl ⟨.inl (by rw [renO_rt]; rfl), .inl rfl, True.intro⟩ rfl rfl (H' := refH p tags L ++ [AObj.row (l.map u64n)]) (by simp only [refH, renH, renO_rt]; rfl) ?_
      refine fork (fun g => ?_) (fun g => ?_)
      · refine Ob.intro rfl ?_
        refine optK_intro (rdN_all (cs := l.map u64n) rfl (show l.length * 1 = (l.map u64n).length by rw [List.length_map]; omega)) ?_
        refine Ob.intro (show (l.length + 1) * 8 ≤ 140737488355328 ∧ l.length + 1 ≤ 9223372036854775807 by omega) ?_
        rw [if_pos g, ← hl] at hsucc
        refine hK ⟨(k + 1, l ++ [k + 1]), h', hsucc.symm⟩ [0, 1, 4] _ (show tags - k = tags - (k + 1) + 1 by omega) ⟨⟨rfl, rfl, rfl, ?_, congrArg u64 hinc, True.intro⟩, ⟨.inl (by rw [renO_rt]; rfl), .inl rfl, .inl ?_, True.intro⟩, rfl, rfl, rfl⟩
        · show AV.slc 4 0 (l.length + 1) 1 = AV.slc 4 0 (l ++ [k + 1]).length 1
          rw [List.length_append]
          rfl
        · rw [renO_us, List.map_append]
          rfl
      · rw [if_neg (by rw [g]; decide), ← hl] at hsucc
        refine hK ⟨(k + 1, l), h', hsucc.symm⟩ [0, 1, 2] _ (show tags - k = tags - (k + 1) + 1 by omega) ⟨⟨rfl, rfl, rfl, rfl, congrArg u64 hinc, True.intro⟩, ⟨.inl (by rw [renO_rt]; rfl), .inl rfl, .inl ?_, True.intro⟩, rfl, rfl, rfl⟩
        rw [renO_us]
        rfl
    · have h' : k = tags := by
        have h : ¬ ((k + 1 : Nat) : Int) ≤ wrp .u64 (tags : Int) := h
        rw [e1] at h
        omega
      rw [h'] at hl
      refine endH rfl rfl (frz_us3 rfl rfl rfl) ⟨.inl rfl, .inl rfl, True.intro⟩ (Nat.le_refl 2) (belowH_ref p tags L) (congrArg us hl)
theorem clearR_ok (p tags : Nat) (L : List Rt) (who : Int) (a l : List Nat) (hL : L.length < 1000000) (ha : a.length < 9223372036854775807) (hl : l.length < 9223372036854775807) (hx : ∀ x ∈ l, x < 18446744073709551616) :
    ACalls Try.prog 34 [.ptr 1 0, i64 who, us a, us l] (refH p tags L) (RetH (bo (!(l.any fun x => !decide (x ∈ a) && !decide ((who, x, false) ∈ L)) && decide (0 ≤ who ∧ who < p))) (refH p tags L)) := by
  refine acalls_of_awp hT mixed Try.func34 rfl (by kernel_rfl) (by kernel_rfl) (Nat.le_of_ble_eq_true rfl) ?_
  refine loopI (α := { k : Nat // k ≤ l.length ∧ (l.take k).any (fun x => !decide (x ∈ a) && !decide ((who, x, false) ∈ L)) = false }) (fun k => [(0, .ptr 1 0), (1, i64 who), (2, us a), (3, us l), (9, i64 (k.val : Nat))]) (fun _ => refH p tags L) (fun k => l.length - k.val) ⟨0, Nat.zero_le _, rfl⟩ [0, 1] ⟨⟨rfl, rfl, rfl, rfl, rfl, True.intro⟩, ⟨.inl (by rw [renO_rt]; rfl), .inl rfl, True.intro⟩, rfl, rfl, rfl⟩ ?_
  rintro ⟨k, hk, hx2⟩ K hK
  have hinc : wrp .i64 ((k : Int) + 1) = ((k + 1 : Nat) : Int) := by rw [wrpE, wi64]; omega
  refine forkD (fun h => ?_) (fun h => ?_)
  · have h' : k < l.length := by have : (k : Int) < (l.length : Int) := h; omega
    obtain ⟨y, hy⟩ : ∃ y, l[k]? = some y := ⟨_, List.getElem?_eq_getElem h'⟩
    have hb := (show (0 : Int) ≤ (k : Nat) ∧ ((k : Nat) : Int) < (l.length : Nat) by omega)
    have next : (!decide (y ∈ a) && !decide ((who, y, false) ∈ L)) = false → (l.take (k + 1)).any (fun x => !decide (x ∈ a) && !decide ((who, x, false) ∈ L)) = false := fun hh => by
      rw [take_snoc hy, List.any_append, hx2, Bool.false_or]
      simp only [List.any_cons, List.any_nil, Bool.or_false]
      exact hh
    refine Ob.intro hb ?_
    refine optK_intro (nth_map hy) ?_
    refine callP (has2_ok a y ha) rfl rfl ?_
    refine fork (fun g => ?_) (fun g => ?_)
    · refine hK ⟨k + 1, h', next (by rw [g]; rfl)⟩ [0, 1] _ (show l.length - k = l.length - (k + 1) + 1 by omega) ⟨⟨rfl, rfl, rfl, rfl, congrArg i64 hinc, True.intro⟩, ⟨.inl (by rw [renO_rt]; rfl), .inl rfl, True.intro⟩, rfl, rfl, rfl⟩
    · refine Ob.intro hb ?_
      refine optK_intro (nth_map hy) ?_
      refine callH (hasRt_ok p tags L who y false (by omega)) [0, 1] rfl ⟨.inl (by rw [renO_rt]; rfl), .inl rfl, True.intro⟩ rfl rfl (H' := refH p tags L) (by simp only [refH, renH, renO_rt]; rfl) ?_
      refine fork (fun g2 => ?_) (fun g2 => ?_)
      · refine hK ⟨k + 1, h', next (by rw [g2, g]; rfl)⟩ [0, 1] _ (show l.length - k = l.length - (k + 1) + 1 by omega) ⟨⟨rfl, rfl, rfl, rfl, congrArg i64 hinc, True.intro⟩, ⟨.inl (by rw [renO_rt]; rfl), .inl rfl, True.intro⟩, rfl, rfl, rfl⟩
      · refine endH rfl rfl rfl ⟨.inl rfl, .inl rfl, True.intro⟩ (Nat.le_refl 2) (belowH_ref p tags L) (congrArg bo ?_)
        have : (l.any fun x => !decide (x ∈ a) && !decide ((who, x, false) ∈ L)) = true := List.any_eq_true.2 ⟨y, List.mem_of_getElem? hy, by rw [g, g2]; rfl⟩
        rw [this]
        rfl
  · have h' : k = l.length := by have : ¬ (k : Int) < (l.length : Int) := h; omega
    rw [h', List.take_length] at hx2
    refine callH (oneR_ok p tags L who) [0, 1] rfl ⟨.inl (by rw [renO_rt]; rfl), .inl rfl, True.intro⟩ rfl rfl (H' := refH p tags L) (by simp only [refH, renH, renO_rt]; rfl) ?_
    rw [hx2]
    refine fork (fun g => ?_) (fun g => ?_)
    · refine endH rfl rfl rfl ⟨.inl rfl, .inl rfl, True.intro⟩ (Nat.le_refl 2) (belowH_ref p tags L) (congrArg bo g.symm)
    · refine endH rfl rfl rfl ⟨.inl rfl, .inl rfl, True.intro⟩ (Nat.le_refl 2) (belowH_ref p tags L) (congrArg bo g.symm)
end Go.Proofs.Ytofinmlloefocaa.A
