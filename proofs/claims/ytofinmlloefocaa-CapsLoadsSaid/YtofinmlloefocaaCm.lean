/- The document's table: rights looked up. No condition. -/
import Derived.Test.YtofinmlloefocaaCl
import Derived.Test.YtofinmlloefocaaOw
namespace Go.Proofs.Ytofinmlloefocaa.A
open Go
set_option linter.unusedVariables false
set_option maxRecDepth 100000
set_option pp.maxSteps 1500

abbrev Rt := Int × Nat × Bool
def rtC (r : Rt) : List AV := [i64 r.1, u64 r.2.1, bo r.2.2]
def refO (p tags n : Nat) : AObj := .row [i64 p, i64 tags, .slc 0 0 n 3]
def refH (p tags : Nat) (L : List Rt) : Heap := [.row (flat rtC L), refO p tags L.length]
theorem rtC_len (x : Rt) : (rtC x).length = 3 := rfl
theorem renO_rt (r : Nat → Nat) (L : List Rt) : renO r (.row (flat rtC L)) = .row (flat rtC L) := renO_flat (fun _ _ => rfl) r L
theorem belowH_ref (p tags : Nat) (L : List Rt) : belowH (refH p tags L).length (refH p tags L) = true := by
  show (belowL 2 (flat rtC L) && _) = true
  rw [belowL_flat (fun _ => rfl)]
  rfl
theorem oneR_ok (p tags : Nat) (L : List Rt) (who : Int) : ACalls Try.prog 32 [.ptr 1 0, i64 who] (refH p tags L) (RetH (bo (decide (0 ≤ who ∧ who < p))) (refH p tags L)) := by
  refine acalls_of_awp hT mixed Try.func32 rfl (by kernel_rfl) (by kernel_rfl) (Nat.le_of_ble_eq_true rfl) ?_
  refine forkD (fun h => ?_) (fun h => ?_)
  · refine forkD (fun h2 => ?_) (fun h2 => ?_)
    · refine endH rfl rfl rfl ⟨.inl rfl, .inl rfl, True.intro⟩ (Nat.le_refl 2) (belowH_ref p tags L) (congrArg bo (decide_eq_true ⟨by omega, h2⟩).symm)
    · refine endH rfl rfl rfl ⟨.inl rfl, .inl rfl, True.intro⟩ (Nat.le_refl 2) (belowH_ref p tags L) (congrArg bo (decide_eq_false (fun hh => h2 hh.2)).symm)
  · refine endH rfl rfl rfl ⟨.inl rfl, .inl rfl, True.intro⟩ (Nat.le_refl 2) (belowH_ref p tags L) (congrArg bo (decide_eq_false (fun hh => by omega)).symm)
theorem hasRt_ok (p tags : Nat) (L : List Rt) (who : Int) (x : Nat) (m : Bool) (hL : L.length < 9223372036854775807) :
    ACalls Try.prog 33 [.ptr 1 0, i64 who, u64 x, bo m] (refH p tags L) (RetH (bo (decide ((who, x, m) ∈ L))) (refH p tags L)) := by
  cases m
  · refine acalls_of_awp hT mixed Try.func33 rfl (by kernel_rfl) (by kernel_rfl) (Nat.le_of_ble_eq_true rfl) ?_
    refine loopI (α := { k : Nat // k ≤ L.length ∧ (who, x, false) ∉ L.take k }) (fun k => [(0, .ptr 1 0), (1, i64 who), (2, u64 x), (3, bo false), (9, i64 (k.val : Nat))]) (fun _ => refH p tags L) (fun k => L.length - k.val) ⟨0, Nat.zero_le _, by simp⟩ [0, 1] ⟨⟨rfl, rfl, rfl, rfl, rfl, True.intro⟩, ⟨.inl (by rw [renO_rt]; rfl), .inl rfl, True.intro⟩, rfl, rfl, rfl⟩ ?_
    intro z K hK
    obtain ⟨k, hk, hx⟩ := z
    have hinc : wrp .i64 ((k : Int) + 1) = ((k + 1 : Nat) : Int) := by rw [wrpE, wi64]; omega
    refine forkD (fun h => ?_) (fun h => ?_)
    · have h' : k < L.length := by have : (k : Int) < (L.length : Int) := h; omega
      obtain ⟨⟨yw, yx, ym⟩, hy⟩ : ∃ y, L[k]? = some y := ⟨_, List.getElem?_eq_getElem h'⟩
      refine Ob.intro (show (0 : Int) ≤ (k : Nat) ∧ ((k : Nat) : Int) < (L.length : Nat) by omega) ?_
      refine optK_intro (flat_rdNn rtC_len rfl hy) ?_
      refine fork (fun g => ?_) (fun g => ?_)
      · have hxy : (who, x, false) = (yw, yx, ym) := by
          simp at g
          obtain ⟨g1, g2, g3⟩ := g
          have g2 : yx = x := by omega
          subst g1 g2 g3
          rfl
        refine endH rfl rfl rfl ⟨.inl rfl, .inl rfl, True.intro⟩ (Nat.le_refl 2) (belowH_ref p tags L) (congrArg bo ?_)
        rw [hxy, decide_eq_true (List.mem_of_getElem? hy)]
      · have hxy : ¬ (who, x, false) = (yw, yx, ym) := by
          intro hh
          cases hh
          simp at g
        refine hK ⟨k + 1, h', ?_⟩ [0, 1] _ (show L.length - k = L.length - (k + 1) + 1 by omega) ⟨⟨rfl, rfl, rfl, rfl, congrArg i64 hinc, True.intro⟩, ⟨.inl (by rw [renO_rt]; rfl), .inl rfl, True.intro⟩, rfl, rfl, rfl⟩
        rw [take_snoc hy]
        simp only [List.mem_append, List.mem_singleton]
        exact fun hh => hh.elim hx hxy
    · have h' : k = L.length := by have : ¬ (k : Int) < (L.length : Int) := h; omega
      rw [h', List.take_length] at hx
      refine endH rfl rfl rfl ⟨.inl rfl, .inl rfl, True.intro⟩ (Nat.le_refl 2) (belowH_ref p tags L) (congrArg bo (decide_eq_false hx).symm)
  · refine acalls_of_awp hT mixed Try.func33 rfl (by kernel_rfl) (by kernel_rfl) (Nat.le_of_ble_eq_true rfl) ?_
    refine loopI (α := { k : Nat // k ≤ L.length ∧ (who, x, true) ∉ L.take k }) (fun k => [(0, .ptr 1 0), (1, i64 who), (2, u64 x), (3, bo true), (9, i64 (k.val : Nat))]) (fun _ => refH p tags L) (fun k => L.length - k.val) ⟨0, Nat.zero_le _, by simp⟩ [0, 1] ⟨⟨rfl, rfl, rfl, rfl, rfl, True.intro⟩, ⟨.inl (by rw [renO_rt]; rfl), .inl rfl, True.intro⟩, rfl, rfl, rfl⟩ ?_
    intro z K hK
    obtain ⟨k, hk, hx⟩ := z
    have hinc : wrp .i64 ((k : Int) + 1) = ((k + 1 : Nat) : Int) := by rw [wrpE, wi64]; omega
    refine forkD (fun h => ?_) (fun h => ?_)
    · have h' : k < L.length := by have : (k : Int) < (L.length : Int) := h; omega
      obtain ⟨⟨yw, yx, ym⟩, hy⟩ : ∃ y, L[k]? = some y := ⟨_, List.getElem?_eq_getElem h'⟩
      refine Ob.intro (show (0 : Int) ≤ (k : Nat) ∧ ((k : Nat) : Int) < (L.length : Nat) by omega) ?_
      refine optK_intro (flat_rdNn rtC_len rfl hy) ?_
      refine fork (fun g => ?_) (fun g => ?_)
      · have hxy : (who, x, true) = (yw, yx, ym) := by
          simp at g
          obtain ⟨g1, g2, g3⟩ := g
          have g2 : yx = x := by omega
          subst g1 g2 g3
          rfl
        refine endH rfl rfl rfl ⟨.inl rfl, .inl rfl, True.intro⟩ (Nat.le_refl 2) (belowH_ref p tags L) (congrArg bo ?_)
        rw [hxy, decide_eq_true (List.mem_of_getElem? hy)]
      · have hxy : ¬ (who, x, true) = (yw, yx, ym) := by
          intro hh
          cases hh
          simp at g
        refine hK ⟨k + 1, h', ?_⟩ [0, 1] _ (show L.length - k = L.length - (k + 1) + 1 by omega) ⟨⟨rfl, rfl, rfl, rfl, congrArg i64 hinc, True.intro⟩, ⟨.inl (by rw [renO_rt]; rfl), .inl rfl, True.intro⟩, rfl, rfl, rfl⟩
        rw [take_snoc hy]
        simp only [List.mem_append, List.mem_singleton]
        exact fun hh => hh.elim hx hxy
    · have h' : k = L.length := by have : ¬ (k : Int) < (L.length : Int) := h; omega
      rw [h', List.take_length] at hx
      refine endH rfl rfl rfl ⟨.inl rfl, .inl rfl, True.intro⟩ (Nat.le_refl 2) (belowH_ref p tags L) (congrArg bo (decide_eq_false hx).symm)
end Go.Proofs.Ytofinmlloefocaa.A
