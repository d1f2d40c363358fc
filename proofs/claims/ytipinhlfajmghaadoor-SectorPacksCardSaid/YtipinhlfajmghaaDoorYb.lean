/- sector: trims. No condition. -/
import Derived.Test.YtipinhlfajmghaaDoorYa
namespace Go.Proofs.YtipinhlfajmghaaDoor.A
open Go
set_option linter.unusedVariables false
set_option maxRecDepth 100000
set_option pp.maxSteps 1500

theorem exlB (s : ByteArray) (i j : Nat) : (s.extract i j).data.toList = (s.data.toList.drop i).take (j - i) := by
  rw [ByteArray.data_extract, Array.toList_extract, List.extract_eq_take_drop]
theorem lenB (s : ByteArray) : s.data.toList.length = s.size := by simp
def atL (s : ByteArray) (i : Nat) : Nat := (s.data.toList.getD i 0).toNat
def u8 (c : Nat) : AV := .sc (.int .u8 c)
def RTrim (c : Nat) (s : ByteArray) (v : AV) : Prop := ∃ r : ByteArray, v = str r ∧ r.size ≤ s.size ∧ r.data.toList = s.data.toList.take r.size ∧ (∀ i, r.size ≤ i → i < s.size → atL s i = c) ∧ (0 < r.size → atL s (r.size - 1) ≠ c)
theorem trimRight_ok (s : ByteArray) (c : Nat) (hs : s.size ≤ 4611686018427387904) : ACalls Tryd.prog 19 [str s, u8 c] [] (fun E G => ∃ v, RTrim c s v ∧ E = .ret v ∧ G = []) := by
  refine acalls_of_awp hT mixed Tryd.func19 rfl (by kernel_rfl) (by kernel_rfl) (Nat.le_of_ble_eq_true rfl) ?_
  refine loopI (α := { r : ByteArray // r.size ≤ s.size ∧ r.data.toList = s.data.toList.take r.size ∧ ∀ i, r.size ≤ i → i < s.size → atL s i = c }) (fun r => [(0, str r.val), (1, u8 c)]) (fun i => []) (fun r => r.val.size) ⟨s, Nat.le_refl _, by rw [← lenB, List.take_length], fun i h1 h2 => by omega⟩ [] ⟨⟨rfl, rfl, True.intro⟩, True.intro, rfl, rfl, rfl⟩ ?_
  rintro ⟨r, h1, h2, h3⟩ K hK
  replace h1 : r.size ≤ s.size := h1
  refine forkD (fun g => ?_) (fun g => ?_)
  · have g' : 0 < r.size := by have : (0 : Int) < (r.size : Int) := g; omega
    have hw : wrp .i64 ((r.size : Int) - 1) = ((r.size - 1 : Nat) : Int) := by rw [wrpE, wi64]; omega
    have hat : (r.data.toList.getD (r.size - 1) 0).toNat = atL s (r.size - 1) := by
      unfold atL
      rw [h2, List.getD_eq_getElem?_getD, List.getD_eq_getElem?_getD, List.getElem?_take_of_lt (by omega)]
    refine Ob.intro (show (0 : Int) ≤ wrp .i64 ((r.size : Int) - 1) ∧ wrp .i64 ((r.size : Int) - 1) < (r.size : Int) by rw [hw]; omega) ?_
    refine fork (fun q => ?_) (fun q => ?_)
    · have q' : atL s (r.size - 1) = c := by
        have := beq_iff_eq.1 q
        rw [hw, Int.toNat_natCast, hat] at this
        omega
      refine Ob.intro (show (0 : Int) ≤ 0 ∧ 0 ≤ wrp .i64 ((r.size : Int) - 1) ∧ wrp .i64 ((r.size : Int) - 1) ≤ (r.size : Int) by rw [hw]; omega) ?_
      have hsz : (r.extract 0 (r.size - 1)).size = r.size - 1 := by rw [ByteArray.size_extract]; omega
      refine hK ⟨r.extract 0 (r.size - 1), ?_, ?_, ?_⟩ [] _ (show r.size = (r.extract 0 (r.size - 1)).size + 1 by omega) ⟨⟨?_, rfl, True.intro⟩, True.intro, rfl, rfl, rfl⟩
      · rw [hsz]; omega
      · rw [exlB, hsz, h2, List.drop_zero, List.take_take]
        congr 1
        omega
      · rw [hsz]
        intro i g1 g2
        by_cases he : i = r.size - 1
        · rw [he]; exact q'
        · exact h3 i (by omega) g2
      · show str (r.extract (0 : Int).toNat (wrp .i64 ((r.size : Int) - 1)).toNat) = str (r.extract 0 (r.size - 1))
        rw [hw]
        rfl
    · have q' : atL s (r.size - 1) ≠ c := fun hh => by
        have := beq_eq_false_iff_ne.1 q
        rw [hw, Int.toNat_natCast, hat, hh] at this
        exact this rfl
      exact endE rfl rfl rfl ⟨r, rfl, h1, h2, h3, fun _ => q'⟩
  · have g' : r.size = 0 := by have : ¬ (0 : Int) < (r.size : Int) := g; omega
    exact endE rfl rfl rfl ⟨r, rfl, h1, h2, h3, fun h => by omega⟩
def LTrim (c : Nat) (s : ByteArray) (v : AV) : Prop := ∃ r : ByteArray, v = str r ∧ r.size ≤ s.size ∧ (r.size = 0 → ∀ i, i < s.size → atL s i = c)
theorem trimLeft_ok (s : ByteArray) (c : Nat) (hs : s.size ≤ 4611686018427387904) : ACalls Tryd.prog 18 [str s, u8 c] [] (fun E G => ∃ v, LTrim c s v ∧ E = .ret v ∧ G = []) := by
  refine acalls_of_awp hT mixed Tryd.func18 rfl (by kernel_rfl) (by kernel_rfl) (Nat.le_of_ble_eq_true rfl) ?_
  refine loopI (α := { r : ByteArray // r.size ≤ s.size ∧ r.data.toList = s.data.toList.drop (s.size - r.size) ∧ ∀ i, i < s.size - r.size → atL s i = c }) (fun r => [(0, str r.val), (1, u8 c)]) (fun i => []) (fun r => r.val.size) ⟨s, Nat.le_refl _, by rw [Nat.sub_self, List.drop_zero], fun i h1 => by omega⟩ [] ⟨⟨rfl, rfl, True.intro⟩, True.intro, rfl, rfl, rfl⟩ ?_
  rintro ⟨r, h1, h2, h3⟩ K hK
  replace h1 : r.size ≤ s.size := h1
  refine forkD (fun g => ?_) (fun g => ?_)
  · have g' : 0 < r.size := by have : (0 : Int) < (r.size : Int) := g; omega
    have hat : (r.data.toList.getD 0 0).toNat = atL s (s.size - r.size) := by
      unfold atL
      rw [h2, List.getD_eq_getElem?_getD, List.getD_eq_getElem?_getD, List.getElem?_drop, Nat.add_zero]
    refine Ob.intro (show (0 : Int) ≤ 0 ∧ 0 < (r.size : Int) by omega) ?_
    refine fork (fun q => ?_) (fun q => ?_)
    · have q' : atL s (s.size - r.size) = c := by
        have := beq_iff_eq.1 q
        rw [show (0 : Int).toNat = 0 from rfl, hat] at this
        omega
      refine Ob.intro (show (0 : Int) ≤ 1 ∧ 1 ≤ (r.size : Int) ∧ (r.size : Int) ≤ (r.size : Int) by omega) ?_
      have hsz : (r.extract 1 r.size).size = r.size - 1 := by rw [ByteArray.size_extract]; omega
      refine hK ⟨r.extract 1 r.size, ?_, ?_, ?_⟩ [] _ (show r.size = (r.extract 1 r.size).size + 1 by omega) ⟨⟨rfl, rfl, True.intro⟩, True.intro, rfl, rfl, rfl⟩
      · rw [hsz]; omega
      · rw [exlB, hsz, h2, List.drop_drop, List.take_of_length_le (by rw [List.length_drop, lenB]; omega)]
        congr 1
        omega
      · rw [hsz]
        intro i g1
        by_cases he : i = s.size - r.size
        · rw [he]; exact q'
        · exact h3 i (by omega)
    · exact endE rfl rfl rfl ⟨r, rfl, h1, fun h => by omega⟩
  · have g' : r.size = 0 := by have : ¬ (0 : Int) < (r.size : Int) := g; omega
    exact endE rfl rfl rfl ⟨r, rfl, h1, fun _ i hi => h3 i (by omega)⟩
end Go.Proofs.YtipinhlfajmghaaDoor.A
