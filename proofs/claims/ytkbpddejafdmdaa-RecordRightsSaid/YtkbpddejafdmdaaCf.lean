/- The functions of caps: bits, lists, functions handed in. No condition. -/
import Derived.Test.YtkbpddejafdmdaaBb
import Derived.Laws.Bits64
namespace Go.Proofs.Ytkbpddejafdmdaa.A
open Go
set_option linter.unusedVariables false
set_option maxRecDepth 100000
set_option pp.maxSteps 1500

/-! ### Bits -/
/-- A tag's bit. -/
def bitS (x : Nat) : Nat := if x < 1 ∨ 16 < x then 0 else 2 ^ (x - 1)
theorem bitS_lt (x : Nat) : bitS x < 18446744073709551616 := by
  unfold bitS
  split
  · decide
  · have : 2 ^ (x - 1) ≤ 2 ^ 15 := Nat.pow_le_pow_right (by decide) (by omega)
    omega
theorem bit_ok (x : Nat) (hx : x < 18446744073709551616) : ACalls Try.prog 51 [u64 x] [] (Ret (u64 (bitS x))) := by
  refine acalls_of_awp hT mixed Try.func51 rfl (by kernel_rfl) (by kernel_rfl) (Nat.le_of_ble_eq_true rfl) ?_
  refine forkD (fun h => ?_) (fun h => ?_)
  · refine end0 rfl rfl rfl (congrArg u64 ?_)
    unfold bitS
    rw [if_pos (by omega)]
    rfl
  · refine forkD (fun h2 => ?_) (fun h2 => ?_)
    · refine end0 rfl rfl rfl (congrArg u64 ?_)
      unfold bitS
      rw [if_pos (by omega)]
      rfl
    · have e1 : wrp .u64 ((x : Int) - 1) = ((x - 1 : Nat) : Int) := by rw [wrpE, wu64]; omega
      refine Ob.intro (by rw [e1]; omega) ?_
      refine end0 rfl rfl rfl (congrArg u64 ?_)
      have e2 : min ((x - 1 : Nat) : Int).toNat IntKind.u64.bits = x - 1 := by
        have : IntKind.u64.bits = 64 := rfl
        rw [this]
        omega
      have h15 : 2 ^ (x - 1) ≤ 2 ^ 15 := Nat.pow_le_pow_right (by decide) (by omega)
      rw [e1, e2, wrpE, wu64]
      unfold bitS
      rw [if_neg (by omega), Int.one_mul]
      have : ((2 : Int) ^ (x - 1)) = ((2 ^ (x - 1) : Nat) : Int) := by simp
      rw [this]
      generalize 2 ^ (x - 1) = z at *
      omega
def hasS (s x : Nat) : Bool := !decide (s &&& bitS x = 0)
theorem hasS_ok (s x : Nat) (hs : s < 18446744073709551616) (hx : x < 18446744073709551616) : ACalls Try.prog 71 [u64 s, u64 x] [] (Ret (bo (hasS s x))) := by
  refine acalls_of_awp hT mixed Try.func71 rfl (by kernel_rfl) (by kernel_rfl) (Nat.le_of_ble_eq_true rfl) ?_
  refine callP (bit_ok x hx) rfl rfl ?_
  have e := and64 hs (bitS_lt x)
  unfold hasS
  refine fork (fun h => ?_) (fun h => ?_)
  · rw [e] at h
    have h := bne_iff_ne.1 h
    refine end0 rfl rfl rfl (congrArg bo ?_)
    rw [decide_eq_false (fun hz : s &&& bitS x = 0 => h (by rw [hz]; rfl))]
    rfl
  · rw [e] at h
    have h := bne_eq_false_iff_eq.1 h
    refine end0 rfl rfl rfl (congrArg bo ?_)
    rw [decide_eq_true (show s &&& bitS x = 0 by omega)]
    rfl
end Go.Proofs.Ytkbpddejafdmdaa.A

namespace Go.Proofs.Ytkbpddejafdmdaa.A
open Go
set_option linter.unusedVariables false
set_option maxRecDepth 100000
set_option pp.maxSteps 1500

/-- Rights: what each may see, and drop. -/
abbrev Rg := List (Nat × Nat)
def rgC (l : Rg) : List AV := (l.map fun r => [u64 r.1, u64 r.2]).flatten
def tabO (tags : Nat) (l : Rg) : AObj := .row [i64 tags, .slc 0 0 l.length 2]
def tabH (tags : Nat) (l : Rg) : Heap := [.row (rgC l), tabO tags l]
theorem rgC_len (l : Rg) : (rgC l).length = l.length * 2 := by
  induction l with
  | nil => rfl
  | cons x l ih =>
    show ([u64 x.1, u64 x.2] ++ rgC l).length = (l.length + 1) * 2
    rw [List.length_append, ih]
    show 2 + _ = _
    omega
theorem rgC_get : ∀ (l : Rg) (k : Nat) (r : Nat × Nat), l[k]? = some r → (rgC l)[k * 2]? = some (u64 r.1) ∧ (rgC l)[k * 2 + 1]? = some (u64 r.2)
  | [], k, r, h => by simp at h
  | x :: l, 0, r, h => by
    simp at h
    subst h
    exact ⟨rfl, rfl⟩
  | x :: l, k + 1, r, h => by
    have := rgC_get l k r (by simpa using h)
    show ([u64 x.1, u64 x.2] ++ rgC l)[(k + 1) * 2]? = _ ∧ ([u64 x.1, u64 x.2] ++ rgC l)[(k + 1) * 2 + 1]? = _
    rw [List.getElem?_append_right (by show 2 ≤ _; omega), List.getElem?_append_right (by show 2 ≤ _; omega)]
    have e1 : (k + 1) * 2 - [u64 x.1, u64 x.2].length = k * 2 := by show (k + 1) * 2 - 2 = _; omega
    have e2 : (k + 1) * 2 + 1 - [u64 x.1, u64 x.2].length = k * 2 + 1 := by show (k + 1) * 2 + 1 - 2 = _; omega
    rw [e1, e2]
    exact this
theorem renO_rg (f : Nat → Nat) (l : Rg) : renO f (.row (rgC l)) = .row (rgC l) := by
  have : ∀ l : Rg, renL f (rgC l) = rgC l := by
    intro l
    induction l with
    | nil => rfl
    | cons x l ih =>
      show renL f (u64 x.1 :: u64 x.2 :: rgC l) = _
      simp only [renL, ih]
      rfl
  simp only [renO, this]
/-- Is there such a one? -/
def oneT (l : Rg) (who : Int) : Bool := decide (0 ≤ who ∧ who < l.length)
theorem oneNil_ok (who : Int) : ACalls Try.prog 70 [.sc (.pointer none), i64 who] [] (Ret (bo false)) := by
  refine acalls_of_awp hT mixed Try.func70 rfl (by kernel_rfl) (by kernel_rfl) (Nat.le_of_ble_eq_true rfl) ?_
  refine end0 rfl rfl rfl rfl
theorem belowH_tab (tags : Nat) (l : Rg) : belowH (tabH tags l).length (tabH tags l) = true := by
  have : ∀ l : Rg, belowL 2 (rgC l) = true := by
    intro l
    induction l with
    | nil => rfl
    | cons x l ih =>
      show belowL 2 (u64 x.1 :: u64 x.2 :: rgC l) = true
      simp only [belowL, ih]
      rfl
  show (belowL 2 (rgC l) && _) = true
  rw [this]
  rfl
theorem cone_ok (tags : Nat) (l : Rg) (who : Int) : ACalls Try.prog 70 [.ptr 1 0, i64 who] (tabH tags l) (RetH (bo (oneT l who)) (tabH tags l)) := by
  refine acalls_of_awp hT mixed Try.func70 rfl (by kernel_rfl) (by kernel_rfl) (Nat.le_of_ble_eq_true rfl) ?_
  refine forkD (fun h => ?_) (fun h => ?_)
  · refine forkD (fun h2 => ?_) (fun h2 => ?_)
    · refine endH rfl rfl rfl ⟨.inl rfl, .inl rfl, True.intro⟩ (Nat.le_refl 2) (belowH_tab tags l) (congrArg bo (decide_eq_true ⟨by omega, h2⟩).symm)
    · refine endH rfl rfl rfl ⟨.inl rfl, .inl rfl, True.intro⟩ (Nat.le_refl 2) (belowH_tab tags l) (congrArg bo (decide_eq_false (fun hh => h2 hh.2)).symm)
  · refine endH rfl rfl rfl ⟨.inl rfl, .inl rfl, True.intro⟩ (Nat.le_refl 2) (belowH_tab tags l) (congrArg bo (decide_eq_false (fun hh => by omega)).symm)
end Go.Proofs.Ytkbpddejafdmdaa.A

namespace Go.Proofs.Ytkbpddejafdmdaa.A
open Go
set_option linter.unusedVariables false
set_option maxRecDepth 100000
set_option pp.maxSteps 1500

theorem newBad_ok (n : Int) (h : n < 1 ∨ 8 < n) : ACalls Try.prog 22 [i64 n] [] (Ret (.tup [.sc (.pointer none), i64 1])) := by
  refine acalls_of_awp hT mixed Try.func22 rfl (by kernel_rfl) (by kernel_rfl) (Nat.le_of_ble_eq_true rfl) ?_
  refine forkD (fun h1 => ?_) (fun h1 => ?_)
  · refine end0 rfl rfl rfl rfl
  · refine forkD (fun h2 => ?_) (fun h2 => by omega)
    refine end0 rfl rfl rfl rfl
def nobody (n : Nat) : Rg := List.replicate n (0, 0)
theorem nobody_len (n : Nat) : (nobody n).length = n := List.length_replicate
theorem zeros_rg (z : Value) (hz : z.cells.toList.map ofC = [u64 0, u64 0]) (n : Nat) : zerosA z n = rgC (nobody n) := by
  unfold zerosA rgC nobody
  rw [hz, List.map_replicate]
  rfl
theorem new_ok (n : Nat) (h1 : 1 ≤ n) (h8 : n ≤ 8) : ACalls Try.prog 22 [i64 n] [] (RetH (.tup [.ptr 1 0, i64 0]) (tabH 0 (nobody n))) := by
  refine acalls_of_awp hT mixed Try.func22 rfl (by kernel_rfl) (by kernel_rfl) (Nat.le_of_ble_eq_true rfl) ?_
  refine forkD (fun h => by omega) (fun h => ?_)
  refine forkD (fun h => by omega) (fun h => ?_)
  refine Ob.intro (show (0 : Int) ≤ (n : Nat) ∧ ((n : Nat) : Int) ≤ (n : Nat) ∧ ((n : Nat) : Int) ≤ 140737488355328 ∧ ((16 : Nat) : Int) * (n : Nat) ≤ 140737488355328 by omega) ?_
  refine endH rfl rfl rfl ⟨.inl ?_, .inl ?_, True.intro⟩ (Nat.zero_le 2) (belowH_tab 0 (nobody n)) rfl
  · exact congrArg AObj.row (zeros_rg _ rfl n).symm
  · show tabO 0 (nobody n) = AObj.row [i64 0, .slc 0 0 n 2]
    unfold tabO
    rw [nobody_len]
    rfl
theorem atR_ok (tags : Nat) (l : Rg) (off : Nat) (m : Bool) : ACalls Try.prog 50 [.ptr 0 off, bo m] (tabH tags l) (RetH (.ptr 0 (off + (if m = true then 1 else 0))) (tabH tags l)) := by
  cases m
  · refine acalls_of_awp hT mixed Try.func50 rfl (by kernel_rfl) (by kernel_rfl) (Nat.le_of_ble_eq_true rfl) ?_
    refine endH rfl rfl rfl ⟨.inl rfl, .inl rfl, True.intro⟩ (Nat.le_refl 2) (belowH_tab tags l) rfl
  · refine acalls_of_awp hT mixed Try.func50 rfl (by kernel_rfl) (by kernel_rfl) (Nat.le_of_ble_eq_true rfl) ?_
    refine endH rfl rfl rfl ⟨.inl rfl, .inl rfl, True.intro⟩ (Nat.le_refl 2) (belowH_tab tags l) rfl
def RgOk (l : Rg) : Prop := l.length ≤ 8 ∧ ∀ r ∈ l, r.1 < 18446744073709551616 ∧ r.2 < 18446744073709551616
/-- What somebody may see, or drop. -/
def maskOf (l : Rg) (who : Int) (m : Bool) : Nat := ((l[who.toNat]?).map fun r => if m = true then r.2 else r.1).getD 0
theorem maskOf_lt {l : Rg} (h : RgOk l) (who : Int) (m : Bool) : maskOf l who m < 18446744073709551616 := by
  unfold maskOf
  cases hq : l[who.toNat]? with
  | none => exact (by decide : (0 : Nat) < 18446744073709551616)
  | some r =>
    have := h.2 r (List.mem_of_getElem? hq)
    show (if m = true then r.2 else r.1) < _
    split
    · exact this.2
    · exact this.1
theorem mask_rd {tags : Nat} {l : Rg} {who : Int} (h : oneT l who = true) (m : Bool) {G : Heap} : rd1 (.row (rgC l) :: G) 0 (0 + who.toNat * 2 + (if m = true then 1 else 0)) = some (u64 (maskOf l who m)) := by
  have h := of_decide_eq_true h
  obtain ⟨r, hr⟩ : ∃ r, l[who.toNat]? = some r := ⟨_, List.getElem?_eq_getElem (by omega)⟩
  have := rgC_get l _ r hr
  show nth (rgC l) (0 + who.toNat * 2 + (if m = true then 1 else 0)) = _
  rw [nth_eq, Nat.zero_add]
  unfold maskOf
  rw [hr]
  cases m
  · exact this.1
  · exact this.2
/-! ### What is clear -/
def capH (p : Nat) (at_ : List Nat) : Heap := [.row [u64 p], .row [us at_]]
def bad (p : Nat) (at_ : List Nat) (x : Nat) : Bool := !hasS p x && !decide (x ∈ at_)
end Go.Proofs.Ytkbpddejafdmdaa.A

namespace Go.Proofs.Ytkbpddejafdmdaa.A
open Go
set_option linter.unusedVariables false
set_option maxRecDepth 100000
set_option pp.maxSteps 1500

def clearT (g : Rg) (who : Int) (a l : List Nat) : Bool := oneT g who && !l.any (bad (maskOf g who false) a)
theorem peopleNil_ok : ACalls Try.prog 28 [.sc (.pointer none)] [] (Ret (i64 0)) := by
  refine acalls_of_awp hT mixed Try.func28 rfl (by kernel_rfl) (by kernel_rfl) (Nat.le_of_ble_eq_true rfl) ?_
  refine end0 rfl rfl rfl rfl
theorem tagsNil_ok : ACalls Try.prog 29 [.sc (.pointer none)] [] (Ret (i64 0)) := by
  refine acalls_of_awp hT mixed Try.func29 rfl (by kernel_rfl) (by kernel_rfl) (Nat.le_of_ble_eq_true rfl) ?_
  refine end0 rfl rfl rfl rfl
theorem masksNil_ok : ACalls Try.prog 48 [.sc (.pointer none)] [] (Ret (.tup [nilS, nilS])) := by
  refine acalls_of_awp hT mixed Try.func48 rfl (by kernel_rfl) (by kernel_rfl) (Nat.le_of_ble_eq_true rfl) ?_
  refine end0 rfl rfl rfl rfl
/-- A deed. -/
def deed (k w t : Int) (x : Nat) (m : Bool) : AV := .agg [i64 k, i64 w, i64 t, u64 x, bo m]
theorem checkNil_ok (k w t : Int) (x : Nat) (m : Bool) : ACalls Try.prog 49 [.sc (.pointer none), deed k w t x m] [] (Ret (i64 2)) := by
  cases m <;>
  · refine acalls_of_awp hT mixed Try.func49 rfl (by kernel_rfl) (by kernel_rfl) (Nat.le_of_ble_eq_true rfl) ?_
    refine end0 rfl rfl rfl rfl
theorem doNil_ok (k w t : Int) (x : Nat) (m : Bool) : ACalls Try.prog 24 [.sc (.pointer none), deed k w t x m] [] (Ret (.tup [u64 0, i64 2])) := by
  cases m <;>
  · refine acalls_of_awp hT mixed Try.func24 rfl (by kernel_rfl) (by kernel_rfl) (Nat.le_of_ble_eq_true rfl) ?_
    refine callP (checkNil_ok k w t x _) rfl rfl ?_
    refine end0 rfl rfl rfl rfl
end Go.Proofs.Ytkbpddejafdmdaa.A

namespace Go.Proofs.Ytkbpddejafdmdaa.A
open Go
set_option linter.unusedVariables false
set_option maxRecDepth 100000
set_option pp.maxSteps 1500

def hasR (g : Rg) (who : Int) (m : Bool) (x : Nat) : Bool := hasS (maskOf g who m) x
def checkE (tags : Nat) (g : Rg) (k w t : Int) (x : Nat) (m : Bool) : Int :=
  if k = 1 ∧ t = 0 ∧ x = 0 ∧ m = false ∧ oneT g w = true then (if 16 ≤ tags then 5 else 0)
  else if k ≠ 2 ∨ oneT g w = false ∨ oneT g t = false then 1
  else if x < 1 ∨ tags < x then 7
  else if hasR g w m x = false then 10 else if hasR g t m x = true then 8 else 0
theorem check_false (tags : Nat) (g : Rg) (k w t : Int) (x : Nat) (hg : RgOk g) (ht : tags < 1000000) (hx : x < 18446744073709551616) :
    ACalls Try.prog 49 [.ptr 1 0, deed k w t x false] (tabH tags g) (RetH (i64 (checkE tags g k w t x false)) (tabH tags g)) := by
  have ow := cone_ok tags g w
  have ot := cone_ok tags g t
  have mw := hasS_ok (maskOf g w false) x (maskOf_lt hg w false) hx
  have mt := hasS_ok (maskOf g t false) x (maskOf_lt hg t false) hx
  have hgo : ∀ f : Nat → Nat, renO f (.row (rgC g)) = .row (rgC g) := fun f => renO_rg f g
  have fin : ∀ i : Int, i = checkE tags g k w t x false → i64 i = i64 (checkE tags g k w t x false) := fun i h => congrArg i64 h
  refine acalls_of_awp hT mixed Try.func49 rfl (by kernel_rfl) (by kernel_rfl) (Nat.le_of_ble_eq_true rfl) ?_
  have rest : ¬ (k = 1 ∧ t = 0 ∧ x = 0 ∧ false = false ∧ oneT g w = true) → checkE tags g k w t x false = if k ≠ 2 ∨ oneT g w = false ∨ oneT g t = false then 1 else if x < 1 ∨ tags < x then 7 else if hasR g w false x = false then 10 else if hasR g t false x = true then 8 else 0 := fun h => if_neg h
  refine fork (fun h1 => ?_) (fun h1 => ?_)
  · have h1 : k = 1 := by simpa using h1
    have hk2 : ¬ k = 2 := by omega
    refine fork (fun h2 => ?_) (fun h2 => ?_)
    · refine callH ow [0, 1] rfl ⟨.inl (by rw [hgo]; rfl), .inl rfl, True.intro⟩ rfl rfl (H' := tabH tags g ++ [.row [i64 k, i64 w, i64 t, u64 x, bo false], .row [i64 1, i64 w, i64 0, u64 0, bo false]]) (by simp only [tabH, renH, hgo]; rfl) ?_
      refine fork (fun h3 => ?_) (fun h3 => ?_)
      · have h2 : t = 0 ∧ x = 0 := by
          simp at h2
          omega
        have hall : k = 1 ∧ t = 0 ∧ x = 0 ∧ false = false ∧ oneT g w = true := ⟨h1, h2.1, h2.2, rfl, h3⟩
        refine forkD (fun h4 => ?_) (fun h4 => ?_)
        · refine endH rfl rfl rfl ⟨.inl rfl, .inl rfl, True.intro⟩ (Nat.le_refl 2) (belowH_tab tags g) (fin _ ?_)
          unfold checkE
          rw [if_pos hall, if_pos (by omega)]
        · refine endH rfl rfl rfl ⟨.inl rfl, .inl rfl, True.intro⟩ (Nat.le_refl 2) (belowH_tab tags g) (fin _ ?_)
          unfold checkE
          rw [if_pos hall, if_neg (by omega)]
      · have hn : ¬ (k = 1 ∧ t = 0 ∧ x = 0 ∧ false = false ∧ oneT g w = true) := fun hh => by rw [hh.2.2.2.2] at h3; cases h3
        refine fork (fun h4 => ?_) (fun h4 => ?_)
        · refine endH rfl rfl rfl ⟨.inl rfl, .inl rfl, True.intro⟩ (Nat.le_refl 2) (belowH_tab tags g) (fin _ ?_)
          rw [rest hn, if_pos (.inl hk2)]
        · exact absurd (bne_eq_false_iff_eq.1 h4) hk2
    · have hn : ¬ (k = 1 ∧ t = 0 ∧ x = 0 ∧ false = false ∧ oneT g w = true) := fun hh => by
        simp [hh.1, hh.2.1, hh.2.2.1] at h2
      refine fork (fun h4 => ?_) (fun h4 => ?_)
      · refine endH rfl rfl rfl ⟨.inl rfl, .inl rfl, True.intro⟩ (Nat.le_refl 2) (belowH_tab tags g) (fin _ ?_)
        rw [rest hn, if_pos (.inl hk2)]
      · exact absurd (bne_eq_false_iff_eq.1 h4) hk2
  · have h1 : ¬ k = 1 := by simpa using h1
    have hn : ¬ (k = 1 ∧ t = 0 ∧ x = 0 ∧ false = false ∧ oneT g w = true) := fun hh => h1 hh.1
    refine fork (fun h4 => ?_) (fun h4 => ?_)
    · have hk2 : ¬ k = 2 := bne_iff_ne.1 h4
      refine endH rfl rfl rfl ⟨.inl rfl, .inl rfl, True.intro⟩ (Nat.le_refl 2) (belowH_tab tags g) (fin _ ?_)
      rw [rest hn, if_pos (.inl hk2)]
    · have hk2 : k = 2 := bne_eq_false_iff_eq.1 h4
      refine callH ow [0, 1] rfl ⟨.inl (by rw [hgo]; rfl), .inl rfl, True.intro⟩ rfl rfl (H' := tabH tags g ++ [.row [i64 k, i64 w, i64 t, u64 x, bo false], .row [i64 1, i64 w, i64 0, u64 0, bo false]]) (by simp only [tabH, renH, hgo]; rfl) ?_
      refine fork (fun h5 => ?_) (fun h5 => ?_)
      · refine callH ot [0, 1] rfl ⟨.inl (by rw [hgo]; rfl), .inl rfl, True.intro⟩ rfl rfl (H' := tabH tags g ++ [.row [i64 k, i64 w, i64 t, u64 x, bo false], .row [i64 1, i64 w, i64 0, u64 0, bo false]]) (by simp only [tabH, renH, hgo]; rfl) ?_
        refine fork (fun h6 => ?_) (fun h6 => ?_)
        · have hq : ¬ (k ≠ 2 ∨ oneT g w = false ∨ oneT g t = false) := fun hh => by
            rcases hh with hh | hh | hh
            · exact hh hk2
            · rw [h5] at hh; cases hh
            · rw [h6] at hh; cases hh
          refine ⟨[0, 0, 0, 0, 0, 0, 0, 0, 0, 0, 0, 0, 0, 0], [[], [0], [0, 1], [0, 1, 2], [0, 1, 2, 3], [0, 1, 2, 3, 4], [0, 1, 2, 3], [0, 1, 2, 3, 6], [0, 1, 2, 3, 6, 7], [0, 1, 2, 3, 6, 7, 8], [0, 1, 2, 3, 6, 7, 8, 9], [0, 1, 2, 3, 4, 5, 6, 7, 8, 9, 10], [0, 1, 2, 3, 4, 5, 6, 7, 8, 9, 10, 11], [0, 1, 2, 3, 4, 5, 6, 7, 8, 9, 10, 11, 12]], [0, 0, 0, 0, 0, 0, 0, 0, 0, 0, 0, 0, 0, 0], [], [[3], [51], [52], [53], [3, 54], [55, 54], [0, 54], [57, 54], [58, 54], [59, 54], [60, 54], [56, 61, 54], [54, 62], [63]], Ob.intro (by kernel_rfl) ?_⟩
          have e1 : wrp .u64 (tags : Int) = (tags : Int) := by rw [wrpE, wu64]; omega
          refine forkD (fun h7 => ?_) (fun h7 => ?_)
          · repeat refine same ?_
            refine endH rfl rfl rfl ⟨.inl rfl, .inl rfl, True.intro⟩ (Nat.le_refl 2) (belowH_tab tags g) (fin _ ?_)
            rw [rest hn, if_neg hq, if_pos (by omega)]
          · refine forkD (fun h8 => ?_) (fun h8 => ?_)
            · rw [e1] at h8
              repeat refine same ?_
              refine endH rfl rfl rfl ⟨.inl rfl, .inl rfl, True.intro⟩ (Nat.le_refl 2) (belowH_tab tags g) (fin _ ?_)
              rw [rest hn, if_neg hq, if_pos (by omega)]
            · rw [e1] at h8
              repeat refine same ?_
              have hr := rest hn
              rw [if_neg hq, if_neg (by omega)] at hr
              have hwo := of_decide_eq_true h5
              have hto := of_decide_eq_true h6
              have rw1 : ∀ G : Heap, rd1 (.row (rgC g) :: G) 0 (0 + w.toNat * 2 + (if false = true then 1 else 0)) = some (u64 (maskOf g w false)) := fun G => mask_rd (tags := tags) h5 false
              have rt1 : ∀ G : Heap, rd1 (.row (rgC g) :: G) 0 (0 + t.toNat * 2 + (if false = true then 1 else 0)) = some (u64 (maskOf g t false)) := fun G => mask_rd (tags := tags) h6 false
              refine ⟨[0, 0, 0, 0, 0, 0, 0, 0, 0, 1, 1, 1, 0, 0, 2, 2, 2], [[], [0], [0, 1], [0, 1, 2], [], [4], [0, 1, 2, 3, 4, 5], [], [7], [0, 1, 2, 3, 4, 5, 6, 7, 8], [0, 1, 2, 3, 4, 5, 6, 7, 8, 9], [0, 1, 2, 3, 4, 5, 6, 7, 8, 9, 10], [], [12], [0, 1, 2, 3, 4, 5, 6, 7, 8, 9, 10, 11, 12, 13], [0, 1, 2, 3, 4, 5, 6, 7, 8, 9, 10, 11, 12, 13, 14], [0, 1, 2, 3, 4, 5, 6, 7, 8, 9, 10, 11, 12, 13, 14, 15]], [0, 0, 0, 0, 0, 0, 0, 0, 0, 0, 0, 0, 0, 0, 0, 0, 0], [9, 14], [[0], [65], [66], [67], [3], [69], [68, 70], [3], [72], [71, 73], [74], [75], [3], [77], [76, 78], [79], [80]], Ob.intro (by kernel_rfl) ?_⟩
              repeat first | refine same ?_ | refine Ob.intro hwo ?_
              refine callH (H := tabH tags g ++ [.row [i64 k, i64 w, i64 t, u64 x, bo false], .row [i64 1, i64 w, i64 0, u64 0, bo false]]) (atR_ok tags g (0 + w.toNat * 2) false) [0, 1] rfl ⟨.inl (by rw [hgo]; rfl), .inl rfl, True.intro⟩ rfl rfl (H' := tabH tags g ++ [.row [i64 k, i64 w, i64 t, u64 x, bo false], .row [i64 1, i64 w, i64 0, u64 0, bo false]]) (by simp only [tabH, renH, hgo]; rfl) ?_
              repeat first | refine same ?_ | refine Ob.intro hwo ?_ | refine optK_intro (rw1 _) ?_
              refine callP mw rfl rfl ?_
              refine fork (fun h9 => ?_) (fun h9 => ?_)
              · rw [if_neg (by unfold hasR; rw [h9]; decide)] at hr
                repeat first | refine same ?_ | refine Ob.intro hwo ?_ | refine optK_intro (rw1 _) ?_
                refine ⟨[0, 0, 0, 0, 0, 0, 0, 0, 0, 1, 1, 1, 0, 0, 2, 2], [[], [0], [0, 1], [0, 1, 2], [], [4], [0, 1, 2, 3, 4, 5], [], [7], [0, 1, 2, 3, 4, 5, 6, 7, 8], [0, 1, 2, 3, 4, 5, 6, 7, 8, 9], [0, 1, 2, 3, 4, 5, 6, 7, 8, 9, 10], [], [12], [0, 1, 2, 3, 4, 5, 6, 7, 8, 9, 10, 11, 12, 13], [0, 1, 2, 3, 4, 5, 6, 7, 8, 9, 10, 11, 12, 13, 14]], [0, 0, 0, 0, 0, 0, 0, 0, 0, 0, 0, 0, 0, 0, 0, 0], [9, 14], [[0], [82], [83], [84], [3], [86], [85, 87], [3], [89], [88, 90], [91], [92], [3], [94], [93, 95], [96]], Ob.intro (by kernel_rfl) ?_⟩
                repeat first | refine same ?_ | refine Ob.intro hto ?_
                refine callH (H := tabH tags g ++ [.row [i64 k, i64 w, i64 t, u64 x, bo false], .row [i64 1, i64 w, i64 0, u64 0, bo false]]) (atR_ok tags g (0 + t.toNat * 2) false) [0, 1] rfl ⟨.inl (by rw [hgo]; rfl), .inl rfl, True.intro⟩ rfl rfl (H' := tabH tags g ++ [.row [i64 k, i64 w, i64 t, u64 x, bo false], .row [i64 1, i64 w, i64 0, u64 0, bo false]]) (by simp only [tabH, renH, hgo]; rfl) ?_
                repeat first | refine same ?_ | refine Ob.intro hto ?_ | refine optK_intro (rt1 _) ?_
                refine callP mt rfl rfl ?_
                refine fork (fun h10 => ?_) (fun h10 => ?_)
                · rw [if_pos (by unfold hasR; exact h10)] at hr
                  repeat first | refine same ?_ | refine Ob.intro hto ?_ | refine optK_intro (rt1 _) ?_
                  refine endH rfl rfl rfl ⟨.inl rfl, .inl rfl, True.intro⟩ (Nat.le_refl 2) (belowH_tab tags g) (fin _ ?_)
                  exact hr.symm
                · rw [if_neg (by unfold hasR; rw [h10]; decide)] at hr
                  repeat first | refine same ?_ | refine Ob.intro hto ?_ | refine optK_intro (rt1 _) ?_
                  refine endH rfl rfl rfl ⟨.inl rfl, .inl rfl, True.intro⟩ (Nat.le_refl 2) (belowH_tab tags g) (fin _ ?_)
                  exact hr.symm
              · rw [if_pos (by unfold hasR; exact h9)] at hr
                repeat first | refine same ?_ | refine Ob.intro hwo ?_ | refine optK_intro (rw1 _) ?_
                refine endH rfl rfl rfl ⟨.inl rfl, .inl rfl, True.intro⟩ (Nat.le_refl 2) (belowH_tab tags g) (fin _ ?_)
                exact hr.symm
        · refine endH rfl rfl rfl ⟨.inl rfl, .inl rfl, True.intro⟩ (Nat.le_refl 2) (belowH_tab tags g) (fin _ ?_)
          rw [rest hn, if_pos (.inr (.inr h6))]
      · refine endH rfl rfl rfl ⟨.inl rfl, .inl rfl, True.intro⟩ (Nat.le_refl 2) (belowH_tab tags g) (fin _ ?_)
        rw [rest hn, if_pos (.inr (.inl h5))]
theorem check_true (tags : Nat) (g : Rg) (k w t : Int) (x : Nat) (hg : RgOk g) (ht : tags < 1000000) (hx : x < 18446744073709551616) :
    ACalls Try.prog 49 [.ptr 1 0, deed k w t x true] (tabH tags g) (RetH (i64 (checkE tags g k w t x true)) (tabH tags g)) := by
  have ow := cone_ok tags g w
  have ot := cone_ok tags g t
  have mw := hasS_ok (maskOf g w true) x (maskOf_lt hg w true) hx
  have mt := hasS_ok (maskOf g t true) x (maskOf_lt hg t true) hx
  have hgo : ∀ f : Nat → Nat, renO f (.row (rgC g)) = .row (rgC g) := fun f => renO_rg f g
  have fin : ∀ i : Int, i = checkE tags g k w t x true → i64 i = i64 (checkE tags g k w t x true) := fun i h => congrArg i64 h
  refine acalls_of_awp hT mixed Try.func49 rfl (by kernel_rfl) (by kernel_rfl) (Nat.le_of_ble_eq_true rfl) ?_
  have rest : ¬ (k = 1 ∧ t = 0 ∧ x = 0 ∧ true = false ∧ oneT g w = true) → checkE tags g k w t x true = if k ≠ 2 ∨ oneT g w = false ∨ oneT g t = false then 1 else if x < 1 ∨ tags < x then 7 else if hasR g w true x = false then 10 else if hasR g t true x = true then 8 else 0 := fun h => if_neg h
  refine fork (fun h1 => ?_) (fun h1 => ?_)
  · have h1 : k = 1 := by simpa using h1
    have hk2 : ¬ k = 2 := by omega
    refine fork (fun h2 => ?_) (fun h2 => ?_)
    · refine callH ow [0, 1] rfl ⟨.inl (by rw [hgo]; rfl), .inl rfl, True.intro⟩ rfl rfl (H' := tabH tags g ++ [.row [i64 k, i64 w, i64 t, u64 x, bo true], .row [i64 1, i64 w, i64 0, u64 0, bo false]]) (by simp only [tabH, renH, hgo]; rfl) ?_
      refine fork (fun h3 => ?_) (fun h3 => ?_)
      · exfalso
        simp at h2
      · have hn : ¬ (k = 1 ∧ t = 0 ∧ x = 0 ∧ true = false ∧ oneT g w = true) := fun hh => by rw [hh.2.2.2.2] at h3; cases h3
        refine fork (fun h4 => ?_) (fun h4 => ?_)
        · refine endH rfl rfl rfl ⟨.inl rfl, .inl rfl, True.intro⟩ (Nat.le_refl 2) (belowH_tab tags g) (fin _ ?_)
          rw [rest hn, if_pos (.inl hk2)]
        · exact absurd (bne_eq_false_iff_eq.1 h4) hk2
    · have hn : ¬ (k = 1 ∧ t = 0 ∧ x = 0 ∧ true = false ∧ oneT g w = true) := fun hh => by
        cases hh.2.2.2.1
      refine fork (fun h4 => ?_) (fun h4 => ?_)
      · refine endH rfl rfl rfl ⟨.inl rfl, .inl rfl, True.intro⟩ (Nat.le_refl 2) (belowH_tab tags g) (fin _ ?_)
        rw [rest hn, if_pos (.inl hk2)]
      · exact absurd (bne_eq_false_iff_eq.1 h4) hk2
  · have h1 : ¬ k = 1 := by simpa using h1
    have hn : ¬ (k = 1 ∧ t = 0 ∧ x = 0 ∧ true = false ∧ oneT g w = true) := fun hh => h1 hh.1
    refine fork (fun h4 => ?_) (fun h4 => ?_)
    · have hk2 : ¬ k = 2 := bne_iff_ne.1 h4
      refine endH rfl rfl rfl ⟨.inl rfl, .inl rfl, True.intro⟩ (Nat.le_refl 2) (belowH_tab tags g) (fin _ ?_)
      rw [rest hn, if_pos (.inl hk2)]
    · have hk2 : k = 2 := bne_eq_false_iff_eq.1 h4
      refine callH ow [0, 1] rfl ⟨.inl (by rw [hgo]; rfl), .inl rfl, True.intro⟩ rfl rfl (H' := tabH tags g ++ [.row [i64 k, i64 w, i64 t, u64 x, bo true], .row [i64 1, i64 w, i64 0, u64 0, bo false]]) (by simp only [tabH, renH, hgo]; rfl) ?_
      refine fork (fun h5 => ?_) (fun h5 => ?_)
      · refine callH ot [0, 1] rfl ⟨.inl (by rw [hgo]; rfl), .inl rfl, True.intro⟩ rfl rfl (H' := tabH tags g ++ [.row [i64 k, i64 w, i64 t, u64 x, bo true], .row [i64 1, i64 w, i64 0, u64 0, bo false]]) (by simp only [tabH, renH, hgo]; rfl) ?_
        refine fork (fun h6 => ?_) (fun h6 => ?_)
        · have hq : ¬ (k ≠ 2 ∨ oneT g w = false ∨ oneT g t = false) := fun hh => by
            rcases hh with hh | hh | hh
            · exact hh hk2
            · rw [h5] at hh; cases hh
            · rw [h6] at hh; cases hh
          refine ⟨[0, 0, 0, 0, 0, 0, 0, 0, 0, 0, 0, 0, 0, 0], [[], [0], [0, 1], [0, 1, 2], [0, 1, 2, 3], [0, 1, 2, 3, 4], [0, 1, 2, 3], [0, 1, 2, 3, 6], [0, 1, 2, 3, 6, 7], [0, 1, 2, 3, 6, 7, 8], [0, 1, 2, 3, 6, 7, 8, 9], [0, 1, 2, 3, 4, 5, 6, 7, 8, 9, 10], [0, 1, 2, 3, 4, 5, 6, 7, 8, 9, 10, 11], [0, 1, 2, 3, 4, 5, 6, 7, 8, 9, 10, 11, 12]], [0, 0, 0, 0, 0, 0, 0, 0, 0, 0, 0, 0, 0, 0], [], [[3], [51], [52], [53], [3, 54], [55, 54], [0, 54], [57, 54], [58, 54], [59, 54], [60, 54], [56, 61, 54], [54, 62], [63]], Ob.intro (by kernel_rfl) ?_⟩
          have e1 : wrp .u64 (tags : Int) = (tags : Int) := by rw [wrpE, wu64]; omega
          refine forkD (fun h7 => ?_) (fun h7 => ?_)
          · repeat refine same ?_
            refine endH rfl rfl rfl ⟨.inl rfl, .inl rfl, True.intro⟩ (Nat.le_refl 2) (belowH_tab tags g) (fin _ ?_)
            rw [rest hn, if_neg hq, if_pos (by omega)]
          · refine forkD (fun h8 => ?_) (fun h8 => ?_)
            · rw [e1] at h8
              repeat refine same ?_
              refine endH rfl rfl rfl ⟨.inl rfl, .inl rfl, True.intro⟩ (Nat.le_refl 2) (belowH_tab tags g) (fin _ ?_)
              rw [rest hn, if_neg hq, if_pos (by omega)]
            · rw [e1] at h8
              repeat refine same ?_
              have hr := rest hn
              rw [if_neg hq, if_neg (by omega)] at hr
              have hwo := of_decide_eq_true h5
              have hto := of_decide_eq_true h6
              have rw1 : ∀ G : Heap, rd1 (.row (rgC g) :: G) 0 (0 + w.toNat * 2 + (if true = true then 1 else 0)) = some (u64 (maskOf g w true)) := fun G => mask_rd (tags := tags) h5 true
              have rt1 : ∀ G : Heap, rd1 (.row (rgC g) :: G) 0 (0 + t.toNat * 2 + (if true = true then 1 else 0)) = some (u64 (maskOf g t true)) := fun G => mask_rd (tags := tags) h6 true
              refine ⟨[0, 0, 0, 0, 0, 0, 0, 0, 0, 1, 1, 1, 0, 0, 2, 2, 2], [[], [0], [0, 1], [0, 1, 2], [], [4], [0, 1, 2, 3, 4, 5], [], [7], [0, 1, 2, 3, 4, 5, 6, 7, 8], [0, 1, 2, 3, 4, 5, 6, 7, 8, 9], [0, 1, 2, 3, 4, 5, 6, 7, 8, 9, 10], [], [12], [0, 1, 2, 3, 4, 5, 6, 7, 8, 9, 10, 11, 12, 13], [0, 1, 2, 3, 4, 5, 6, 7, 8, 9, 10, 11, 12, 13, 14], [0, 1, 2, 3, 4, 5, 6, 7, 8, 9, 10, 11, 12, 13, 14, 15]], [0, 0, 0, 0, 0, 0, 0, 0, 0, 0, 0, 0, 0, 0, 0, 0, 0], [9, 14], [[0], [65], [66], [67], [3], [69], [68, 70], [3], [72], [71, 73], [74], [75], [3], [77], [76, 78], [79], [80]], Ob.intro (by kernel_rfl) ?_⟩
              repeat first | refine same ?_ | refine Ob.intro hwo ?_
              refine callH (H := tabH tags g ++ [.row [i64 k, i64 w, i64 t, u64 x, bo true], .row [i64 1, i64 w, i64 0, u64 0, bo false]]) (atR_ok tags g (0 + w.toNat * 2) true) [0, 1] rfl ⟨.inl (by rw [hgo]; rfl), .inl rfl, True.intro⟩ rfl rfl (H' := tabH tags g ++ [.row [i64 k, i64 w, i64 t, u64 x, bo true], .row [i64 1, i64 w, i64 0, u64 0, bo false]]) (by simp only [tabH, renH, hgo]; rfl) ?_
              repeat first | refine same ?_ | refine Ob.intro hwo ?_ | refine optK_intro (rw1 _) ?_
              refine callP mw rfl rfl ?_
              refine fork (fun h9 => ?_) (fun h9 => ?_)
              · rw [if_neg (by unfold hasR; rw [h9]; decide)] at hr
                repeat first | refine same ?_ | refine Ob.intro hwo ?_ | refine optK_intro (rw1 _) ?_
                refine ⟨[0, 0, 0, 0, 0, 0, 0, 0, 0, 1, 1, 1, 0, 0, 2, 2], [[], [0], [0, 1], [0, 1, 2], [], [4], [0, 1, 2, 3, 4, 5], [], [7], [0, 1, 2, 3, 4, 5, 6, 7, 8], [0, 1, 2, 3, 4, 5, 6, 7, 8, 9], [0, 1, 2, 3, 4, 5, 6, 7, 8, 9, 10], [], [12], [0, 1, 2, 3, 4, 5, 6, 7, 8, 9, 10, 11, 12, 13], [0, 1, 2, 3, 4, 5, 6, 7, 8, 9, 10, 11, 12, 13, 14]], [0, 0, 0, 0, 0, 0, 0, 0, 0, 0, 0, 0, 0, 0, 0, 0], [9, 14], [[0], [82], [83], [84], [3], [86], [85, 87], [3], [89], [88, 90], [91], [92], [3], [94], [93, 95], [96]], Ob.intro (by kernel_rfl) ?_⟩
                repeat first | refine same ?_ | refine Ob.intro hto ?_
                refine callH (H := tabH tags g ++ [.row [i64 k, i64 w, i64 t, u64 x, bo true], .row [i64 1, i64 w, i64 0, u64 0, bo false]]) (atR_ok tags g (0 + t.toNat * 2) true) [0, 1] rfl ⟨.inl (by rw [hgo]; rfl), .inl rfl, True.intro⟩ rfl rfl (H' := tabH tags g ++ [.row [i64 k, i64 w, i64 t, u64 x, bo true], .row [i64 1, i64 w, i64 0, u64 0, bo false]]) (by simp only [tabH, renH, hgo]; rfl) ?_
                repeat first | refine same ?_ | refine Ob.intro hto ?_ | refine optK_intro (rt1 _) ?_
                refine callP mt rfl rfl ?_
                refine fork (fun h10 => ?_) (fun h10 => ?_)
                · rw [if_pos (by unfold hasR; exact h10)] at hr
                  repeat first | refine same ?_ | refine Ob.intro hto ?_ | refine optK_intro (rt1 _) ?_
                  refine endH rfl rfl rfl ⟨.inl rfl, .inl rfl, True.intro⟩ (Nat.le_refl 2) (belowH_tab tags g) (fin _ ?_)
                  exact hr.symm
                · rw [if_neg (by unfold hasR; rw [h10]; decide)] at hr
                  repeat first | refine same ?_ | refine Ob.intro hto ?_ | refine optK_intro (rt1 _) ?_
                  refine endH rfl rfl rfl ⟨.inl rfl, .inl rfl, True.intro⟩ (Nat.le_refl 2) (belowH_tab tags g) (fin _ ?_)
                  exact hr.symm
              · rw [if_pos (by unfold hasR; exact h9)] at hr
                repeat first | refine same ?_ | refine Ob.intro hwo ?_ | refine optK_intro (rw1 _) ?_
                refine endH rfl rfl rfl ⟨.inl rfl, .inl rfl, True.intro⟩ (Nat.le_refl 2) (belowH_tab tags g) (fin _ ?_)
                exact hr.symm
        · refine endH rfl rfl rfl ⟨.inl rfl, .inl rfl, True.intro⟩ (Nat.le_refl 2) (belowH_tab tags g) (fin _ ?_)
          rw [rest hn, if_pos (.inr (.inr h6))]
      · refine endH rfl rfl rfl ⟨.inl rfl, .inl rfl, True.intro⟩ (Nat.le_refl 2) (belowH_tab tags g) (fin _ ?_)
        rw [rest hn, if_pos (.inr (.inl h5))]
end Go.Proofs.Ytkbpddejafdmdaa.A

namespace Go.Proofs.Ytkbpddejafdmdaa.A
open Go
set_option linter.unusedVariables false
set_option maxRecDepth 100000
set_option pp.maxSteps 1500

/-- Somebody gets a right. -/
def setR (g : Rg) (who : Int) (m : Bool) (x : Nat) : Rg :=
  match g[who.toNat]? with
  | some r => g.set who.toNat (if m = true then (r.1, r.2 ||| bitS x) else (r.1 ||| bitS x, r.2))
  | none => g
theorem setR_len (g : Rg) (who : Int) (m : Bool) (x : Nat) : (setR g who m x).length = g.length := by
  unfold setR
  split
  · exact List.length_set
  · rfl
theorem setR_ok {g : Rg} (h : RgOk g) (who : Int) (m : Bool) (x : Nat) : RgOk (setR g who m x) := by
  refine ⟨by rw [setR_len]; exact h.1, ?_⟩
  unfold setR
  split
  · rename_i r hr
    have hr := h.2 r (List.mem_of_getElem? hr)
    intro z hz
    rcases List.mem_or_eq_of_mem_set hz with hz | hz
    · exact h.2 z hz
    · subst hz
      have h1 : r.1 ||| bitS x < 2 ^ 64 := Nat.or_lt_two_pow hr.1 (bitS_lt x)
      have h2 : r.2 ||| bitS x < 2 ^ 64 := Nat.or_lt_two_pow hr.2 (bitS_lt x)
      split
      · exact ⟨hr.1, h2⟩
      · exact ⟨h1, hr.2⟩
  · exact h.2
theorem oneT_set (g : Rg) (who v : Int) (m : Bool) (x : Nat) : oneT (setR g who m x) v = oneT g v := by
  unfold oneT
  rw [setR_len]
theorem rgC_set : ∀ (g : Rg) (k : Nat) (r : Nat × Nat) (a : Nat), g[k]? = some r → (rgC g).set (k * 2) (u64 a) = rgC (g.set k (a, r.2)) ∧ (rgC g).set (k * 2 + 1) (u64 a) = rgC (g.set k (r.1, a))
  | [], k, r, a, h => by simp at h
  | z :: g, 0, r, a, h => by
    simp at h
    subst h
    exact ⟨rfl, rfl⟩
  | z :: g, k + 1, r, a, h => by
    have := rgC_set g k r a (by simpa using h)
    constructor
    · show (u64 z.1 :: u64 z.2 :: rgC g).set ((k + 1) * 2) (u64 a) = u64 z.1 :: u64 z.2 :: rgC (g.set k (a, r.2))
      rw [← this.1, show (k + 1) * 2 = k * 2 + 1 + 1 by omega]
      rfl
    · show (u64 z.1 :: u64 z.2 :: rgC g).set ((k + 1) * 2 + 1) (u64 a) = u64 z.1 :: u64 z.2 :: rgC (g.set k (r.1, a))
      rw [← this.2, show (k + 1) * 2 + 1 = k * 2 + 1 + 1 + 1 by omega]
      rfl
theorem wr_rg {g : Rg} {who : Int} {m : Bool} {x : Nat} {v : Int} {G : Heap} (h : oneT g who = true) (hv : v = ((maskOf g who m ||| bitS x : Nat) : Int)) :
    wr (.row (rgC g) :: G) 0 (0 + who.toNat * 2 + (if m = true then 1 else 0)) [u64 v] = some (.row (rgC (setR g who m x)) :: G) := by
  have h := of_decide_eq_true h
  obtain ⟨r, hr⟩ : ∃ r, g[who.toNat]? = some r := ⟨_, List.getElem?_eq_getElem (by omega)⟩
  have hlen := rgC_len g
  rw [wr_eq (cs := rgC g) rfl (by rw [hlen]; show _ + 1 ≤ _; split <;> omega)]
  subst hv
  unfold setR maskOf
  rw [hr]
  show some (.row ((rgC g).set _ _) :: G) = _
  rw [Nat.zero_add]
  cases m
  · exact congrArg (fun c => some (AObj.row c :: G)) (rgC_set g _ r _ hr).1
  · exact congrArg (fun c => some (AObj.row c :: G)) (rgC_set g _ r _ hr).2
theorem check_zero {tags : Nat} {g : Rg} {k w t : Int} {x : Nat} {m : Bool} (h : checkE tags g k w t x m = 0) :
    (k = 1 ∧ t = 0 ∧ x = 0 ∧ m = false ∧ oneT g w = true ∧ tags < 16) ∨ (k = 2 ∧ oneT g w = true ∧ oneT g t = true ∧ 1 ≤ x ∧ x ≤ tags ∧ hasR g w m x = true ∧ hasR g t m x = false) := by
  unfold checkE at h
  split at h
  · rename_i h1
    split at h
    · cases h
    · exact .inl ⟨h1.1, h1.2.1, h1.2.2.1, h1.2.2.2.1, h1.2.2.2.2, by omega⟩
  · split at h
    · cases h
    · rename_i h2
      split at h
      · cases h
      · rename_i h3
        split at h
        · cases h
        · rename_i h4
          split at h
          · cases h
          · rename_i h5
            refine .inr ⟨Decidable.byContradiction fun hh => h2 (.inl hh), ?_, ?_, by omega, by omega, by simpa using h4, by simpa using h5⟩
            · cases hq : oneT g w
              · exact absurd (.inr (.inl hq)) h2
              · rfl
            · cases hq : oneT g t
              · exact absurd (.inr (.inr hq)) h2
              · rfl
theorem check_ok (tags : Nat) (g : Rg) (k w t : Int) (x : Nat) (m : Bool) (hg : RgOk g) (ht : tags < 1000000) (hx : x < 18446744073709551616) :
    ACalls Try.prog 49 [.ptr 1 0, deed k w t x m] (tabH tags g) (RetH (i64 (checkE tags g k w t x m)) (tabH tags g)) := by
  cases m
  · exact check_false tags g k w t x hg ht hx
  · exact check_true tags g k w t x hg ht hx
def doTags (tags : Nat) (e k : Int) : Nat := if e = 0 ∧ k ≠ 2 then tags + 1 else tags
def doG (tags : Nat) (g : Rg) (e k w t : Int) (x : Nat) (m : Bool) : Rg := if e = 0 then (if k = 2 then setR g t m x else setR (setR g w false (tags + 1)) w true (tags + 1)) else g
def doN (tags : Nat) (e k : Int) (x : Nat) : Nat := if e = 0 then (if k = 2 then x else tags + 1) else 0
theorem do_false (tags : Nat) (g : Rg) (k w t : Int) (x : Nat) (e : Int) (he : checkE tags g k w t x false = e) (hg : RgOk g) (ht : tags < 1000000) (hx : x < 18446744073709551616) :
    ACalls Try.prog 24 [.ptr 1 0, deed k w t x false] (tabH tags g) (RetH (.tup [u64 (doN tags e k x), i64 e]) (tabH (doTags tags e k) (doG tags g e k w t x false))) := by
  have hc := check_ok tags g k w t x false hg ht hx
  rw [he] at hc
  have hgo : ∀ (g : Rg) (f : Nat → Nat), renO f (.row (rgC g)) = .row (rgC g) := fun g f => renO_rg f g
  refine acalls_of_awp hT mixed Try.func24 rfl (by kernel_rfl) (by kernel_rfl) (Nat.le_of_ble_eq_true rfl) ?_
  refine callH hc [0, 1] rfl ⟨.inl (by rw [hgo]; rfl), .inl rfl, True.intro⟩ rfl rfl (H' := tabH tags g ++ [.row [i64 k, i64 w, i64 t, u64 x, bo false]]) (by simp only [tabH, renH, hgo]; rfl) ?_
  refine fork (fun h1 => ?_) (fun h1 => ?_)
  · have h1 : ¬ e = 0 := bne_iff_ne.1 h1
    have e1 : doN tags e k x = 0 := if_neg h1
    have e2 : doTags tags e k = tags := if_neg fun hh => h1 hh.1
    have e3 : doG tags g e k w t x false = g := if_neg h1
    rw [e1, e2, e3]
    refine endH rfl rfl rfl ⟨.inl rfl, .inl rfl, True.intro⟩ (Nat.le_refl 2) (belowH_tab tags g) rfl
  · have h1 : e = 0 := bne_eq_false_iff_eq.1 h1
    subst h1
    have hz := check_zero he
    refine fork (fun h2 => ?_) (fun h2 => ?_)
    · have hk : k = 2 := by simpa using h2
      obtain ⟨_, hw1, ht1, hx1, hx2, _, _⟩ : k = 2 ∧ oneT g w = true ∧ oneT g t = true ∧ 1 ≤ x ∧ x ≤ tags ∧ hasR g w false x = true ∧ hasR g t false x = false := by
        rcases hz with hz | hz
        · omega
        · exact hz
      have e1 : doN tags 0 k x = x := by unfold doN; rw [if_pos rfl, if_pos hk]
      have e2 : doTags tags 0 k = tags := if_neg fun hh => hh.2 hk
      have e3 : doG tags g 0 k w t x false = setR g t false x := by unfold doG; rw [if_pos rfl, if_pos hk]
      rw [e1, e2, e3]
      have hto := of_decide_eq_true ht1
      have rt1 : ∀ G : Heap, rd1 (.row (rgC g) :: G) 0 (0 + t.toNat * 2 + (if false = true then 1 else 0)) = some (u64 (maskOf g t false)) := fun G => mask_rd (tags := tags) ht1 false
      refine ⟨[0, 0, 0, 0, 0, 0, 0, 0, 0, 1, 1, 1, 0, 0, 2, 2, 2, 3], [[], [0], [0, 1], [0, 1, 2], [], [4], [0, 1, 2, 3, 4, 5], [], [7], [0, 1, 2, 3, 4, 5, 6, 7, 8], [0, 1, 2, 3, 4, 5, 6, 7, 8, 9], [0, 1, 2, 3, 4, 5, 6, 7, 8, 9, 10], [], [12], [0, 1, 2, 3, 4, 5, 6, 7, 8, 9, 12, 13], [0, 1, 2, 3, 4, 5, 6, 7, 8, 9, 10, 11, 12, 13, 14], [0, 1, 2, 3, 4, 5, 6, 7, 8, 9, 10, 11, 12, 13, 14, 15], [0, 1, 2, 3, 4, 5, 6, 7, 8, 9, 10, 11, 12, 13, 14, 15, 16]], [0, 0, 0, 0, 0, 0, 0, 0, 0, 0, 0, 0, 0, 0, 0, 0, 0, 0], [9, 14, 17], [[0], [17], [18], [19], [3], [21], [20, 22], [3], [24], [23, 25], [26], [27], [3], [29], [30], [28, 31], [26], [33, 32]], Ob.intro (by kernel_rfl) ?_⟩
      repeat first | refine same ?_ | refine Ob.intro hto ?_
      refine callH (H := tabH tags g ++ [.row [i64 k, i64 w, i64 t, u64 x, bo false]]) (atR_ok tags g (0 + t.toNat * 2) false) [0, 1] rfl ⟨.inl (by rw [hgo]; rfl), .inl rfl, True.intro⟩ rfl rfl (H' := tabH tags g ++ [.row [i64 k, i64 w, i64 t, u64 x, bo false]]) (by simp only [tabH, renH, hgo]; rfl) ?_
      repeat first | refine same ?_ | refine Ob.intro hto ?_ | refine optK_intro (rt1 _) ?_
      refine callP (bit_ok x hx) rfl rfl ?_
      repeat first | refine same ?_ | refine Ob.intro hto ?_ | refine optK_intro (rt1 _) ?_
      refine optK_intro (wr_rg (g := g) (who := t) (m := false) (x := x) ht1 (or64 (maskOf_lt hg t false) (bitS_lt x))) ?_
      repeat first | refine same ?_ | refine Ob.intro hto ?_
      refine endH rfl rfl rfl ⟨.inl rfl, .inl ?_, True.intro⟩ (Nat.le_refl 2) (belowH_tab tags (setR g t false x)) rfl
      unfold tabO
      rw [setR_len]
    · have hk : ¬ k = 2 := by simpa using h2
      obtain ⟨hk1, ht0, hx0, _, hw1, h16⟩ : k = 1 ∧ t = 0 ∧ x = 0 ∧ false = false ∧ oneT g w = true ∧ tags < 16 := by
        rcases hz with hz | hz
        · exact hz
        · exact absurd hz.1 hk
      have e1 : doN tags 0 k x = tags + 1 := by unfold doN; rw [if_pos rfl, if_neg hk]
      have e2 : doTags tags 0 k = tags + 1 := if_pos ⟨rfl, hk⟩
      have e3 : doG tags g 0 k w t x false = setR (setR g w false (tags + 1)) w true (tags + 1) := by unfold doG; rw [if_pos rfl, if_neg hk]
      rw [e1, e2, e3]
      have hinc : wrp .i64 ((tags : Int) + 1) = ((tags + 1 : Nat) : Int) := by rw [wrpE, wi64]; omega
      have hcv : wrp .u64 ((tags + 1 : Nat) : Int) = ((tags + 1 : Nat) : Int) := by rw [wrpE, wu64]; omega
      have hcc : wrp .u64 (wrp .i64 ((tags : Int) + 1)) = ((tags + 1 : Nat) : Int) := by rw [hinc, hcv]
      have hb := bit_ok (tags + 1) (by omega)
      rw [← hcc] at hb
      have hwo := of_decide_eq_true hw1
      have hg1 := setR_ok hg w false (tags + 1)
      have hw2 : oneT (setR g w false (tags + 1)) w = true := by rw [oneT_set]; exact hw1
      have rw1 : ∀ G : Heap, rd1 (.row (rgC g) :: G) 0 (0 + w.toNat * 2 + (if false = true then 1 else 0)) = some (u64 (maskOf g w false)) := fun G => mask_rd (tags := tags) hw1 false
      have rw2 : ∀ G : Heap, rd1 (.row (rgC (setR g w false (tags + 1))) :: G) 0 (0 + w.toNat * 2 + (if true = true then 1 else 0)) = some (u64 (maskOf (setR g w false (tags + 1)) w true)) := fun G => mask_rd (tags := tags) hw2 true
      refine ⟨[0, 0, 0, 0, 0, 0, 0, 0, 0, 0, 1, 1, 1, 1, 2], [[], [0], [0, 1], [0, 1, 2], [], [4], [0, 1, 2, 3, 4, 5], [0, 1, 2, 3, 4, 5, 6], [0, 1, 2, 3, 4, 5, 6, 7], [], [9], [0, 1, 2, 3, 4, 5, 6, 7, 8, 9, 10], [0, 1, 2, 3, 4, 5, 6, 7, 8, 9, 10, 11], [0, 1, 2, 3, 4, 5, 6, 7, 8, 9, 10, 11, 12], [0, 1, 2, 3, 4, 5, 6, 7, 8, 9, 10, 11, 12, 13]], [0, 0, 0, 0, 0, 0, 0, 0, 0, 0, 0, 0, 0, 0, 0], [10, 14], [[0], [48], [49], [50], [3], [52], [51, 53], [54], [55], [7], [57], [56, 58], [51, 53], [60], [61, 59]], Ob.intro (by kernel_rfl) ?_⟩
      repeat first | refine same ?_ | refine Ob.intro hwo ?_ | refine optK_intro (rw1 _) ?_
      refine callP hb rfl rfl ?_
      repeat first | refine same ?_ | refine Ob.intro hwo ?_ | refine optK_intro (rw1 _) ?_
      refine optK_intro (wr_rg (g := g) (who := w) (m := false) (x := tags + 1) hw1 (or64 (maskOf_lt hg w false) (bitS_lt (tags + 1)))) ?_
      repeat first | refine same ?_ | refine Ob.intro hwo ?_
      refine ⟨[0, 0, 0, 0, 0, 0, 0, 0, 0, 0, 1, 1, 1, 1, 2], [[], [0], [0, 1], [0, 1, 2], [], [4], [0, 1, 2, 3, 4, 5], [0, 1, 2, 3, 4, 5, 6], [0, 1, 2, 3, 4, 5, 6, 7], [], [9], [0, 1, 2, 3, 4, 5, 6, 7, 8, 9, 10], [0, 1, 2, 3, 4, 5, 6, 7, 8, 9, 10, 11], [0, 1, 2, 3, 4, 5, 6, 7, 8, 9, 10, 11, 12], [0, 1, 2, 3, 4, 5, 6, 7, 8, 9, 10, 11, 12, 13]], [0, 0, 0, 0, 0, 0, 0, 0, 0, 0, 0, 0, 0, 0, 0], [10, 14], [[0], [62], [63], [64], [3], [66], [65, 67], [68], [69], [7], [71], [70, 72], [65, 67], [74], [75, 73]], Ob.intro (by kernel_rfl) ?_⟩
      repeat first | refine same ?_ | refine Ob.intro hwo ?_ | refine optK_intro (rw2 _) ?_
      refine callP hb rfl rfl ?_
      repeat first | refine same ?_ | refine Ob.intro hwo ?_ | refine optK_intro (rw2 _) ?_
      refine optK_intro (wr_rg (g := setR g w false (tags + 1)) (who := w) (m := true) (x := tags + 1) hw2 (or64 (maskOf_lt hg1 w true) (bitS_lt (tags + 1)))) ?_
      repeat first | refine same ?_ | refine Ob.intro hwo ?_
      refine endH rfl rfl rfl ⟨.inl rfl, .inl ?_, True.intro⟩ (Nat.le_refl 2) (belowH_tab (tags + 1) (setR (setR g w false (tags + 1)) w true (tags + 1))) ?_
      · unfold tabO
        rw [setR_len, setR_len, ← hinc]
        rfl
      · rw [← hcc]
        rfl

theorem do_true (tags : Nat) (g : Rg) (k w t : Int) (x : Nat) (e : Int) (he : checkE tags g k w t x true = e) (hg : RgOk g) (ht : tags < 1000000) (hx : x < 18446744073709551616) :
    ACalls Try.prog 24 [.ptr 1 0, deed k w t x true] (tabH tags g) (RetH (.tup [u64 (doN tags e k x), i64 e]) (tabH (doTags tags e k) (doG tags g e k w t x true))) := by
  have hc := check_ok tags g k w t x true hg ht hx
  rw [he] at hc
  have hgo : ∀ (g : Rg) (f : Nat → Nat), renO f (.row (rgC g)) = .row (rgC g) := fun g f => renO_rg f g
  refine acalls_of_awp hT mixed Try.func24 rfl (by kernel_rfl) (by kernel_rfl) (Nat.le_of_ble_eq_true rfl) ?_
  refine callH hc [0, 1] rfl ⟨.inl (by rw [hgo]; rfl), .inl rfl, True.intro⟩ rfl rfl (H' := tabH tags g ++ [.row [i64 k, i64 w, i64 t, u64 x, bo true]]) (by simp only [tabH, renH, hgo]; rfl) ?_
  refine fork (fun h1 => ?_) (fun h1 => ?_)
  · have h1 : ¬ e = 0 := bne_iff_ne.1 h1
    have e1 : doN tags e k x = 0 := if_neg h1
    have e2 : doTags tags e k = tags := if_neg fun hh => h1 hh.1
    have e3 : doG tags g e k w t x true = g := if_neg h1
    rw [e1, e2, e3]
    refine endH rfl rfl rfl ⟨.inl rfl, .inl rfl, True.intro⟩ (Nat.le_refl 2) (belowH_tab tags g) rfl
  · have h1 : e = 0 := bne_eq_false_iff_eq.1 h1
    subst h1
    have hz := check_zero he
    refine fork (fun h2 => ?_) (fun h2 => ?_)
    · have hk : k = 2 := by simpa using h2
      obtain ⟨_, hw1, ht1, hx1, hx2, _, _⟩ : k = 2 ∧ oneT g w = true ∧ oneT g t = true ∧ 1 ≤ x ∧ x ≤ tags ∧ hasR g w true x = true ∧ hasR g t true x = false := by
        rcases hz with hz | hz
        · omega
        · exact hz
      have e1 : doN tags 0 k x = x := by unfold doN; rw [if_pos rfl, if_pos hk]
      have e2 : doTags tags 0 k = tags := if_neg fun hh => hh.2 hk
      have e3 : doG tags g 0 k w t x true = setR g t true x := by unfold doG; rw [if_pos rfl, if_pos hk]
      rw [e1, e2, e3]
      have hto := of_decide_eq_true ht1
      have rt1 : ∀ G : Heap, rd1 (.row (rgC g) :: G) 0 (0 + t.toNat * 2 + (if true = true then 1 else 0)) = some (u64 (maskOf g t true)) := fun G => mask_rd (tags := tags) ht1 true
      refine ⟨[0, 0, 0, 0, 0, 0, 0, 0, 0, 1, 1, 1, 0, 0, 2, 2, 2, 3], [[], [0], [0, 1], [0, 1, 2], [], [4], [0, 1, 2, 3, 4, 5], [], [7], [0, 1, 2, 3, 4, 5, 6, 7, 8], [0, 1, 2, 3, 4, 5, 6, 7, 8, 9], [0, 1, 2, 3, 4, 5, 6, 7, 8, 9, 10], [], [12], [0, 1, 2, 3, 4, 5, 6, 7, 8, 9, 12, 13], [0, 1, 2, 3, 4, 5, 6, 7, 8, 9, 10, 11, 12, 13, 14], [0, 1, 2, 3, 4, 5, 6, 7, 8, 9, 10, 11, 12, 13, 14, 15], [0, 1, 2, 3, 4, 5, 6, 7, 8, 9, 10, 11, 12, 13, 14, 15, 16]], [0, 0, 0, 0, 0, 0, 0, 0, 0, 0, 0, 0, 0, 0, 0, 0, 0, 0], [9, 14, 17], [[0], [17], [18], [19], [3], [21], [20, 22], [3], [24], [23, 25], [26], [27], [3], [29], [30], [28, 31], [26], [33, 32]], Ob.intro (by kernel_rfl) ?_⟩
      repeat first | refine same ?_ | refine Ob.intro hto ?_
      refine callH (H := tabH tags g ++ [.row [i64 k, i64 w, i64 t, u64 x, bo true]]) (atR_ok tags g (0 + t.toNat * 2) true) [0, 1] rfl ⟨.inl (by rw [hgo]; rfl), .inl rfl, True.intro⟩ rfl rfl (H' := tabH tags g ++ [.row [i64 k, i64 w, i64 t, u64 x, bo true]]) (by simp only [tabH, renH, hgo]; rfl) ?_
      repeat first | refine same ?_ | refine Ob.intro hto ?_ | refine optK_intro (rt1 _) ?_
      refine callP (bit_ok x hx) rfl rfl ?_
      repeat first | refine same ?_ | refine Ob.intro hto ?_ | refine optK_intro (rt1 _) ?_
      refine optK_intro (wr_rg (g := g) (who := t) (m := true) (x := x) ht1 (or64 (maskOf_lt hg t true) (bitS_lt x))) ?_
      repeat first | refine same ?_ | refine Ob.intro hto ?_
      refine endH rfl rfl rfl ⟨.inl rfl, .inl ?_, True.intro⟩ (Nat.le_refl 2) (belowH_tab tags (setR g t true x)) rfl
      unfold tabO
      rw [setR_len]
    · have hk : ¬ k = 2 := by simpa using h2
      rcases hz with hz | hz
      · cases hz.2.2.2.1
      · exact absurd hz.1 hk

end Go.Proofs.Ytkbpddejafdmdaa.A
