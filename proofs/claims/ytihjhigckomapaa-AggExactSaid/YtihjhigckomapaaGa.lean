/- The functions of agg: adding. No condition. -/
import Derived.Test.YtihjhigckomapaaNs
import Derived.Test.YtihjhigckomapaaOu
namespace Go.Proofs.Ytihjhigckomapaa.A
open Go
set_option linter.unusedVariables false
set_option maxRecDepth 100000
set_option pp.maxSteps 1500

/-- A number, or none. -/
def flo : Option Nat → AV
  | none => .nan .f64
  | some b => fl b
def adr (c : Nat) (s : Option Nat) (lo hi : Nat) : List AV := [i64 c, flo s, fl lo, fl hi]
noncomputable def addS (s : Option Nat) (x : Nat) : Option Nat := s.bind fun y => fari .add .f64 y x
def lowS (c lo x : Nat) : Nat := if c = 0 ∨ placeB x < placeB lo then x else lo
def highS (c hi x : Nat) : Nat := if c = 0 ∨ placeB hi < placeB x then x else hi
theorem cmpI_neg (x y : Nat) : cmpI x y < 0 ↔ x < y := by
  unfold cmpI
  split
  · omega
  · split <;> omega
theorem cmpI_pos (x y : Nat) : cmpI x y > 0 ↔ y < x := by
  unfold cmpI
  split
  · omega
  · split <;> omega
theorem adrE {c : Nat} {i : Int} {s : Option Nat} {l l' h h' : Nat} (h1 : ((c : Nat) : Int) = i) (h2 : l = l') (h3 : h = h') : AObj.row (adr c s l h) = AObj.row [i64 i, flo s, fl l', fl h'] := by
  subst h1 h2 h3
  rfl
theorem add_ok (c : Nat) (s s' : Option Nat) (lo hi x : Nat) (hc : c < 1000000) (hlo : lo < 18446744073709551616) (hhi : hi < 18446744073709551616) (hx : x < 18446744073709551616) (hs : addS s x = s') :
    ACalls Try.prog 12 [.ptr 0 0, fl x] [.row (adr c s lo hi)] (RetH (i64 0) [.row (adr (c + 1) s' (lowS c lo x) (highS c hi x))]) := by
  have ol := order_ok x lo hx hlo
  have oh := order_ok x hi hx hhi
  have e1 : wrp .i64 ((c : Int) + 1) = ((c + 1 : Nat) : Int) := by rw [wrpE, wi64]; omega
  have nl := cmpI_neg (placeB x) (placeB lo)
  have nh := cmpI_pos (placeB x) (placeB hi)
  generalize cmpI (placeB x) (placeB lo) = u at *
  generalize cmpI (placeB x) (placeB hi) = v at *
  cases s with
  | none =>
    cases s' with
    | none =>
      refine acalls_of_awp hT mixed Try.func12 rfl (by kernel_rfl) (by kernel_rfl) (Nat.le_of_ble_eq_true rfl) ?_
      refine fork (fun h1 => ?_) (fun h1 => ?_)
      · refine fork (fun h2 => ?_) (fun h2 => by rw [h1] at h2; cases h2)
        have h1 : (c : Int) = 0 := by simpa using h1
        refine endH rfl rfl rfl ⟨.inl (adrE e1.symm ?_ ?_), True.intro⟩ (Nat.le_refl 1) rfl rfl
        · unfold lowS; first | rw [if_pos (by omega)] | rw [if_neg (by omega)]
        · unfold highS; first | rw [if_pos (by omega)] | rw [if_neg (by omega)]
      · refine callP ol rfl rfl ?_
        have g1 : ¬ (c : Int) = 0 := by simpa using h1
        refine forkD (fun h2 => ?_) (fun h2 => ?_)
        · refine fork (fun h3 => by rw [h1] at h3; cases h3) (fun h3 => ?_)
          refine callP oh rfl rfl ?_
          refine forkD (fun h4 => ?_) (fun h4 => ?_)
          · skip
            refine endH rfl rfl rfl ⟨.inl (adrE e1.symm ?_ ?_), True.intro⟩ (Nat.le_refl 1) rfl rfl
            · unfold lowS; first | rw [if_pos (by omega)] | rw [if_neg (by omega)]
            · unfold highS; first | rw [if_pos (by omega)] | rw [if_neg (by omega)]
          · skip
            refine endH rfl rfl rfl ⟨.inl (adrE e1.symm ?_ ?_), True.intro⟩ (Nat.le_refl 1) rfl rfl
            · unfold lowS; first | rw [if_pos (by omega)] | rw [if_neg (by omega)]
            · unfold highS; first | rw [if_pos (by omega)] | rw [if_neg (by omega)]
        · refine fork (fun h3 => by rw [h1] at h3; cases h3) (fun h3 => ?_)
          refine callP oh rfl rfl ?_
          refine forkD (fun h4 => ?_) (fun h4 => ?_)
          · skip
            refine endH rfl rfl rfl ⟨.inl (adrE e1.symm ?_ ?_), True.intro⟩ (Nat.le_refl 1) rfl rfl
            · unfold lowS; first | rw [if_pos (by omega)] | rw [if_neg (by omega)]
            · unfold highS; first | rw [if_pos (by omega)] | rw [if_neg (by omega)]
          · skip
            refine endH rfl rfl rfl ⟨.inl (adrE e1.symm ?_ ?_), True.intro⟩ (Nat.le_refl 1) rfl rfl
            · unfold lowS; first | rw [if_pos (by omega)] | rw [if_neg (by omega)]
            · unfold highS; first | rw [if_pos (by omega)] | rw [if_neg (by omega)]
    | some r => cases hs
  | some y =>
    replace hs : fari .add .f64 y x = s' := hs
    cases s' with
    | none =>
      refine acalls_of_awp hT mixed Try.func12 rfl (by kernel_rfl) (by kernel_rfl) (Nat.le_of_ble_eq_true rfl) ?_
      refine fork (fun h1 => ?_) (fun h1 => ?_)
      · refine fork (fun h2 => ?_) (fun h2 => by rw [h1] at h2; cases h2)
        have h1 : (c : Int) = 0 := by simpa using h1
        refine forO (fun hq => ?_) (fun r hq => by rw [hs] at hq; cases hq)
        refine endH rfl rfl rfl ⟨.inl (adrE e1.symm ?_ ?_), True.intro⟩ (Nat.le_refl 1) rfl rfl
        · unfold lowS; first | rw [if_pos (by omega)] | rw [if_neg (by omega)]
        · unfold highS; first | rw [if_pos (by omega)] | rw [if_neg (by omega)]
      · refine callP ol rfl rfl ?_
        have g1 : ¬ (c : Int) = 0 := by simpa using h1
        refine forkD (fun h2 => ?_) (fun h2 => ?_)
        · refine fork (fun h3 => by rw [h1] at h3; cases h3) (fun h3 => ?_)
          refine callP oh rfl rfl ?_
          refine forkD (fun h4 => ?_) (fun h4 => ?_)
          · refine forO (fun hq => ?_) (fun r hq => by rw [hs] at hq; cases hq)
            refine endH rfl rfl rfl ⟨.inl (adrE e1.symm ?_ ?_), True.intro⟩ (Nat.le_refl 1) rfl rfl
            · unfold lowS; first | rw [if_pos (by omega)] | rw [if_neg (by omega)]
            · unfold highS; first | rw [if_pos (by omega)] | rw [if_neg (by omega)]
          · refine forO (fun hq => ?_) (fun r hq => by rw [hs] at hq; cases hq)
            refine endH rfl rfl rfl ⟨.inl (adrE e1.symm ?_ ?_), True.intro⟩ (Nat.le_refl 1) rfl rfl
            · unfold lowS; first | rw [if_pos (by omega)] | rw [if_neg (by omega)]
            · unfold highS; first | rw [if_pos (by omega)] | rw [if_neg (by omega)]
        · refine fork (fun h3 => by rw [h1] at h3; cases h3) (fun h3 => ?_)
          refine callP oh rfl rfl ?_
          refine forkD (fun h4 => ?_) (fun h4 => ?_)
          · refine forO (fun hq => ?_) (fun r hq => by rw [hs] at hq; cases hq)
            refine endH rfl rfl rfl ⟨.inl (adrE e1.symm ?_ ?_), True.intro⟩ (Nat.le_refl 1) rfl rfl
            · unfold lowS; first | rw [if_pos (by omega)] | rw [if_neg (by omega)]
            · unfold highS; first | rw [if_pos (by omega)] | rw [if_neg (by omega)]
          · refine forO (fun hq => ?_) (fun r hq => by rw [hs] at hq; cases hq)
            refine endH rfl rfl rfl ⟨.inl (adrE e1.symm ?_ ?_), True.intro⟩ (Nat.le_refl 1) rfl rfl
            · unfold lowS; first | rw [if_pos (by omega)] | rw [if_neg (by omega)]
            · unfold highS; first | rw [if_pos (by omega)] | rw [if_neg (by omega)]
    | some r =>
      refine acalls_of_awp hT mixed Try.func12 rfl (by kernel_rfl) (by kernel_rfl) (Nat.le_of_ble_eq_true rfl) ?_
      refine fork (fun h1 => ?_) (fun h1 => ?_)
      · refine fork (fun h2 => ?_) (fun h2 => by rw [h1] at h2; cases h2)
        have h1 : (c : Int) = 0 := by simpa using h1
        refine forO (fun hq => by rw [hs] at hq; cases hq) (fun r2 hq => ?_)
        obtain rfl : r = r2 := by rw [hs] at hq; exact Option.some.inj hq
        refine endH rfl rfl rfl ⟨.inl (adrE e1.symm ?_ ?_), True.intro⟩ (Nat.le_refl 1) rfl rfl
        · unfold lowS; first | rw [if_pos (by omega)] | rw [if_neg (by omega)]
        · unfold highS; first | rw [if_pos (by omega)] | rw [if_neg (by omega)]
      · refine callP ol rfl rfl ?_
        have g1 : ¬ (c : Int) = 0 := by simpa using h1
        refine forkD (fun h2 => ?_) (fun h2 => ?_)
        · refine fork (fun h3 => by rw [h1] at h3; cases h3) (fun h3 => ?_)
          refine callP oh rfl rfl ?_
          refine forkD (fun h4 => ?_) (fun h4 => ?_)
          · refine forO (fun hq => by rw [hs] at hq; cases hq) (fun r2 hq => ?_)
            obtain rfl : r = r2 := by rw [hs] at hq; exact Option.some.inj hq
            refine endH rfl rfl rfl ⟨.inl (adrE e1.symm ?_ ?_), True.intro⟩ (Nat.le_refl 1) rfl rfl
            · unfold lowS; first | rw [if_pos (by omega)] | rw [if_neg (by omega)]
            · unfold highS; first | rw [if_pos (by omega)] | rw [if_neg (by omega)]
          · refine forO (fun hq => by rw [hs] at hq; cases hq) (fun r2 hq => ?_)
            obtain rfl : r = r2 := by rw [hs] at hq; exact Option.some.inj hq
            refine endH rfl rfl rfl ⟨.inl (adrE e1.symm ?_ ?_), True.intro⟩ (Nat.le_refl 1) rfl rfl
            · unfold lowS; first | rw [if_pos (by omega)] | rw [if_neg (by omega)]
            · unfold highS; first | rw [if_pos (by omega)] | rw [if_neg (by omega)]
        · refine fork (fun h3 => by rw [h1] at h3; cases h3) (fun h3 => ?_)
          refine callP oh rfl rfl ?_
          refine forkD (fun h4 => ?_) (fun h4 => ?_)
          · refine forO (fun hq => by rw [hs] at hq; cases hq) (fun r2 hq => ?_)
            obtain rfl : r = r2 := by rw [hs] at hq; exact Option.some.inj hq
            refine endH rfl rfl rfl ⟨.inl (adrE e1.symm ?_ ?_), True.intro⟩ (Nat.le_refl 1) rfl rfl
            · unfold lowS; first | rw [if_pos (by omega)] | rw [if_neg (by omega)]
            · unfold highS; first | rw [if_pos (by omega)] | rw [if_neg (by omega)]
          · refine forO (fun hq => by rw [hs] at hq; cases hq) (fun r2 hq => ?_)
            obtain rfl : r = r2 := by rw [hs] at hq; exact Option.some.inj hq
            refine endH rfl rfl rfl ⟨.inl (adrE e1.symm ?_ ?_), True.intro⟩ (Nat.le_refl 1) rfl rfl
            · unfold lowS; first | rw [if_pos (by omega)] | rw [if_neg (by omega)]
            · unfold highS; first | rw [if_pos (by omega)] | rw [if_neg (by omega)]
end Go.Proofs.Ytihjhigckomapaa.A
