/- Bytes in order: keys stand as places do. No condition. -/
import Derived.Test.YtdjpcmlnhkiokaaNn
namespace Go.Proofs.Ytdjpcmlnhkiokaa.A
open Go
set_option linter.unusedVariables false
set_option maxRecDepth 100000
set_option pp.maxSteps 1500

theorem bytesLess_val : ∀ (l m : List UInt8) (a b : Nat), l.length = m.length → Op.bytesLess l m = true → a ≤ b → l.foldl (fun p c => p * 256 + c.toNat) a < m.foldl (fun p c => p * 256 + c.toNat) b
  | [], [], a, b, _, h, hab => by cases h
  | [], _ :: _, _, _, h, _, _ => by cases h
  | _ :: _, [], _, _, h, _, _ => by cases h
  | x :: l, y :: m, a, b, hl0, h, hab => by
    have hl : l.length = m.length := by simpa using hl0
    simp only [Op.bytesLess, Bool.or_eq_true, Bool.and_eq_true, decide_eq_true_eq, beq_iff_eq] at h
    simp only [List.foldl]
    rcases h with h | ⟨h1, h2⟩
    · have hx : x.toNat < y.toNat := h
      have key : ∀ (l m : List UInt8) (a b : Nat), l.length = m.length → a < b → l.foldl (fun p c => p * 256 + c.toNat) a < m.foldl (fun p c => p * 256 + c.toNat) b := by
        intro l
        induction l with
        | nil => intro m a b hl hab; cases m with
          | nil => exact hab
          | cons _ _ => cases hl
        | cons x l ih => intro m a b hl hab; cases m with
          | nil => cases hl
          | cons y m =>
            simp only [List.foldl]
            have := x.toNat_lt
            exact ih m _ _ (by simpa using hl) (by omega)
      exact key l m _ _ hl (by omega)
    · subst h1
      exact bytesLess_val l m _ _ hl h2 (by omega)
theorem bytesLess_irr : ∀ (l : List UInt8), Op.bytesLess l l = false
  | [] => rfl
  | x :: l => by simp [Op.bytesLess, bytesLess_irr l]
theorem bytesLess_tri : ∀ (l m : List UInt8), l.length = m.length → Op.bytesLess l m = true ∨ l = m ∨ Op.bytesLess m l = true
  | [], [], _ => .inr (.inl rfl)
  | [], _ :: _, h => by cases h
  | _ :: _, [], h => by cases h
  | x :: l, y :: m, h => by
    have hl : l.length = m.length := by simpa using h
    simp only [Op.bytesLess, Bool.or_eq_true, Bool.and_eq_true, decide_eq_true_eq, beq_iff_eq]
    rcases UInt8.lt_or_lt_of_ne (a := x) (b := y) |> fun f => (Decidable.em (x = y)).imp id f with h1 | h1 | h1
    · subst h1
      rcases bytesLess_tri l m hl with h2 | h2 | h2
      · exact .inl (.inr ⟨rfl, h2⟩)
      · exact .inr (.inl (by rw [h2]))
      · exact .inr (.inr (.inr ⟨rfl, h2⟩))
    · exact .inl (.inl h1)
    · exact .inr (.inr (.inl h1))
theorem bytesLess_valL {l m : List UInt8} (h : l.length = m.length) : Op.bytesLess l m = decide (valL l < valL m) := by
  rcases bytesLess_tri l m h with h1 | h1 | h1
  · rw [h1]
    exact (decide_eq_true (bytesLess_val l m 0 0 h h1 (Nat.le_refl 0))).symm
  · subst h1
    rw [bytesLess_irr]
    exact (decide_eq_false (Nat.lt_irrefl _)).symm
  · have h2 : valL m < valL l := bytesLess_val m l 0 0 h.symm h1 (Nat.le_refl 0)
    rw [decide_eq_false (by omega)]
    cases hq : Op.bytesLess l m
    · rfl
    · have h3 : valL l < valL m := bytesLess_val l m 0 0 h hq (Nat.le_refl 0)
      omega
theorem strLt_eq (x y : ByteArray) : strLt x y = Op.bytesLess x.data.toList y.data.toList := by rw [strLt, ByteArray.toList_eq, ByteArray.toList_eq]
theorem keyLt {p q : Nat} (hp : p < 18446744073709551616) (hq : q < 18446744073709551616) : strLt ⟨(keyL p).toArray⟩ ⟨(keyL q).toArray⟩ = decide (p < q) := by
  rw [strLt_eq]
  show Op.bytesLess (keyL p) (keyL q) = _
  rw [bytesLess_valL (l := keyL p) (m := keyL q) rfl, valL_keyL hp, valL_keyL hq]
theorem keyEq {p q : Nat} (hp : p < 18446744073709551616) (hq : q < 18446744073709551616) : strEq ⟨(keyL p).toArray⟩ ⟨(keyL q).toArray⟩ = decide (p = q) := by
  rw [strEq_eq]
  show ((keyL p) == (keyL q)) = _
  by_cases h : p = q
  · subst h
    simp
  · rw [decide_eq_false h]
    simp only [beq_eq_false_iff_ne, ne_eq]
    intro he
    have := congrArg valL he
    rw [valL_keyL hp, valL_keyL hq] at this
    exact h this
/-- Which one stands ahead. -/
def cmpI (x y : Nat) : Int := if x < y then -1 else if y < x then 1 else 0
theorem isNaNu_ok (n : Int) : ACalls Try.prog 49 [u64 n] [] (Ret (bo false)) := by
  refine acalls_of_awp hT mixed Try.func49 rfl (by kernel_rfl) (by kernel_rfl) (Nat.le_of_ble_eq_true rfl) ?_
  refine fork (fun h => ?_) (fun h => ?_)
  · simp at h
  · refine end0 rfl rfl rfl rfl
theorem compareU_ok (x y : Nat) : ACalls Try.prog 46 [u64 x, u64 y] [] (Ret (i64 (cmpI x y))) := by
  refine acalls_of_awp hT mixed Try.func46 rfl (by kernel_rfl) (by kernel_rfl) (Nat.le_of_ble_eq_true rfl) ?_
  refine callP (isNaNu_ok x) rfl rfl ?_
  refine callP (isNaNu_ok y) rfl rfl ?_
  refine forkD (fun h => ?_) (fun h => ?_)
  · refine end0 rfl rfl rfl (congrArg i64 ?_)
    simp only [cmpI]
    rw [if_pos (by omega)]
  · refine forkD (fun h1 => ?_) (fun h1 => ?_)
    · refine end0 rfl rfl rfl (congrArg i64 ?_)
      simp only [cmpI]
      rw [if_neg (by omega), if_pos (by omega)]
    · refine end0 rfl rfl rfl (congrArg i64 ?_)
      simp only [cmpI]
      rw [if_neg (by omega), if_neg (by omega)]
theorem order_ok (a b : Nat) (ha : a < 18446744073709551616) (hb : b < 18446744073709551616) : ACalls Try.prog 42 [fl a, fl b] [] (Ret (i64 (cmpI (placeB a) (placeB b)))) := by
  refine acalls_of_awp hT mixed Try.func42 rfl (by kernel_rfl) (by kernel_rfl) (Nat.le_of_ble_eq_true rfl) ?_
  refine callP (place_ok a ha) rfl rfl ?_
  refine callP (place_ok b hb) rfl rfl ?_
  refine callP (compareU_ok _ _) rfl rfl ?_
  refine end0 rfl rfl rfl rfl
theorem placeB_inj {a b : Nat} (ha : a < 18446744073709551616) (hb : b < 18446744073709551616) : placeB a = placeB b ↔ bitsB a = bitsB b := by
  constructor
  · intro h
    rw [← atB_place ha, ← atB_place hb, h]
  · intro h
    have key : ∀ {c : Nat}, placeB (bitsB c) = placeB c := fun {c} => by
      unfold bitsB
      cases hn : nanB c
      · simp
      · have hc : nanB 9221120237041090561 = true := by decide
        simp [placeB, hn, hc]
    rw [← key (c := a), ← key (c := b), h]
end Go.Proofs.Ytdjpcmlnhkiokaa.A
