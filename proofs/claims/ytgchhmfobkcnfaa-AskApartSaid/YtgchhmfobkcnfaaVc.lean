/- The functions of value that are told by values alone. No condition. -/
import Derived.Test.YtgchhmfobkcnfaaNo
import Derived.Lib.Bytealg
namespace Go.Proofs.Ytgchhmfobkcnfaa.A
open Go
set_option linter.unusedVariables false
set_option maxRecDepth 100000
set_option pp.maxSteps 1500

/-- A value: is it a number, its text, its bits. -/
def val (n : Bool) (t : ByteArray) (b : Nat) : AV := .agg [bo n, str t, u64 b]
/-- May it be? -/
def rightV (n : Bool) (t : ByteArray) (b : Nat) : Bool := bif n then decide (t.size = 0 ∧ bitsB b = b) else decide (b = 0 ∧ t.size ≤ 64)
theorem strEq_nil (t : ByteArray) : strEq t ⟨#[]⟩ = decide (t.size = 0) := by
  rw [strEq_eq]
  show (t.data.toList == []) = decide (t.data.size = 0)
  rw [Bool.eq_iff_iff, beq_iff_eq, decide_eq_true_eq, ← Array.length_toList]
  exact List.length_eq_zero_iff.symm
theorem vright_ok (n : Bool) (t : ByteArray) (b : Nat) : ACalls Try.prog 52 [val n t b] [] (Ret (bo (rightV n t b))) := by
  cases n
  · refine acalls_of_awp hT mixed Try.func52 rfl (by kernel_rfl) (by kernel_rfl) (Nat.le_of_ble_eq_true rfl) ?_
    refine fork (fun h => ?_) (fun h => ?_)
    · have h : b = 0 := by simpa using h
      refine forkD (fun h2 => ?_) (fun h2 => ?_)
      · refine end0 rfl rfl rfl (congrArg bo ?_)
        exact (decide_eq_true ⟨h, by omega⟩).symm
      · refine end0 rfl rfl rfl (congrArg bo ?_)
        exact (decide_eq_false fun hh => by omega).symm
    · have h : ¬ b = 0 := by simpa using h
      refine end0 rfl rfl rfl (congrArg bo ?_)
      exact (decide_eq_false fun hh => h hh.1).symm
  · refine acalls_of_awp hT mixed Try.func52 rfl (by kernel_rfl) (by kernel_rfl) (Nat.le_of_ble_eq_true rfl) ?_
    refine ⟨[0, 0, 0, 0, 0, 0, 1, 2, 0, 0, 2, 2, 2], [[], [0], [0, 1], [0, 1, 2], [0, 1, 2, 3], [0, 1, 2, 3, 4], [0, 1, 2, 3, 4, 5], [0, 1, 2, 3, 4, 5, 6], [0, 1, 2, 3], [0, 1, 2, 3, 8], [0, 1, 2, 3, 4, 5, 6, 7, 8, 9], [0, 1, 2, 3, 4, 5, 6, 7, 8, 9, 10], [0, 1, 2, 3, 4, 5, 6, 7, 8, 9, 10, 11]], [0, 0, 0, 0, 0, 0, 0, 0, 0, 0, 0, 0, 0], [6, 7], [[1], [5], [6], [7], [1, 8], [9, 8], [10, 8], [11, 8], [1, 8], [13, 8], [12, 14, 8], [8, 15], [16]], Ob.intro (by kernel_rfl) ?_⟩
    refine fork (fun h => ?_) (fun h => ?_)
    · repeat refine same ?_
      refine callP (from_ok b) rfl rfl ?_
      repeat refine same ?_
      refine callP (bits_ok _) rfl rfl ?_
      refine fork (fun h2 => ?_) (fun h2 => ?_)
      · repeat refine same ?_
        refine end0 rfl rfl rfl (congrArg bo ?_)
        rw [strEq_nil] at h
        rw [bitsB_bitsB, beq_iff_eq] at h2
        exact (decide_eq_true ⟨of_decide_eq_true h, by omega⟩).symm
      · repeat refine same ?_
        refine end0 rfl rfl rfl (congrArg bo ?_)
        rw [bitsB_bitsB, beq_eq_false_iff_ne] at h2
        exact (decide_eq_false fun hh => h2 (by rw [hh.2])).symm
    · repeat refine same ?_
      refine end0 rfl rfl rfl (congrArg bo ?_)
      rw [strEq_nil] at h
      exact (decide_eq_false fun hh => of_decide_eq_false h hh.1).symm
end Go.Proofs.Ytgchhmfobkcnfaa.A

namespace Go.Proofs.Ytgchhmfobkcnfaa.A
open Go
set_option linter.unusedVariables false
set_option maxRecDepth 100000
set_option pp.maxSteps 1500

def nilT : ByteArray := ⟨#[]⟩
theorem vnumber_ok (b : Nat) : ACalls Try.prog 105 [fl b] [] (Ret (val true nilT (bitsB b))) := by
  refine acalls_of_awp hT mixed Try.func105 rfl (by kernel_rfl) (by kernel_rfl) (Nat.le_of_ble_eq_true rfl) ?_
  refine callP (bits_ok b) rfl rfl ?_
  refine end0 rfl rfl rfl rfl
/-- Its bytes. -/
def packV (n : Bool) (t : ByteArray) (b : Nat) : ByteArray := bif n then ⟨#[1]⟩ ++ ⟨(keyL (placeB b)).toArray⟩ else ⟨#[0]⟩ ++ t
theorem right_bits {t : ByteArray} {b : Nat} (h : rightV true t b = true) : t.size = 0 ∧ bitsB b = b := of_decide_eq_true h
theorem right_text {t : ByteArray} {b : Nat} (h : rightV false t b = true) : b = 0 ∧ t.size ≤ 64 := of_decide_eq_true h
theorem pack_ok (n : Bool) (t : ByteArray) (b : Nat) (hb : b < 18446744073709551616) : ACalls Try.prog 71 [val n t b] [] (Ret (if rightV n t b = true then .tup [str (packV n t b), i64 0] else .tup [str nilT, i64 1])) := by
  cases n
  · refine acalls_of_awp hT mixed Try.func71 rfl (by kernel_rfl) (by kernel_rfl) (Nat.le_of_ble_eq_true rfl) ?_
    refine callP (vright_ok false t b) rfl rfl ?_
    refine fork (fun h => ?_) (fun h => ?_)
    · have hr := right_text h
      refine Ob.intro (show (ByteArray.size ⟨#[0]⟩) + t.size ≤ 9223372036854775807 from ?_) ?_
      · have : ByteArray.size ⟨#[0]⟩ = 1 := rfl
        omega
      refine end0 rfl rfl rfl ?_
      rw [if_pos h]
      rfl
    · refine end0 rfl rfl rfl ?_
      rw [if_neg (by rw [h]; decide)]
      rfl
  · refine acalls_of_awp hT mixed Try.func71 rfl (by kernel_rfl) (by kernel_rfl) (Nat.le_of_ble_eq_true rfl) ?_
    refine callP (vright_ok true t b) rfl rfl ?_
    refine fork (fun h => ?_) (fun h => ?_)
    · have hr := right_bits h
      refine callP (from_ok b) rfl rfl ?_
      refine callP (key_ok _ (bitsB_lt hb)) rfl rfl ?_
      refine Ob.intro (show (ByteArray.size ⟨#[1]⟩) + (ByteArray.size ⟨(keyL (placeB (bitsB b))).toArray⟩) ≤ 9223372036854775807 from ?_) ?_
      · show 1 + 8 ≤ _
        decide
      refine end0 rfl rfl rfl ?_
      rw [if_pos h, hr.2]
      rfl
    · refine end0 rfl rfl rfl ?_
      rw [if_neg (by rw [h]; decide)]
      rfl
end Go.Proofs.Ytgchhmfobkcnfaa.A

namespace Go.Proofs.Ytgchhmfobkcnfaa.A
open Go
set_option linter.unusedVariables false
set_option maxRecDepth 100000
set_option pp.maxSteps 1500

theorem exl (s : ByteArray) (i j : Nat) : (s.extract i j).data.toList = (s.data.toList.drop i).take (j - i) := by
  rw [ByteArray.data_extract, Array.toList_extract, List.extract_eq_take_drop]
theorem apl (a b : ByteArray) : (a ++ b).data.toList = a.data.toList ++ b.data.toList := by
  rw [ByteArray.data_append, Array.toList_append]
theorem ba_ext {a b : ByteArray} (h : a.data.toList = b.data.toList) : a = b := by
  obtain ⟨⟨x⟩⟩ := a
  obtain ⟨⟨y⟩⟩ := b
  have : x = y := h
  rw [this]
theorem size_list (s : ByteArray) : s.data.toList.length = s.size := by simp
theorem bl_tri : ∀ l m : List UInt8, (Op.bytesLess l m = true ∧ l ≠ m ∧ Op.bytesLess m l = false) ∨ (l = m ∧ Op.bytesLess l m = false ∧ Op.bytesLess m l = false) ∨ (Op.bytesLess m l = true ∧ l ≠ m ∧ Op.bytesLess l m = false)
  | [], [] => .inr (.inl ⟨rfl, rfl, rfl⟩)
  | [], _ :: _ => .inl ⟨rfl, by simp, rfl⟩
  | _ :: _, [] => .inr (.inr ⟨rfl, by simp, rfl⟩)
  | x :: l, y :: m => by
    simp only [Op.bytesLess, Bool.or_eq_true, Bool.and_eq_true, decide_eq_true_eq, beq_iff_eq, Bool.or_eq_false_iff, decide_eq_false_iff_not, Bool.and_eq_false_iff, beq_eq_false_iff_ne, ne_eq, List.cons.injEq]
    have key : x < y ∨ x = y ∨ y < x := by
      rcases Nat.lt_trichotomy x.toNat y.toNat with h | h | h
      · exact .inl h
      · exact .inr (.inl (UInt8.toNat_inj.1 h))
      · exact .inr (.inr h)
    have asym : ∀ {a b : UInt8}, a < b → ¬ b < a ∧ a ≠ b := fun {a b} h => ⟨fun h2 => by
      have h1 : a.toNat < b.toNat := h
      have h2 : b.toNat < a.toNat := h2
      omega, fun he => by
      have h1 : a.toNat < b.toNat := h
      rw [he] at h1; omega⟩
    rcases key with h | h | h
    · have := asym h
      exact .inl ⟨.inl h, fun he => this.2 he.1, this.1, .inl (fun he => this.2 he.symm)⟩
    · subst h
      have hx : ¬ x < x := fun h => (asym h).1 h
      rcases bl_tri l m with ⟨h1, h2, h3⟩ | ⟨h1, h2, h3⟩ | ⟨h1, h2, h3⟩
      · exact .inl ⟨.inr ⟨rfl, h1⟩, fun he => h2 he.2, hx, .inr h3⟩
      · exact .inr (.inl ⟨⟨rfl, h1⟩, ⟨hx, .inr h2⟩, hx, .inr h3⟩)
      · exact .inr (.inr ⟨.inr ⟨rfl, h1⟩, fun he => h2 he.2, hx, .inr h3⟩)
    · have := asym h
      exact .inr (.inr ⟨.inl h, fun he => this.2 he.1.symm, this.1, .inl (fun he => this.2 he.symm)⟩)
/-! ### A first byte -/
def hd1 (c : UInt8) (s : ByteArray) : Bool := s.data.toList.head? == some c
theorem hd1_size {c : UInt8} {s : ByteArray} (h : hd1 c s = true) : 1 ≤ s.size := by
  rw [← size_list]
  simp only [hd1, beq_iff_eq] at h
  cases hl : s.data.toList with
  | nil => rw [hl] at h; cases h
  | cons _ _ => simp
theorem hd1_eq (c : UInt8) (s : ByteArray) : strEq (s.extract 0 1) ⟨#[c]⟩ = hd1 c s := by
  rw [strEq_eq, exl]
  show ((s.data.toList.drop 0).take 1 == [c]) = (s.data.toList.head? == some c)
  cases s.data.toList with
  | nil => rfl
  | cons x l => simp
theorem hasPrefix1_ok (c : UInt8) (s : ByteArray) : ACalls Try.prog 114 [str s, str ⟨#[c]⟩] [] (Ret (bo (hd1 c s))) := by
  refine acalls_of_awp hT mixed Try.func114 rfl (by kernel_rfl) (by kernel_rfl) (Nat.le_of_ble_eq_true rfl) ?_
  refine forkD (fun h => ?_) (fun h => ?_)
  · have h : (s.size : Int) ≥ 1 := h
    refine Ob.intro (show (0 : Int) ≤ 0 ∧ (0 : Int) ≤ 1 ∧ (1 : Int) ≤ (s.size : Nat) by omega) ?_
    refine fork (fun h2 => ?_) (fun h2 => ?_)
    · refine end0 rfl rfl rfl (congrArg bo ?_)
      have h2 : strEq (s.extract 0 1) ⟨#[c]⟩ = true := h2
      rw [hd1_eq] at h2
      exact h2.symm
    · refine end0 rfl rfl rfl (congrArg bo ?_)
      have h2 : strEq (s.extract 0 1) ⟨#[c]⟩ = false := h2
      rw [hd1_eq] at h2
      exact h2.symm
  · have h : ¬ (s.size : Int) ≥ 1 := h
    refine end0 rfl rfl rfl (congrArg bo ?_)
    cases hq : hd1 c s
    · rfl
    · have := hd1_size hq
      omega
theorem cutPrefix1_ok (c : UInt8) (s : ByteArray) : ACalls Try.prog 111 [str s, str ⟨#[c]⟩] [] (Ret (if hd1 c s = true then .tup [str (s.extract 1 s.size), bo true] else .tup [str s, bo false])) := by
  refine acalls_of_awp hT mixed Try.func111 rfl (by kernel_rfl) (by kernel_rfl) (Nat.le_of_ble_eq_true rfl) ?_
  refine callP (hasPrefix1_ok c s) rfl rfl ?_
  refine fork (fun h => ?_) (fun h => ?_)
  · have := hd1_size h
    refine Ob.intro (show (0 : Int) ≤ 1 ∧ (1 : Int) ≤ (s.size : Nat) ∧ (s.size : Int) ≤ (s.size : Nat) by omega) ?_
    refine end0 rfl rfl rfl ?_
    rw [if_pos h]
    rfl
  · refine end0 rfl rfl rfl ?_
    rw [if_neg (by rw [h]; decide)]
    rfl
theorem cutPrefix_ok (c : UInt8) (s : ByteArray) : ACalls Try.prog 103 [str s, str ⟨#[c]⟩] [] (Ret (if hd1 c s = true then .tup [str (s.extract 1 s.size), bo true] else .tup [str s, bo false])) := by
  have hc := cutPrefix1_ok c s
  refine acalls_of_awp hT mixed Try.func103 rfl (by kernel_rfl) (by kernel_rfl) (Nat.le_of_ble_eq_true rfl) ?_
  by_cases h : hd1 c s = true
  · rw [if_pos h] at hc ⊢
    refine callP hc rfl rfl ?_
    refine end0 rfl rfl rfl rfl
  · rw [if_neg h] at hc ⊢
    refine callP hc rfl rfl ?_
    refine end0 rfl rfl rfl rfl
/-! ### Values -/
def upV (s : ByteArray) : Bool × ByteArray × Nat × Int :=
  if s.size = 0 then (false, nilT, 0, 3)
  else if hd1 1 s = true then (if ukE (s.extract 1 s.size) = 0 then (true, nilT, bitsB (ukB (s.extract 1 s.size)), 0) else (false, nilT, 0, 4))
  else if hd1 0 s = true ∧ s.size ≤ 65 then (false, s.extract 1 s.size, 0, 0) else (false, nilT, 0, 4)
def upR (s : ByteArray) : AV := .tup [val (upV s).1 (upV s).2.1 (upV s).2.2.1, i64 (upV s).2.2.2]
theorem ext1_size (s : ByteArray) : (s.extract 1 s.size).size = s.size - 1 := by simp [ByteArray.size_extract]
theorem ukE_cases (s : ByteArray) : (rukO s = true ∧ ukE s = 0) ∨ (rukO s = false ∧ ukE s = 4) := by
  unfold rukO ukE
  by_cases h8 : s.size = 8
  · rw [if_neg (fun h => h h8)]
    by_cases h9 : 18437736874454810626 < valL s.data.toList
    · rw [if_pos h9]; exact .inr ⟨decide_eq_false fun h => by omega, rfl⟩
    · rw [if_neg h9]; exact .inl ⟨decide_eq_true ⟨h8, by omega⟩, rfl⟩
  · rw [if_pos h8]; exact .inr ⟨decide_eq_false fun h => h8 h.1, rfl⟩
theorem unpack_ok (s : ByteArray) : ACalls Try.prog 92 [str s] [] (Ret (upR s)) := by
  have c1 := cutPrefix_ok 1 s
  have c0 := cutPrefix_ok 0 s
  refine acalls_of_awp hT mixed Try.func92 rfl (by kernel_rfl) (by kernel_rfl) (Nat.le_of_ble_eq_true rfl) ?_
  refine fork (fun h => ?_) (fun h => ?_)
  · have h0 : s.size = 0 := of_decide_eq_true ((strEq_nil s).symm.trans h)
    refine end0 rfl rfl rfl ?_
    simp only [upR, upV]
    rw [if_pos h0]
    rfl
  · have h0 : ¬ s.size = 0 := of_decide_eq_false ((strEq_nil s).symm.trans h)
    have hu : upV s = if hd1 1 s = true then (if ukE (s.extract 1 s.size) = 0 then (true, nilT, bitsB (ukB (s.extract 1 s.size)), 0) else (false, nilT, 0, 4))
        else if hd1 0 s = true ∧ s.size ≤ 65 then (false, s.extract 1 s.size, 0, 0) else (false, nilT, 0, 4) := if_neg h0
    by_cases h1 : hd1 1 s = true
    · rw [if_pos h1] at c1 hu
      refine callP c1 rfl rfl ?_
      have hk := unkey_ok (s.extract 1 s.size)
      rcases ukE_cases (s.extract 1 s.size) with ⟨_, h2⟩ | ⟨_, h2⟩
      rotate_left
      · rw [if_neg (by rw [h2]; decide)] at hu
        rw [h2] at hk
        refine callP hk rfl rfl ?_
        refine end0 rfl rfl rfl ?_
        simp only [upR, hu]
        rfl
      · rw [if_pos h2] at hu
        rw [h2] at hk
        refine callP hk rfl rfl ?_
        refine callP (vnumber_ok _) rfl rfl ?_
        refine end0 rfl rfl rfl ?_
        simp only [upR, hu]
        rfl
    · rw [if_neg h1] at c1 hu
      refine callP c1 rfl rfl ?_
      by_cases h3 : hd1 0 s = true
      · rw [if_pos h3] at c0
        have hsz := ext1_size s
        clear c1
        generalize s.extract 1 s.size = r at *
        refine callP c0 rfl rfl ?_
        refine forkD (fun h4 => ?_) (fun h4 => ?_)
        · have h4 : ((r.size : Nat) : Int) > 64 := h4
          rw [if_neg (by omega)] at hu
          refine end0 rfl rfl rfl ?_
          simp only [upR, hu]
          rfl
        · have h4 : ¬ ((r.size : Nat) : Int) > 64 := h4
          rw [if_pos (by constructor; exact h3; omega)] at hu
          refine end0 rfl rfl rfl ?_
          simp only [upR, hu]
          rfl
      · rw [if_neg h3] at c0
        rw [if_neg (fun hh => h3 hh.1)] at hu
        refine callP c0 rfl rfl ?_
        refine end0 rfl rfl rfl ?_
        simp only [upR, hu]
        rfl
theorem ukB_lt (s : ByteArray) : ukB s < 18446744073709551616 := by
  unfold ukB
  split
  · rename_i h
    refine atB_lt _ ?_
    unfold ukE at h
    split at h
    · cases h
    · split at h
      · cases h
      · omega
  · decide
end Go.Proofs.Ytgchhmfobkcnfaa.A
