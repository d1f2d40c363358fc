/- The functions of caps: bits, lists, functions handed in. No condition. -/
import Derived.Test.YtofinmlloefocaaAmT
import Derived.Test.YtofinmlloefocaaOu
import Derived.Test.YtofinmlloefocaaOs
import Derived.Laws.Bits64
namespace Go.Proofs.Ytofinmlloefocaa.A
open Go
set_option linter.unusedVariables false
set_option maxRecDepth 100000
set_option pp.maxSteps 1500

def u64 (n : Int) : AV := .sc (.int .u64 n)
def i64 (n : Int) : AV := .sc (.int .i64 n)
def bo (b : Bool) : AV := .sc (.bool b)
def u64n (n : Nat) : AV := u64 n
def us (l : List Nat) : AV := .view l.length (l.map u64n)
def IdxR (p : Prop) (v : AV) : Prop := ∃ i : Int, v = i64 i ∧ (0 ≤ i ↔ p)
theorem take_snocN {l : List Nat} {i x : Nat} (h : l[i]? = some x) : l.take (i + 1) = l.take i ++ [x] := by
  obtain ⟨hi, rfl⟩ := List.getElem?_eq_some_iff.1 h
  exact List.take_succ_eq_append_getElem hi
theorem endE {T : Tab} {rs : List ResultVar} {R : AV → Prop} {s : St} {vs : List AV} {v : AV} (hd : s.ds = []) (hv : resV T s rs = some vs) (hf : frz s.H 0 8 (mkR vs) = some v) (hR : R v) : endK T rs 0 (fun E G => ∃ v, R v ∧ E = .ret v ∧ G = []) .ret s :=
  ⟨hd, [], v, ⟨⟨vs, hv, hf⟩, True.intro, Nat.zero_le _, rfl⟩, v, hR, rfl, rfl⟩
theorem indexU_ok (l : List Nat) (x : Nat) (hn : l.length < 9223372036854775807) : ACalls Try.prog 43 [us l, u64 x] [] (fun E G => ∃ v, IdxR (x ∈ l) v ∧ E = .ret v ∧ G = []) := by
  refine acalls_of_awp hT mixed Try.func43 rfl (by kernel_rfl) (by kernel_rfl) (Nat.le_of_ble_eq_true rfl) ?_
  refine loopI (α := { k : Nat // k ≤ l.length ∧ x ∉ l.take k }) (fun k => [(0, us l), (1, u64 x), (7, i64 l.length), (8, i64 (k.val : Nat))]) (fun _ => []) (fun k => l.length - k.val) ⟨0, Nat.zero_le _, by simp⟩ [] ⟨⟨rfl, rfl, rfl, rfl, True.intro⟩, True.intro, rfl, rfl, rfl⟩ ?_
  intro z K hK
  obtain ⟨k, hk, hx⟩ := z
  have hinc : wrp .i64 ((k : Int) + 1) = ((k + 1 : Nat) : Int) := by rw [wrpE, wi64]; omega
  refine forkD (fun h => ?_) (fun h => ?_)
  · have h' : k < l.length := by have : (k : Int) < (l.length : Int) := h; omega
    obtain ⟨y, hy⟩ : ∃ y, l[k]? = some y := ⟨_, List.getElem?_eq_getElem h'⟩
    refine Ob.intro (show (0 : Int) ≤ (k : Nat) ∧ ((k : Nat) : Int) < (l.length : Nat) by omega) ?_
    refine optK_intro (nth_map hy) ?_
    refine fork (fun g => ?_) (fun g => ?_)
    · have hxy : x = y := by
        have := beq_iff_eq.1 g
        omega
      refine endE rfl rfl rfl ⟨k, rfl, ⟨fun _ => by rw [hxy]; exact List.mem_of_getElem? hy, fun _ => by omega⟩⟩
    · have hxy : ¬ x = y := by
        have := beq_eq_false_iff_ne.1 g
        omega
      refine hK ⟨k + 1, h', ?_⟩ [] _ (show l.length - k = l.length - (k + 1) + 1 by omega) ⟨⟨rfl, rfl, rfl, congrArg i64 hinc, True.intro⟩, True.intro, rfl, rfl, rfl⟩
      rw [take_snocN hy]
      simp only [List.mem_append, List.mem_singleton]
      exact fun hh => hh.elim hx hxy
  · have h' : k = l.length := by have : ¬ (k : Int) < (l.length : Int) := h; omega
    rw [h', List.take_length] at hx
    refine endE rfl rfl rfl ⟨-1, rfl, ⟨fun hh => by omega, fun hh => absurd hh hx⟩⟩
theorem containsU_ok (l : List Nat) (x : Nat) (hn : l.length < 9223372036854775807) : ACalls Try.prog 40 [us l, u64 x] [] (Ret (bo (decide (x ∈ l)))) := by
  refine acalls_of_awp hT mixed Try.func40 rfl (by kernel_rfl) (by kernel_rfl) (Nat.le_of_ble_eq_true rfl) ?_
  refine callE (indexU_ok l x hn) rfl (fun v hv => by obtain ⟨i, rfl, _⟩ := hv; rfl) ?_
  rintro v ⟨i, rfl, hi⟩
  refine forkD (fun h => ?_) (fun h => ?_)
  · refine end0 rfl rfl rfl (congrArg bo (decide_eq_true (hi.1 h)).symm)
  · refine end0 rfl rfl rfl (congrArg bo (decide_eq_false (fun hx => h (hi.2 hx))).symm)
theorem hasL_ok (l : List Nat) (x : Nat) (hn : l.length < 9223372036854775807) : ACalls Try.prog 29 [us l, u64 x] [] (Ret (bo (decide (x ∈ l)))) := by
  refine acalls_of_awp hT mixed Try.func29 rfl (by kernel_rfl) (by kernel_rfl) (Nat.le_of_ble_eq_true rfl) ?_
  refine callP (containsU_ok l x hn) rfl rfl ?_
  refine fork (fun h => ?_) (fun h => ?_)
  · refine end0 rfl rfl rfl (congrArg bo h.symm)
  · refine end0 rfl rfl rfl (congrArg bo h.symm)
/-! ### Bits -/
theorem and64 {a b : Nat} (ha : a < 18446744073709551616) (hb : b < 18446744073709551616) : wrp .u64 ((BitVec.ofInt IntKind.u64.bits (a : Int) &&& BitVec.ofInt IntKind.u64.bits (b : Int)).toNat : Int) = ((a &&& b : Nat) : Int) := by
  have e1 : (BitVec.ofInt 64 (a : Int)).toNat = a := by rw [BitVec.toNat_ofInt]; omega
  have e2 : (BitVec.ofInt 64 (b : Int)).toNat = b := by rw [BitVec.toNat_ofInt]; omega
  have e : (BitVec.ofInt IntKind.u64.bits (a : Int) &&& BitVec.ofInt IntKind.u64.bits (b : Int)).toNat = a &&& b := by
    show (BitVec.ofInt 64 (a : Int) &&& BitVec.ofInt 64 (b : Int)).toNat = _
    rw [BitVec.toNat_and, e1, e2]
  have hlt : a &&& b ≤ a := Nat.and_le_left
  rw [e, wrpE, wu64]
  omega
theorem or64 {a b : Nat} (ha : a < 18446744073709551616) (hb : b < 18446744073709551616) : wrp .u64 ((BitVec.ofInt IntKind.u64.bits (a : Int) ||| BitVec.ofInt IntKind.u64.bits (b : Int)).toNat : Int) = ((a ||| b : Nat) : Int) := by
  have e1 : (BitVec.ofInt 64 (a : Int)).toNat = a := by rw [BitVec.toNat_ofInt]; omega
  have e2 : (BitVec.ofInt 64 (b : Int)).toNat = b := by rw [BitVec.toNat_ofInt]; omega
  have e : (BitVec.ofInt IntKind.u64.bits (a : Int) ||| BitVec.ofInt IntKind.u64.bits (b : Int)).toNat = a ||| b := by
    show (BitVec.ofInt 64 (a : Int) ||| BitVec.ofInt 64 (b : Int)).toNat = _
    rw [BitVec.toNat_or, e1, e2]
  have hlt : a ||| b < 2 ^ 64 := Nat.or_lt_two_pow ha hb
  rw [e, wrpE, wu64]
  omega
/-- A tag's bit. -/
def bitS (x : Nat) : Nat := if x < 1 ∨ 16 < x then 0 else 2 ^ (x - 1)
theorem bitS_lt (x : Nat) : bitS x < 18446744073709551616 := by
  unfold bitS
  split
  · decide
  · have : 2 ^ (x - 1) ≤ 2 ^ 15 := Nat.pow_le_pow_right (by decide) (by omega)
    omega
theorem bit_ok (x : Nat) (hx : x < 18446744073709551616) : ACalls Try.prog 31 [u64 x] [] (Ret (u64 (bitS x))) := by
  refine acalls_of_awp hT mixed Try.func31 rfl (by kernel_rfl) (by kernel_rfl) (Nat.le_of_ble_eq_true rfl) ?_
  refine forkD (fun h => ?_) (fun h => ?_)
  · refine end0 rfl rfl rfl (congrArg u64 ?_)
    unfold bitS
    rw [if_pos (by omega)]
    rfl
  · refine forkD (fun h2 => ?_) (fun h2 => ?_)
    · refine end0 rfl rfl rfl (congrArg u64 ?_)
      unfold bitS
      rw [if_pos (by omega)]
      rfl
    · have e1 : wrp .u64 ((x : Int) - 1) = ((x - 1 : Nat) : Int) := by rw [wrpE, wu64]; omega
      refine Ob.intro (by rw [e1]; omega) ?_
      refine end0 rfl rfl rfl (congrArg u64 ?_)
      have e2 : min ((x - 1 : Nat) : Int).toNat IntKind.u64.bits = x - 1 := by
        have : IntKind.u64.bits = 64 := rfl
        rw [this]
        omega
      have h15 : 2 ^ (x - 1) ≤ 2 ^ 15 := Nat.pow_le_pow_right (by decide) (by omega)
      rw [e1, e2, wrpE, wu64]
      unfold bitS
      rw [if_neg (by omega), Int.one_mul]
      have : ((2 : Int) ^ (x - 1)) = ((2 ^ (x - 1) : Nat) : Int) := by simp
      rw [this]
      generalize 2 ^ (x - 1) = z at *
      omega
def hasS (s x : Nat) : Bool := !decide (s &&& bitS x = 0)
theorem hasS_ok (s x : Nat) (hs : s < 18446744073709551616) (hx : x < 18446744073709551616) : ACalls Try.prog 28 [u64 s, u64 x] [] (Ret (bo (hasS s x))) := by
  refine acalls_of_awp hT mixed Try.func28 rfl (by kernel_rfl) (by kernel_rfl) (Nat.le_of_ble_eq_true rfl) ?_
  refine callP (bit_ok x hx) rfl rfl ?_
  have e := and64 hs (bitS_lt x)
  unfold hasS
  refine fork (fun h => ?_) (fun h => ?_)
  · rw [e] at h
    have h := bne_iff_ne.1 h
    refine end0 rfl rfl rfl (congrArg bo ?_)
    rw [decide_eq_false (fun hz : s &&& bitS x = 0 => h (by rw [hz]; rfl))]
    rfl
  · rw [e] at h
    have h := bne_eq_false_iff_eq.1 h
    refine end0 rfl rfl rfl (congrArg bo ?_)
    rw [decide_eq_true (show s &&& bitS x = 0 by omega)]
    rfl
end Go.Proofs.Ytofinmlloefocaa.A
