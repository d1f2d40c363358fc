/- Keys read back, and the law NumKeys, by the functions that it calls. No condition. -/
import Derived.Test.YthebddjpnkimjaaNf
namespace Go.Proofs.Ythebddjpnkimjaa.A
open Go
set_option linter.unusedVariables false
set_option maxRecDepth 100000
set_option pp.maxSteps 1500

/-- The number that bytes tell, the highest first. -/
def valL (l : List UInt8) : Nat := l.foldl (fun p c => p * 256 + c.toNat) 0
theorem valL_snoc (l : List UInt8) (c : UInt8) : valL (l ++ [c]) = valL l * 256 + c.toNat := by simp [valL]
theorem valL_lt : ∀ (l : List UInt8), valL l < 256 ^ l.length := by
  intro l
  generalize hk : l.length = k
  induction k generalizing l with
  | zero => rw [List.eq_nil_of_length_eq_zero hk]; decide
  | succ k ih =>
    have hne : l ≠ [] := fun h => by rw [h] at hk; simp at hk
    rw [← List.dropLast_concat_getLast hne, valL_snoc]
    have h1 := ih l.dropLast (by simp [hk])
    have h2 := (l.getLast hne).toNat_lt
    rw [Nat.pow_succ]
    omega
theorem take_snoc {l : List UInt8} {i : Nat} (h : i < l.length) : valL (l.take (i + 1)) = valL (l.take i) * 256 + (l.getD i 0).toNat := by
  rw [List.take_succ_eq_append_getElem h, valL_snoc, List.getD_eq_getElem?_getD, List.getElem?_eq_getElem h, Option.getD_some]
theorem or_byte (p : Nat) (c : UInt8) (h : p < 72057594037927936) : wrp .u64 ((BitVec.ofInt IntKind.u64.bits (wrp .u64 ((p : Int) * 2 ^ min (8 : Int).toNat IntKind.u64.bits)) ||| BitVec.ofInt IntKind.u64.bits (wrp .u64 (c.toNat : Int))).toNat : Int) = ((p * 256 + c.toNat : Nat) : Int) := by
  have hc := c.toNat_lt
  have e0 : wrp .u64 ((p : Int) * 2 ^ min (8 : Int).toNat IntKind.u64.bits) = ((2 ^ 8 * p : Nat) : Int) := by
    have : (2 : Int) ^ min (8 : Int).toNat IntKind.u64.bits = 256 := rfl
    rw [this, wrpE, wu64]
    omega
  have e1 : wrp .u64 (c.toNat : Int) = ((c.toNat : Nat) : Int) := by rw [wrpE, wu64]; omega
  have e2 : (BitVec.ofInt 64 ((2 ^ 8 * p : Nat) : Int)).toNat = 2 ^ 8 * p := by rw [BitVec.toNat_ofInt]; omega
  have e3 : (BitVec.ofInt 64 ((c.toNat : Nat) : Int)).toNat = c.toNat := by rw [BitVec.toNat_ofInt]; omega
  have e4 : (BitVec.ofInt IntKind.u64.bits ((2 ^ 8 * p : Nat) : Int) ||| BitVec.ofInt IntKind.u64.bits ((c.toNat : Nat) : Int)).toNat = 2 ^ 8 * p + c.toNat := by
    show (BitVec.ofInt 64 ((2 ^ 8 * p : Nat) : Int) ||| BitVec.ofInt 64 ((c.toNat : Nat) : Int)).toNat = _
    rw [BitVec.toNat_or, e2, e3, ← Nat.two_pow_add_eq_or_of_lt (by omega)]
  rw [e0, e1, e4, wrpE, wu64]
  omega
def ukE (s : ByteArray) : Int := if s.size ≠ 8 then 4 else if 18437736874454810626 < valL s.data.toList then 4 else 0
def ukB (s : ByteArray) : Nat := if ukE s = 0 then atB (valL s.data.toList) else 0
theorem unkey_ok (s : ByteArray) : ACalls Try.prog 46 [.sc (.string s)] [] (Ret (.tup [fl (ukB s), i64 (ukE s)])) := by
  refine acalls_of_awp hT mixed Try.func46 rfl (by kernel_rfl) (by kernel_rfl) (Nat.le_of_ble_eq_true rfl) ?_
  refine fork (fun h => ?_) (fun h => ?_)
  · have h' : s.size ≠ 8 := by
      intro he
      rw [he] at h
      cases h
    refine end0 rfl rfl rfl ?_
    have : ukE s = 4 := by simp [ukE, h']
    simp only [ukB, this]
    rfl
  · have h' : s.size = 8 := by
      have := bne_eq_false_iff_eq.1 h
      omega
    have hl : s.data.toList.length = 8 := by simpa using h'
    refine loopI (fun i : Fin 9 => [(0, .sc (.string s)), (4, u64 (valL (s.data.toList.take i.val) : Nat)), (11, i64 (i.val : Int))]) (fun i => []) (fun i => 8 - i.val) 0 [] ⟨⟨rfl, rfl, rfl, True.intro⟩, True.intro, rfl, rfl, rfl⟩ ?_
    intro i K hK
    obtain ⟨i, hi⟩ := i
    refine forkD (fun g => ?_) (fun g => ?_)
    · have g' : i < 8 := by have : (i : Int) < 8 := g; omega
      refine Ob.intro (by decide) ?_
      refine Ob.intro ⟨Int.natCast_nonneg _, by rw [h']; exact g⟩ ?_
      refine hK ⟨i + 1, by omega⟩ [] _ ?_ ?_
      · show 8 - i = 8 - (i + 1) + 1
        omega
      · refine ⟨⟨rfl, congrArg u64 ?_, congrArg i64 (?_ : wrp .i64 ((i : Int) + 1) = ((i + 1 : Nat) : Int)), True.intro⟩, True.intro, rfl, rfl, rfl⟩
        · have hlt := valL_lt (s.data.toList.take i)
          have hm : 256 ^ (s.data.toList.take i).length ≤ 256 ^ 7 := Nat.pow_le_pow_right (by decide) (by simp; omega)
          show _ = ((valL (s.data.toList.take (i + 1)) : Nat) : Int)
          rw [take_snoc (by omega)]
          exact or_byte (valL (s.data.toList.take i)) _ (by omega)
        · rw [wrpE, wi64]
          omega
    · have g' : i = 8 := by have : ¬ (i : Int) < 8 := g; omega
      subst g'
      have hv : valL s.data.toList < 18446744073709551616 := by
        have := valL_lt s.data.toList
        rw [hl] at this
        exact this
      have ht : s.data.toList.take 8 = s.data.toList := List.take_of_length_le (by omega)
      have hat := at_ok _ hv
      rw [← ht] at hat
      refine callP hat rfl rfl ?_
      refine fork (fun g2 => ?_) (fun g2 => ?_)
      · rw [ht] at g2
        have g3 : ukE s = 4 := by
          unfold atE at g2
          split at g2
          · rename_i h5
            simp [ukE, h', h5]
          · cases g2
        refine end0 rfl rfl rfl ?_
        simp only [ukB, g3]
        rfl
      · rw [ht] at g2
        have g3 : ukE s = 0 := by
          unfold atE at g2
          split at g2
          · cases g2
          · rename_i h5
            simp [ukE, h', h5]
        refine end0 rfl rfl rfl ?_
        simp only [ukB, g3, if_true]
        show AV.tup [fl (atB (valL (List.take 8 s.data.toList))), i64 0] = _
        rw [ht]
end Go.Proofs.Ythebddjpnkimjaa.A
