/- wire: the document's items of a letter. No condition. -/
import Derived.Test.YtgchhmfobkcnfaaWf
namespace Go.Proofs.Ytgchhmfobkcnfaa.A
open Go
set_option linter.unusedVariables false
set_option linter.unusedSimpArgs false
set_option maxRecDepth 100000
set_option pp.maxSteps 1500

theorem emB_k (n : Nat) (s : ByteArray) (l : List Nat) (a b c : Bool) : emB n s l a b c = true ↔ (a = true ∨ n = 0) ∧ (b = true ∨ strEq s ⟨#[]⟩ = true) ∧ (c = true ∨ l.length = 0) := by
  have e1 : ((n : Int) == 0) = decide (n = 0) := by rw [Bool.eq_iff_iff, beq_iff_eq, decide_eq_true_iff]; omega
  have e2 : ((l.length : Int) == 0) = decide (l.length = 0) := by rw [Bool.eq_iff_iff, beq_iff_eq, decide_eq_true_iff]; omega
  unfold emB
  rw [e1, e2]
  simp only [Bool.and_eq_true, Bool.or_eq_true, decide_eq_true_iff, and_assoc]
end Go.Proofs.Ytgchhmfobkcnfaa.A

namespace Go.Proofs.Ytgchhmfobkcnfaa.A
open Go
set_option linter.unusedVariables false
set_option linter.unusedSimpArgs false
set_option maxRecDepth 100000
set_option pp.maxSteps 1500

end Go.Proofs.Ytgchhmfobkcnfaa.A

namespace Go.Proofs.Ytgchhmfobkcnfaa.A
open Go
set_option linter.unusedVariables false
set_option linter.unusedSimpArgs false
set_option maxRecDepth 100000
set_option pp.maxSteps 1500

/-- What is read: something, and so many bytes; or an error. -/
inductive Rs (α : Type) where
  | err (e : Int)
  | ok (x : α) (n : Nat)
def cntG : List Nat → Nat → Nat → Rs Nat
  | [], _, _ => .err 3
  | c :: r, i, acc => if 9 < i ∨ i = 9 ∧ 1 < c % 128 then .err 4 else if c < 128 then (if c = 0 ∧ 0 < i then .err 4 else .ok (acc + c % 128 * 128 ^ i) (i + 1)) else cntG r (i + 1) (acc + c % 128 * 128 ^ i)
theorem cntG_cons (c : Nat) (r : List Nat) (i acc : Nat) : cntG (c :: r) i acc = if 9 < i ∨ i = 9 ∧ 1 < c % 128 then .err 4 else if c < 128 then (if c = 0 ∧ 0 < i then .err 4 else .ok (acc + c % 128 * 128 ^ i) (i + 1)) else cntG r (i + 1) (acc + c % 128 * 128 ^ i) := rfl
def cntP (b : List Nat) : Rs Nat := cntG b 0 0
def rest (s : ByteArray) (k : Nat) : ByteArray := s.extract k s.size
theorem rest_size {s : ByteArray} {k : Nat} : (rest s k).size = s.size - k := by unfold rest; rw [ByteArray.size_extract]; omega
theorem rest_byL (s : ByteArray) (k : Nat) : byL (rest s k) = (byL s).drop k := by
  unfold rest
  rw [extractB, List.take_of_length_le (by rw [byL_len]; exact Nat.le_refl _)]
theorem rest_rest (s : ByteArray) (i k : Nat) : rest (rest s i) k = rest s (i + k) := by
  apply byL_inj
  rw [rest_byL, rest_byL, rest_byL, List.drop_drop]
theorem rest_zero (s : ByteArray) : rest s 0 = s := by
  apply byL_inj
  rw [rest_byL, List.drop_zero]
theorem rest_at (s : ByteArray) (i k : Nat) : octB (rest s i) k = octB s (i + k) := by
  rw [octB_eq, octB_eq, rest_byL, List.getD_eq_getElem?_getD, List.getD_eq_getElem?_getD, List.getElem?_drop]
theorem take_ok (s : ByteArray) (n : Nat) (h : n ≤ s.size) (hs : s.size ≤ 1000000) : ACalls Try.prog 108 [.ptr 0 0, i64 (n : Nat)] [.row [str s]] (RetH (str (s.extract 0 n)) [.row [str (rest s n)]]) := by
  refine acalls_of_awp hT mixed Try.func108 rfl (by kernel_rfl) (by kernel_rfl) (Nat.le_of_ble_eq_true rfl) ?_
  refine forkD (fun g => ?_) (fun g => absurd (show (s.size : Int) ≥ (n : Int) by omega) g)
  refine callP (check_yes 3) rfl rfl ?_
  refine Ob.intro (show (0 : Int) ≤ 0 ∧ (0 : Int) ≤ (n : Nat) ∧ ((n : Nat) : Int) ≤ (s.size : Int) by omega) ?_
  refine Ob.intro (show (0 : Int) ≤ (n : Nat) ∧ ((n : Nat) : Int) ≤ (s.size : Nat) ∧ ((s.size : Nat) : Int) ≤ (s.size : Int) by omega) ?_
  exact ⟨rfl, [.row [str (rest s n)]], str (s.extract 0 n), ⟨⟨_, rfl, rfl⟩, ⟨.inl rfl, True.intro⟩, Nat.le_refl 1, rfl⟩, rfl, rfl⟩
theorem take_no (s : ByteArray) (n : Nat) (h : s.size < n) (hs : s.size ≤ 1000000) : ACalls Try.prog 108 [.ptr 0 0, i64 (n : Nat)] [.row [str s]] (fun E G => E = .pan (fltV 3) ∧ G = [.dead]) := by
  refine acalls_of_awp hT mixed Try.func108 rfl (by kernel_rfl) (by kernel_rfl) (Nat.le_of_ble_eq_true rfl) ?_
  refine forkD (fun g => absurd (show (s.size : Int) ≥ (n : Int) from g) (by omega)) (fun g => ?_)
  refine callBad (check_no 3) rfl ?_
  exact ⟨rfl, [.dead], ⟨.inr rfl, True.intro⟩, Nat.le_refl 1, rfl, rfl, rfl⟩
theorem callBadS {P : Program} {g : FuncId} {bs args : List AV} {u : Value} {Hs Hs' H H' : Heap} {K : AV → Heap → Prop} {Kp : Value → Heap → Prop} (h : ACalls P g bs Hs (fun E G => E = .pan u ∧ G = Hs')) (is : List Nat) (ha : args = renL (rn is H.length) bs) (hsel : Sel H (rn is H.length) is Hs) (hn : noDup is = true)
    (hm : merge H is (renH (rn is H.length) Hs') = H') (k : Kp u H') : ACalls P g args H (panK K Kp) := by
  subst ha
  refine callS h is hsel hn ?_
  rintro E G ⟨rfl, rfl⟩ _
  exact ⟨_, _, rfl, hm, k⟩
theorem p128 (i : Nat) : 128 ^ i = 2 ^ (7 * i) := by rw [Nat.pow_mul]
theorem shl_shr (low i : Nat) (h : low < 128) (hi : i ≤ 9) : (hd ((wrp .u64 ((low : Int) * 2 ^ min ((7 * i : Nat) : Int).toNat IntKind.u64.bits)).fdiv (2 ^ min ((7 * i : Nat) : Int).toNat IntKind.u64.bits)) = (low : Int)) ↔ (i ≤ 8 ∨ low ≤ 1) := by
  rw [hd_eq, Int.toNat_natCast, Nat.min_eq_left (show 7 * i ≤ IntKind.u64.bits from show 7 * i ≤ 64 by omega)]
  have e2 : (2 : Int) ^ (7 * i) = ((128 ^ i : Nat) : Int) := by rw [p128, Int.natCast_pow]; rfl
  rw [e2, wrpE, wu64, Int.fdiv_eq_ediv_of_nonneg _ (Int.natCast_nonneg _)]
  have e3 : ((low : Int) * ((128 ^ i : Nat) : Int)) % 18446744073709551616 / ((128 ^ i : Nat) : Int) = (((low * 128 ^ i) % 18446744073709551616 / 128 ^ i : Nat) : Int) := by rw [Int.natCast_ediv, Int.natCast_emod, Int.natCast_mul]; rfl
  rw [e3]
  have key : (low * 128 ^ i) % 18446744073709551616 / 128 ^ i = low ↔ (i ≤ 8 ∨ low ≤ 1) := by
    by_cases h8 : i ≤ 8
    · have hq : 128 ^ i ≤ 128 ^ 8 := Nat.pow_le_pow_right (by decide) h8
      have hq2 : (128 : Nat) ^ 8 = 72057594037927936 := by decide
      have hpos : 0 < 128 ^ i := Nat.pow_pos (by decide)
      have hm : low * 128 ^ i ≤ 127 * 72057594037927936 := Nat.mul_le_mul (by omega) (by omega)
      rw [Nat.mod_eq_of_lt (by omega), Nat.mul_div_cancel _ hpos]
      exact ⟨fun _ => .inl h8, fun _ => rfl⟩
    · have h9 : i = 9 := by omega
      have hq2 : (128 : Nat) ^ 9 = 9223372036854775808 := by decide
      rw [h9, hq2]
      omega
  rw [← key]
  generalize (low * 128 ^ i) % 18446744073709551616 / 128 ^ i = w
  omega
theorem grow_lt {acc low i : Nat} (ha : acc < 128 ^ i) (hl : low < 128) : acc + low * 128 ^ i < 128 ^ (i + 1) := by
  have hmul : low * 128 ^ i ≤ 127 * 128 ^ i := Nat.mul_le_mul_right _ (by omega)
  rw [Nat.pow_succ]
  generalize 128 ^ i = w at *
  omega
theorem or_low (low i acc : Nat) (h : low < 128) (hi : i ≤ 9) (ha : acc < 128 ^ i) (hok : i ≤ 8 ∨ low ≤ 1) :
    wrp .u64 ((BitVec.ofInt IntKind.u64.bits (acc : Int) ||| BitVec.ofInt IntKind.u64.bits (wrp .u64 ((low : Int) * 2 ^ min ((7 * i : Nat) : Int).toNat IntKind.u64.bits))).toNat : Int) = ((acc + low * 128 ^ i : Nat) : Int) ∧ acc + low * 128 ^ i < 18446744073709551616 := by
  have hp : 128 ^ i ≤ 9223372036854775808 := Nat.le_trans (Nat.pow_le_pow_right (n := 128) (by decide) hi) (by decide)
  have hlt : low * 128 ^ i + acc < 18446744073709551616 := by
    rcases hok with h8 | h1
    · have hq : 128 ^ i ≤ 72057594037927936 := Nat.le_trans (Nat.pow_le_pow_right (n := 128) (by decide) h8) (by decide)
      have : low * 128 ^ i ≤ 127 * 72057594037927936 := Nat.mul_le_mul (by omega) hq
      omega
    · have : low * 128 ^ i ≤ 1 * 9223372036854775808 := Nat.mul_le_mul h1 hp
      omega
  have e1 : wrp .u64 ((low : Int) * 2 ^ min ((7 * i : Nat) : Int).toNat IntKind.u64.bits) = ((low * 128 ^ i : Nat) : Int) := by
    rw [Int.toNat_natCast, Nat.min_eq_left (show 7 * i ≤ IntKind.u64.bits from show 7 * i ≤ 64 by omega)]
    have : (2 : Int) ^ (7 * i) = ((128 ^ i : Nat) : Int) := by rw [p128, Int.natCast_pow]; rfl
    rw [this, ← Int.natCast_mul]
    generalize low * 128 ^ i = w at *
    rw [wrpE, wu64]
    omega
  have e2 : (BitVec.ofInt 64 ((low * 128 ^ i : Nat) : Int)).toNat = low * 128 ^ i := by
    rw [BitVec.toNat_ofInt]
    generalize low * 128 ^ i = w at *
    omega
  have e3 : (BitVec.ofInt 64 (acc : Int)).toNat = acc := by rw [BitVec.toNat_ofInt]; omega
  have e4 : (BitVec.ofInt IntKind.u64.bits (acc : Int) ||| BitVec.ofInt IntKind.u64.bits ((low * 128 ^ i : Nat) : Int)).toNat = low * 128 ^ i + acc := by
    show (BitVec.ofInt 64 (acc : Int) ||| BitVec.ofInt 64 ((low * 128 ^ i : Nat) : Int)).toNat = _
    rw [BitVec.toNat_or, e2, e3, Nat.or_comm, p128, Nat.mul_comm, ← Nat.two_pow_add_eq_or_of_lt (by rw [← p128]; exact ha)]
  rw [e1, e4]
  generalize low * 128 ^ i = w at *
  refine ⟨?_, by omega⟩
  rw [wrpE, wu64]
  omega
def NumR (o : Rs Nat) (s : ByteArray) : AEnd → Heap → Prop := fun E G =>
  match o with
  | .ok n k => E = .ret (u64n n) ∧ G = [.row [str (rest s k)]]
  | .err e => E = .pan (fltV e) ∧ G = [.dead]
structure CnSt (s : ByteArray) where
  i : Nat
  acc : Nat
  hi : i ≤ s.size
  h10 : i ≤ 10
  ha : acc < 128 ^ i
  ha64 : acc < 18446744073709551616
  hG : cntP (byL s) = cntG ((byL s).drop i) i acc
theorem drop_oct {s : ByteArray} {i : Nat} (h : i < s.size) : (byL s).drop i = octB s i :: (byL s).drop (i + 1) := by
  rw [List.drop_eq_getElem_cons (by rw [byL_len]; exact h)]
  congr 1
  have := byL_at h
  rw [List.getElem?_eq_getElem (by rw [byL_len]; exact h)] at this
  exact Option.some.inj this
theorem pnumber_ok (s : ByteArray) (hs : s.size ≤ 1000000) : ACalls Try.prog 109 [.ptr 0 0] [.row [str s]] (NumR (cntP (byL s)) s) := by
  refine acalls_of_awp hT mixed Try.func109 rfl (by kernel_rfl) (by kernel_rfl) (Nat.le_of_ble_eq_true rfl) ?_
  refine loopI (α := CnSt s) (fun z => [(0, .ptr 0 0), (3, u64n z.acc), (4, i64 (7 * z.i : Nat))]) (fun z => [.row [str (rest s z.i)]]) (fun z => s.size - z.i) ⟨0, 0, Nat.zero_le _, by omega, by decide, by decide, rfl⟩ [0] ⟨⟨rfl, rfl, rfl, True.intro⟩, ⟨.inl (by rw [rest_zero]; rfl), True.intro⟩, rfl, rfl, rfl⟩ ?_
  rintro ⟨i, acc, hi, h10, ha, ha64, hG⟩ K hK
  by_cases hz : i = s.size
  · have hn := take_no (rest s i) 1 (by rw [rest_size]; omega) (by rw [rest_size]; omega)
    have he : cntP (byL s) = .err 3 := by rw [hG, List.drop_eq_nil_of_le (by rw [byL_len]; omega)]; rfl
    rw [he]
    refine callBadS hn [0] rfl ⟨.inl rfl, True.intro⟩ rfl rfl ?_
    exact ⟨rfl, [.dead], ⟨.inl rfl, True.intro⟩, Nat.le_refl 1, rfl, rfl, rfl⟩
  · have his : i < s.size := by omega
    have hn := take_ok (rest s i) 1 (by rw [rest_size]; omega) (by rw [rest_size]; omega)
    rw [rest_rest] at hn
    have hoc : octB ((rest s i).extract 0 1) 0 = octB s i := by rw [ext_at (by decide) (by rw [rest_size]; omega), rest_at]; rfl
    have hsz1 : ((rest s i).extract 0 1).size = 1 := by rw [ext_size (by rw [rest_size]; omega)]
    have hc := octB_lt s i
    rw [drop_oct his] at hG
    generalize octB s i = c at *
    generalize (rest s i).extract 0 1 = x at *
    have hwc : wrp .u64 (octB x 0 : Int) = ((c : Nat) : Int) := by rw [hoc, wrpE, wu64]; omega
    have hlow : hd (((c : Nat) : Int).tmod 128) = ((c % 128 : Nat) : Int) := by rw [hd_eq]; rfl
    refine callS hn [0] ⟨.inl rfl, True.intro⟩ rfl ?_
    rintro E G ⟨rfl, rfl⟩ _
    refine ⟨_, _, rfl, rfl, ?_⟩
    refine Ob.intro (show (0 : Int) ≤ 0 ∧ 0 < (x.size : Int) by omega) ?_
    refine Ob.intro (by decide) ?_
    have hxi : (x.data.toList.getD (0 : Int).toNat 0).toNat = octB x 0 := rfl
    by_cases h9 : i ≤ 9
    · have hss := shl_shr (c % 128) i (by omega) h9
      refine forkD (fun g => ?_) (fun g => absurd (show ((7 * i : Nat) : Int) < 64 by omega) g)
      have h7 : (0 : Int) ≤ ((7 * i : Nat) : Int) := by omega
      have hlw : hd ((wrp .u64 ((octB x 0 : Nat) : Int)).tmod 128) = ((c % 128 : Nat) : Int) := by rw [hwc, hlow]
      refine Ob.intro h7 ?_
      refine Ob.intro h7 ?_
      refine fork (fun g => ?_) (fun g => ?_)
      · have g2 : hd ((wrp .u64 (hd ((wrp .u64 ((octB x 0 : Nat) : Int)).tmod 128) * 2 ^ min ((7 * i : Nat) : Int).toNat IntKind.u64.bits)).fdiv (2 ^ min ((7 * i : Nat) : Int).toNat IntKind.u64.bits)) = hd ((wrp .u64 ((octB x 0 : Nat) : Int)).tmod 128) := beq_iff_eq.1 g
        rw [hlw] at g2
        have hok := hss.1 g2
        have hor := or_low (c % 128) i acc (by omega) h9 ha hok
        rw [cntG_cons, if_neg (show ¬ (9 < i ∨ i = 9 ∧ 1 < c % 128) by omega)] at hG
        have hacc : wrp .u64 ((BitVec.ofInt IntKind.u64.bits (acc : Int) ||| BitVec.ofInt IntKind.u64.bits (wrp .u64 (hd ((wrp .u64 ((octB x 0 : Nat) : Int)).tmod 128) * 2 ^ min ((7 * i : Nat) : Int).toNat IntKind.u64.bits))).toNat : Int) = ((acc + c % 128 * 128 ^ i : Nat) : Int) := by rw [hlw]; exact hor.1
        refine callP (check_yes 4) rfl rfl ?_
        refine Ob.intro h7 ?_
        refine forkD (fun q => ?_) (fun q => ?_)
        · have q' : c < 128 := by
            have : wrp .u64 ((octB x 0 : Nat) : Int) < 128 := q
            rw [hwc] at this
            omega
          rw [if_pos q'] at hG
          have good : ¬ (c = 0 ∧ 0 < i) → cntP (byL s) = .ok (acc + c % 128 * 128 ^ i) (i + 1) := fun hh => by rw [hG, if_neg hh]
          have fin : ¬ (c = 0 ∧ 0 < i) → NumR (cntP (byL s)) s (.ret (.sc (.int .u64 (wrp .u64 ((BitVec.ofInt IntKind.u64.bits (acc : Int) ||| BitVec.ofInt IntKind.u64.bits (wrp .u64 (hd ((wrp .u64 ((octB x 0 : Nat) : Int)).tmod 128) * 2 ^ min ((7 * i : Nat) : Int).toNat IntKind.u64.bits))).toNat : Int))))) [.row [str (rest s (i + 1))]] := fun hh => by
            rw [good hh, hacc]
            exact ⟨rfl, rfl⟩
          refine forkD (fun u => ?_) (fun u => ?_)
          · have u' : c ≠ 0 := fun e => by
              have : wrp .u64 ((octB x 0 : Nat) : Int) > 0 := u
              rw [hwc] at this
              omega
            refine callP (check_yes 4) rfl rfl ?_
            exact ⟨rfl, [.row [str (rest s (i + 1))]], _, ⟨⟨_, rfl, rfl⟩, ⟨.inl rfl, True.intro⟩, Nat.le_refl 1, rfl⟩, fin (fun hh => u' hh.1)⟩
          · have u' : c = 0 := by
              have : ¬ wrp .u64 ((octB x 0 : Nat) : Int) > 0 := u
              rw [hwc] at this
              omega
            refine fork (fun w => ?_) (fun w => ?_)
            · have w' : i = 0 := by
                have : ((7 * i : Nat) : Int) = 0 := beq_iff_eq.1 w
                omega
              refine callP (check_yes 4) rfl rfl ?_
              exact ⟨rfl, [.row [str (rest s (i + 1))]], _, ⟨⟨_, rfl, rfl⟩, ⟨.inl rfl, True.intro⟩, Nat.le_refl 1, rfl⟩, fin (fun hh => by omega)⟩
            · have w' : 0 < i := by
                have : ((7 * i : Nat) : Int) ≠ 0 := beq_eq_false_iff_ne.1 w
                omega
              have he : cntP (byL s) = .err 4 := by rw [hG, if_pos ⟨u', w'⟩]
              rw [he]
              refine callBad (check_no 4) rfl ?_
              exact ⟨rfl, [.dead], ⟨.inr rfl, True.intro⟩, Nat.le_refl 1, rfl, rfl, rfl⟩
        · have q' : ¬ c < 128 := by
            have : ¬ wrp .u64 ((octB x 0 : Nat) : Int) < 128 := q
            rw [hwc] at this
            omega
          rw [if_neg q'] at hG
          have hmul : c % 128 * 128 ^ i ≤ 127 * 128 ^ i := Nat.mul_le_mul_right _ (by omega)
          refine hK ⟨i + 1, acc + c % 128 * 128 ^ i, his, by omega, grow_lt ha (by omega), hor.2, hG⟩ [0] _ (show s.size - i = s.size - (i + 1) + 1 by omega) ⟨⟨rfl, congrArg (fun z => AV.sc (.int .u64 z)) hacc, congrArg i64 ?_, True.intro⟩, ⟨.inl rfl, True.intro⟩, rfl, rfl, rfl⟩
          show wrp .i64 (((7 * i : Nat) : Int) + 7) = ((7 * (i + 1) : Nat) : Int)
          rw [wrpE, wi64]
          omega
      · have g2 : ¬ hd ((wrp .u64 (hd ((wrp .u64 ((octB x 0 : Nat) : Int)).tmod 128) * 2 ^ min ((7 * i : Nat) : Int).toNat IntKind.u64.bits)).fdiv (2 ^ min ((7 * i : Nat) : Int).toNat IntKind.u64.bits)) = hd ((wrp .u64 ((octB x 0 : Nat) : Int)).tmod 128) := beq_eq_false_iff_ne.1 g
        rw [hlw, hss] at g2
        have he : cntP (byL s) = .err 4 := by rw [hG, cntG_cons, if_pos (by omega)]
        rw [he]
        refine callBad (check_no 4) rfl ?_
        exact ⟨rfl, [.dead], ⟨.inr rfl, True.intro⟩, Nat.le_refl 1, rfl, rfl, rfl⟩
    · refine forkD (fun g => absurd (show ((7 * i : Nat) : Int) < 64 from g) (by omega)) (fun g => ?_)
      have he : cntP (byL s) = .err 4 := by rw [hG, cntG_cons, if_pos (by omega)]
      rw [he]
      refine callBad (check_no 4) rfl ?_
      exact ⟨rfl, [.dead], ⟨.inr rfl, True.intro⟩, Nat.le_refl 1, rfl, rfl, rfl⟩
theorem cntG_lt : ∀ (b : List Nat) (i acc n k : Nat), i ≤ 10 → acc < 128 ^ i → (i = 10 → acc < 18446744073709551616) → cntG b i acc = .ok n k → n < 18446744073709551616 ∧ i < k ∧ k ≤ i + b.length
  | [], i, acc, n, k, _, _, _, h => by cases h
  | c :: r, i, acc, n, k, hi, ha, h10, h => by
    rw [cntG_cons] at h
    by_cases h1 : 9 < i ∨ i = 9 ∧ 1 < c % 128
    · rw [if_pos h1] at h
      cases h
    · rw [if_neg h1] at h
      have hor := (or_low (c % 128) i acc (by omega) (by omega) ha (by omega)).2
      by_cases h2 : c < 128
      · rw [if_pos h2] at h
        by_cases h3 : c = 0 ∧ 0 < i
        · rw [if_pos h3] at h
          cases h
        · rw [if_neg h3] at h
          cases h
          exact ⟨hor, by omega, by simp only [List.length_cons]; omega⟩
      · rw [if_neg h2] at h
        have hmul : c % 128 * 128 ^ i ≤ 127 * 128 ^ i := Nat.mul_le_mul_right _ (by omega)
        obtain ⟨h3, h4, h5⟩ := cntG_lt r (i + 1) _ n k (by omega) (grow_lt ha (by omega)) (fun _ => hor) h
        exact ⟨h3, by omega, by simp only [List.length_cons]; omega⟩
theorem cntP_lt {b : List Nat} {n k : Nat} (h : cntP b = .ok n k) : n < 18446744073709551616 ∧ 0 < k ∧ k ≤ b.length := by
  obtain ⟨h1, h2, h3⟩ := cntG_lt b 0 0 n k (by omega) (by decide) (fun h => by omega) h
  exact ⟨h1, h2, by omega⟩
/-- A number that may not be too great. -/
def cntM (most : Nat) (b : List Nat) : Rs Nat :=
  match cntP b with
  | .err e => .err e
  | .ok n k => if n ≤ most then .ok n k else .err 5
def CntR (o : Rs Nat) (s : ByteArray) : AEnd → Heap → Prop := fun E G =>
  match o with
  | .ok n k => E = .ret (i64 (n : Nat)) ∧ G = [.row [str (rest s k)]]
  | .err e => E = .pan (fltV e) ∧ G = [.dead]
theorem pcount_ok (s : ByteArray) (most : Nat) (hs : s.size ≤ 1000000) (hm : most ≤ 1000) : ACalls Try.prog 107 [.ptr 0 0, i64 (most : Nat)] [.row [str s]] (CntR (cntM most (byL s)) s) := by
  have hn := pnumber_ok s hs
  have hlt : ∀ n k, cntP (byL s) = .ok n k → n < 18446744073709551616 := fun n k h => (cntP_lt h).1
  have hwm : wrp .u64 (most : Int) = ((most : Nat) : Int) := by rw [wrpE, wu64]; omega
  unfold cntM
  cases hc : cntP (byL s) with
  | err e =>
    rw [hc] at hn
    refine acalls_of_awp hT mixed Try.func107 rfl (by kernel_rfl) (by kernel_rfl) (Nat.le_of_ble_eq_true rfl) ?_
    refine callS hn [0] ⟨.inl rfl, True.intro⟩ rfl ?_
    rintro E G ⟨rfl, rfl⟩ _
    refine ⟨_, _, rfl, rfl, ?_⟩
    exact ⟨rfl, [.dead], ⟨.inl rfl, True.intro⟩, Nat.le_refl 1, rfl, rfl, rfl⟩
  | ok n k =>
    rw [hc] at hn
    have hl := hlt n k hc
    refine acalls_of_awp hT mixed Try.func107 rfl (by kernel_rfl) (by kernel_rfl) (Nat.le_of_ble_eq_true rfl) ?_
    refine callS hn [0] ⟨.inl rfl, True.intro⟩ rfl ?_
    rintro E G ⟨rfl, rfl⟩ _
    refine ⟨_, _, rfl, rfl, ?_⟩
    refine forkD (fun g => ?_) (fun g => ?_)
    · have g' : n ≤ most := by
        have : (n : Int) ≤ wrp .u64 (most : Int) := g
        rw [hwm] at this
        omega
      have hw : wrp .i64 (n : Int) = ((n : Nat) : Int) := by rw [wrpE, wi64]; omega
      refine callP (check_yes 5) rfl rfl ?_
      refine ⟨rfl, [.row [str (rest s k)]], i64 (wrp .i64 (n : Int)), ⟨⟨_, rfl, rfl⟩, ⟨.inl rfl, True.intro⟩, Nat.le_refl 1, rfl⟩, ?_⟩
      rw [hw]
      show CntR (if n ≤ most then .ok n k else .err 5) s _ _
      rw [if_pos g']
      exact ⟨rfl, rfl⟩
    · have g' : ¬ n ≤ most := by
        have : ¬ (n : Int) ≤ wrp .u64 (most : Int) := g
        rw [hwm] at this
        omega
      refine callBad (check_no 5) rfl ?_
      refine ⟨rfl, [.dead], ⟨.inr rfl, True.intro⟩, Nat.le_refl 1, rfl, ?_⟩
      show CntR (if n ≤ most then .ok n k else .err 5) s _ _
      rw [if_neg g']
      exact ⟨rfl, rfl⟩
end Go.Proofs.Ytgchhmfobkcnfaa.A

namespace Go.Proofs.Ytgchhmfobkcnfaa.A
open Go
set_option linter.unusedVariables false
set_option linter.unusedSimpArgs false
set_option maxRecDepth 100000
set_option pp.maxSteps 1500

def rdP (c : Nat) (s : ByteArray) : Rs It :=
  if c = 98 then (if s.size = 0 then .err 3 else .ok (.mk (octB s 0) emp [] []) 1)
  else if c = 110 then (match cntP (byL s) with
    | .err e => .err e
    | .ok n k => .ok (.mk n emp [] []) k)
  else if c = 116 then (match cntM 200 (byL s) with
    | .err e => .err e
    | .ok n k => if s.size - k < n then .err 3 else .ok (.mk 0 ((rest s k).extract 0 n) [] []) (k + n))
  else if c = 102 then (if s.size < 8 then .err 3 else if ukE (s.extract 0 8) = 0 then .ok (.mk (bitsB (ukB (s.extract 0 8))) emp [] []) 8 else .err (ukE (s.extract 0 8)))
  else (if (unpL s).e = 0 then .ok (.mk 0 emp (unpL s).l []) (unpL s).n.toNat else .err (unpL s).e)
def RdR (o : Rs It) (s : ByteArray) : AEnd → Heap → Prop := fun E G =>
  match o with
  | .ok x k => E = .ret (itA x) ∧ G = [.row [str (rest s k)]]
  | .err e => E = .pan (fltV e) ∧ G = [.dead]
theorem EndR_agg {cs ds : List AV} (h : ∀ X vs, VL X cs vs → VL X ds vs) : ∀ Y e, EndR Y (.ret (.agg cs)) e → EndR Y (.ret (.agg ds)) e := fun Y e k => by
  cases e with
  | returned v =>
    have k' : VR Y (.agg cs) v := k
    show VR Y (.agg ds) v
    simp only [VR] at k' ⊢
    obtain ⟨w, e, hl⟩ := k'
    exact ⟨w, e, h _ _ hl⟩
  | panicked _ => exact k
  | outgrown => exact k
theorem VL_4 {X : Ctx} {a b c d c' d' : AV} {vs : List Value} (hc : ∀ v, VR X c v → VR X c' v) (hd : ∀ v, VR X d v → VR X d' v) (h : VL X [a, b, c, d] vs) : VL X [a, b, c', d'] vs := by
  match vs, h with
  | [v1, v2, v3, v4], h =>
    simp only [VL] at h ⊢
    exact ⟨h.1, h.2.1, hc _ h.2.2.1, hd _ h.2.2.2.1, trivial⟩
  | [], h => simp [VL] at h
  | [_], h => simp [VL] at h
  | [_, _], h => simp [VL] at h
  | [_, _, _], h => simp [VL] at h
  | _ :: _ :: _ :: _ :: _ :: _, h => simp [VL] at h
theorem EndR_it1 (n : Nat) (s : ByteArray) : ∀ Y e, EndR Y (.ret (.agg [u64n n, str s, nilS, nilS])) e → EndR Y (.ret (itA (.mk n s [] []))) e := EndR_agg fun X vs h => VL_4 (fun _ h => VR_nilView h) (fun _ h => VR_nilView h) h
theorem EndR_it2 (n : Nat) (s : ByteArray) (l : List Nat) : ∀ Y e, EndR Y (.ret (.agg [u64n n, str s, us l, nilS])) e → EndR Y (.ret (itA (.mk n s l []))) e := EndR_agg fun X vs h => VL_4 (fun _ h => h) (fun _ h => VR_nilView h) h
/-- What comes back, as it stands there. -/
def RawR (o : Rs It) (s : ByteArray) : AEnd → Heap → Prop := fun E G =>
  match o with
  | .ok (.mk n t l k) j => k = [] ∧ G = [.row [str (rest s j)]] ∧ (E = .ret (.agg [u64n n, str t, us l, nilS]) ∨ l = [] ∧ E = .ret (.agg [u64n n, str t, nilS, nilS]))
  | .err e => E = .pan (fltV e) ∧ G = [.dead]
theorem raw_rd {o : Rs It} {s : ByteArray} {P : Program} {g : FuncId} {args : List AV} {H : Heap} (h : ACalls P g args H (RawR o s)) : ACalls P g args H (RdR o s) := by
  refine h.weakR ?_
  intro E G hE
  cases o with
  | err e => exact ⟨E, hE, EndR_refl _⟩
  | ok x j =>
    obtain ⟨n, t, l, k⟩ := x
    obtain ⟨rfl, rfl, rfl | ⟨rfl, rfl⟩⟩ := hE
    · exact ⟨_, ⟨rfl, rfl⟩, EndR_it2 n t l⟩
    · exact ⟨_, ⟨rfl, rfl⟩, EndR_it1 n t⟩
theorem pone_b (s : ByteArray) (hs : s.size ≤ 1000000) : ACalls Try.prog 101 [.ptr 0 0, u8n 98] [.row [str s]] (RdR (rdP 98 s) s) := by
  have hr : rdP 98 s = if s.size = 0 then .err 3 else .ok (.mk (octB s 0) emp [] []) 1 := rfl
  rw [hr]
  by_cases h0 : s.size = 0
  · rw [if_pos h0]
    have ht := take_no s 1 (by omega) hs
    refine raw_rd ?_
    refine acalls_of_awp hT mixed Try.func101 rfl (by kernel_rfl) (by kernel_rfl) (Nat.le_of_ble_eq_true rfl) ?_
    refine callBadS (ht) [0] rfl ⟨.inl rfl, True.intro⟩ rfl rfl ?_
    exact ⟨rfl, [.dead], ⟨.inl rfl, True.intro⟩, Nat.le_refl 1, rfl, rfl, rfl⟩
  · rw [if_neg h0]
    have ht := take_ok s 1 (by omega) hs
    have hoc : octB (s.extract 0 1) 0 = octB s 0 := by rw [ext_at (by decide) (by omega)]
    have hsz : (s.extract 0 1).size = 1 := by rw [ext_size (by omega)]
    have hw : wrp .u64 (octB (s.extract 0 1) 0 : Int) = ((octB s 0 : Nat) : Int) := by rw [hoc, wrpE, wu64]; have := octB_lt s 0; omega
    generalize s.extract 0 1 = x at *
    refine raw_rd ?_
    refine acalls_of_awp hT mixed Try.func101 rfl (by kernel_rfl) (by kernel_rfl) (Nat.le_of_ble_eq_true rfl) ?_
    refine callS (ht) [0] ⟨.inl rfl, True.intro⟩ rfl ?_
    rintro E G ⟨rfl, rfl⟩ _
    refine ⟨_, _, rfl, rfl, ?_⟩
    refine Ob.intro (show (0 : Int) ≤ 0 ∧ 0 < (x.size : Int) by omega) ?_
    exact ⟨rfl, [.row [str (rest s 1)]], .agg [u64 (wrp .u64 (octB x 0 : Nat)), str ⟨#[]⟩, nilS, nilS], ⟨⟨_, rfl, rfl⟩, ⟨.inl rfl, True.intro⟩, Nat.le_refl 1, rfl⟩, rfl, rfl, .inr ⟨rfl, by rw [hw]; rfl⟩⟩
theorem pone_n (s : ByteArray) (hs : s.size ≤ 1000000) : ACalls Try.prog 101 [.ptr 0 0, u8n 110] [.row [str s]] (RdR (rdP 110 s) s) := by
  have hr : rdP 110 s = match cntP (byL s) with
    | .err e => .err e
    | .ok n k => .ok (.mk n emp [] []) k := rfl
  rw [hr]
  have hn := pnumber_ok s hs
  cases hc : cntP (byL s) with
  | err e =>
    rw [hc] at hn
    refine raw_rd ?_
    refine acalls_of_awp hT mixed Try.func101 rfl (by kernel_rfl) (by kernel_rfl) (Nat.le_of_ble_eq_true rfl) ?_
    refine callBadS (hn) [0] rfl ⟨.inl rfl, True.intro⟩ rfl rfl ?_
    exact ⟨rfl, [.dead], ⟨.inl rfl, True.intro⟩, Nat.le_refl 1, rfl, rfl, rfl⟩
  | ok n k =>
    rw [hc] at hn
    refine raw_rd ?_
    refine acalls_of_awp hT mixed Try.func101 rfl (by kernel_rfl) (by kernel_rfl) (Nat.le_of_ble_eq_true rfl) ?_
    refine callS (hn) [0] ⟨.inl rfl, True.intro⟩ rfl ?_
    rintro E G ⟨rfl, rfl⟩ _
    refine ⟨_, _, rfl, rfl, ?_⟩
    exact ⟨rfl, [.row [str (rest s k)]], .agg [u64n n, str ⟨#[]⟩, nilS, nilS], ⟨⟨_, rfl, rfl⟩, ⟨.inl rfl, True.intro⟩, Nat.le_refl 1, rfl⟩, rfl, rfl, .inr ⟨rfl, rfl⟩⟩
theorem cntM_lt {m : Nat} {b : List Nat} {n k : Nat} (h : cntM m b = .ok n k) : n ≤ m ∧ 0 < k ∧ k ≤ b.length ∧ cntP b = .ok n k := by
  unfold cntM at h
  cases hc : cntP b with
  | err e => rw [hc] at h; cases h
  | ok n' k' =>
    rw [hc] at h
    dsimp only at h
    split at h
    · rename_i hm
      cases h
      have := cntP_lt hc
      exact ⟨hm, this.2.1, this.2.2, rfl⟩
    · cases h
theorem pone_t (s : ByteArray) (hs : s.size ≤ 1000000) : ACalls Try.prog 101 [.ptr 0 0, u8n 116] [.row [str s]] (RdR (rdP 116 s) s) := by
  have hr : rdP 116 s = match cntM 200 (byL s) with
    | .err e => .err e
    | .ok n k => if s.size - k < n then .err 3 else .ok (.mk 0 ((rest s k).extract 0 n) [] []) (k + n) := rfl
  rw [hr]
  have hn := pcount_ok s 200 hs (by decide)
  cases hc : cntM 200 (byL s) with
  | err e =>
    rw [hc] at hn
    refine raw_rd ?_
    refine acalls_of_awp hT mixed Try.func101 rfl (by kernel_rfl) (by kernel_rfl) (Nat.le_of_ble_eq_true rfl) ?_
    refine callBadS (hn) [0] rfl ⟨.inl rfl, True.intro⟩ rfl rfl ?_
    exact ⟨rfl, [.dead], ⟨.inl rfl, True.intro⟩, Nat.le_refl 1, rfl, rfl, rfl⟩
  | ok n k =>
    rw [hc] at hn
    have hrs := rest_size (s := s) (k := k)
    by_cases h2 : s.size - k < n
    · have ht := take_no (rest s k) n (by omega) (by omega)
      dsimp only
      rw [if_pos h2]
      refine raw_rd ?_
      refine acalls_of_awp hT mixed Try.func101 rfl (by kernel_rfl) (by kernel_rfl) (Nat.le_of_ble_eq_true rfl) ?_
      refine callS (hn) [0] ⟨.inl rfl, True.intro⟩ rfl ?_
      rintro E G ⟨rfl, rfl⟩ _
      refine ⟨_, _, rfl, rfl, ?_⟩
      refine callBadS (ht) [0] rfl ⟨.inl rfl, True.intro⟩ rfl rfl ?_
      exact ⟨rfl, [.dead], ⟨.inl rfl, True.intro⟩, Nat.le_refl 1, rfl, rfl, rfl⟩
    · have ht := take_ok (rest s k) n (by omega) (by omega)
      rw [rest_rest] at ht
      dsimp only
      rw [if_neg h2]
      refine raw_rd ?_
      refine acalls_of_awp hT mixed Try.func101 rfl (by kernel_rfl) (by kernel_rfl) (Nat.le_of_ble_eq_true rfl) ?_
      refine callS (hn) [0] ⟨.inl rfl, True.intro⟩ rfl ?_
      rintro E G ⟨rfl, rfl⟩ _
      refine ⟨_, _, rfl, rfl, ?_⟩
      refine callS (ht) [0] ⟨.inl rfl, True.intro⟩ rfl ?_
      rintro E G ⟨rfl, rfl⟩ _
      refine ⟨_, _, rfl, rfl, ?_⟩
      exact ⟨rfl, [.row [str (rest s (k + n))]], .agg [u64 0, str ((rest s k).extract 0 n), nilS, nilS], ⟨⟨_, rfl, rfl⟩, ⟨.inl rfl, True.intro⟩, Nat.le_refl 1, rfl⟩, rfl, rfl, .inr ⟨rfl, rfl⟩⟩
theorem pone_f (s : ByteArray) (hs : s.size ≤ 1000000) : ACalls Try.prog 101 [.ptr 0 0, u8n 102] [.row [str s]] (RdR (rdP 102 s) s) := by
  have hr : rdP 102 s = if s.size < 8 then .err 3 else if ukE (s.extract 0 8) = 0 then .ok (.mk (bitsB (ukB (s.extract 0 8))) emp [] []) 8 else .err (ukE (s.extract 0 8)) := rfl
  rw [hr]
  by_cases h8 : s.size < 8
  · rw [if_pos h8]
    have ht := take_no s 8 h8 hs
    refine raw_rd ?_
    refine acalls_of_awp hT mixed Try.func101 rfl (by kernel_rfl) (by kernel_rfl) (Nat.le_of_ble_eq_true rfl) ?_
    refine callBadS (ht) [0] rfl ⟨.inl rfl, True.intro⟩ rfl rfl ?_
    exact ⟨rfl, [.dead], ⟨.inl rfl, True.intro⟩, Nat.le_refl 1, rfl, rfl, rfl⟩
  · rw [if_neg h8]
    have ht := take_ok s 8 (by omega) hs
    generalize s.extract 0 8 = x at *
    have hu := unkey_ok x
    have hB := bits_ok (ukB x)
    refine raw_rd ?_
    refine acalls_of_awp hT mixed Try.func101 rfl (by kernel_rfl) (by kernel_rfl) (Nat.le_of_ble_eq_true rfl) ?_
    refine callS (ht) [0] ⟨.inl rfl, True.intro⟩ rfl ?_
    rintro E G ⟨rfl, rfl⟩ _
    refine ⟨_, _, rfl, rfl, ?_⟩
    refine callP hu rfl rfl ?_
    refine fork (fun g => ?_) (fun g => ?_)
    · have g' : ukE x = 0 := beq_iff_eq.1 g
      rw [if_pos g']
      refine callP (check_yes _) rfl rfl ?_
      refine callP hB rfl rfl ?_
      exact ⟨rfl, [.row [str (rest s 8)]], .agg [u64n (bitsB (ukB x)), str ⟨#[]⟩, nilS, nilS], ⟨⟨_, rfl, rfl⟩, ⟨.inl rfl, True.intro⟩, Nat.le_refl 1, rfl⟩, rfl, rfl, .inr ⟨rfl, rfl⟩⟩
    · have g' : ¬ ukE x = 0 := beq_eq_false_iff_ne.1 g
      rw [if_neg g']
      refine callBad (check_no _) rfl ?_
      exact ⟨rfl, [.dead], ⟨.inr rfl, True.intro⟩, Nat.le_refl 1, rfl, rfl, rfl⟩
theorem unpL_n {s : ByteArray} (h : (unpL s).e = 0) : (unpL s).n = ((unpL s).n.toNat : Nat) ∧ (unpL s).n.toNat ≤ s.size ∧ 0 < (unpL s).n.toNat ∧ (unpL s).l.length ≤ 6 ∧ ∀ y ∈ (unpL s).l, y < 18446744073709551616 := by
  unfold unpL at h ⊢
  split at h
  · cases h
  · rename_i h0
    rw [if_neg h0]
    split at h
    · cases h
    · rename_i h1
      rw [if_neg h1]
      split at h
      · cases h
      · rename_i h2
        rw [if_neg h2]
        split at h
        · rename_i h3
          rw [if_pos h3]
          refine ⟨rfl, ?_, ?_, rightB_len h3, tagsB_lt s _⟩
          · show 1 + 8 * octB s 0 ≤ s.size
            omega
          · show 0 < 1 + 8 * octB s 0
            omega
        · cases h
theorem pone_l (s : ByteArray) (hs : s.size ≤ 1000000) : ACalls Try.prog 101 [.ptr 0 0, u8n 108] [.row [str s]] (RdR (rdP 108 s) s) := by
  have hr : rdP 108 s = if (unpL s).e = 0 then .ok (.mk 0 emp (unpL s).l []) (unpL s).n.toNat else .err (unpL s).e := rfl
  rw [hr]
  have hu := lunpack_ok s
  have hn := @unpL_n s
  generalize unpL s = u at *
  obtain ⟨l, n, e⟩ := u
  dsimp only at hu hn ⊢
  refine raw_rd ?_
  by_cases he : e = 0
  · obtain ⟨h1, h2, h3, _⟩ := hn he
    have ht := take_ok s n.toNat h2 hs
    rw [← h1] at ht
    rw [if_pos he]
    refine acalls_of_awp hT mixed Try.func101 rfl (by kernel_rfl) (by kernel_rfl) (Nat.le_of_ble_eq_true rfl) ?_
    refine callP hu rfl rfl ?_
    refine fork (fun g => ?_) (fun g => absurd he (beq_eq_false_iff_ne.1 g))
    refine callP (check_yes _) rfl rfl ?_
    refine callS (ht) [0] ⟨.inl rfl, True.intro⟩ rfl ?_
    rintro E G ⟨rfl, rfl⟩ _
    refine ⟨_, _, rfl, rfl, ?_⟩
    exact ⟨rfl, [.row [str (rest s n.toNat)]], .agg [u64 0, str ⟨#[]⟩, us l, nilS], ⟨⟨_, rfl, rfl⟩, ⟨.inl rfl, True.intro⟩, Nat.le_refl 1, rfl⟩, rfl, rfl, .inl rfl⟩
  · rw [if_neg he]
    refine acalls_of_awp hT mixed Try.func101 rfl (by kernel_rfl) (by kernel_rfl) (Nat.le_of_ble_eq_true rfl) ?_
    refine callP hu rfl rfl ?_
    refine fork (fun g => absurd (beq_iff_eq.1 g) he) (fun g => ?_)
    refine callBad (check_no _) rfl ?_
    exact ⟨rfl, [.dead], ⟨.inr rfl, True.intro⟩, Nat.le_refl 1, rfl, rfl, rfl⟩
theorem pone_ok (c : Nat) (s : ByteArray) (hc : isL c = true) (hs : s.size ≤ 1000000) : ACalls Try.prog 101 [.ptr 0 0, u8n c] [.row [str s]] (RdR (rdP c s) s) := by
  rcases isL_5 hc with rfl | rfl | rfl | rfl | rfl
  · exact pone_b s hs
  · exact pone_n s hs
  · exact pone_t s hs
  · exact pone_f s hs
  · exact pone_l s hs
end Go.Proofs.Ytgchhmfobkcnfaa.A

namespace Go.Proofs.Ytgchhmfobkcnfaa.A
open Go
set_option linter.unusedVariables false
set_option linter.unusedSimpArgs false
set_option maxRecDepth 100000
set_option pp.maxSteps 1500

def kidsN (c : Nat) (s : ByteArray) : Nat → Rs (List It)
  | 0 => .ok [] 0
  | j + 1 => match kidsN c s j with
    | .err e => .err e
    | .ok l m => match rdP c (rest s m) with
      | .err e => .err e
      | .ok x k => .ok (l ++ [x]) (m + k)
theorem kidsN_ok {c : Nat} {s : ByteArray} {j : Nat} {l : List It} {m : Nat} (h : kidsN c s j = .ok l m) : kidsN c s (j + 1) = match rdP c (rest s m) with
      | .err e => .err e
      | .ok x k => .ok (l ++ [x]) (m + k) := by
  show (match kidsN c s j with | .err e => _ | .ok l m => _) = _
  rw [h]
theorem kidsN_err {c : Nat} {s : ByteArray} {j : Nat} {e : Int} (h : kidsN c s j = .err e) : ∀ i, kidsN c s (j + i) = .err e
  | 0 => h
  | i + 1 => by
    show (match kidsN c s (j + i) with | .err e => _ | .ok l m => _) = _
    rw [kidsN_err h i]
theorem kidsN_len {c : Nat} {s : ByteArray} : ∀ {j : Nat} {l : List It} {m : Nat}, kidsN c s j = .ok l m → l.length = j
  | 0, l, m, h => by cases h; rfl
  | j + 1, l, m, h => by
    cases hq : kidsN c s j with
    | err e => rw [show kidsN c s (j + 1) = _ from kidsN_err hq 1] at h; cases h
    | ok l2 m2 =>
      rw [kidsN_ok hq] at h
      cases hr : rdP c (rest s m2) with
      | err e => rw [hr] at h; cases h
      | ok x k =>
        rw [hr] at h
        cases h
        rw [List.length_append, kidsN_len hq]
        rfl
def lstP (c : Nat) (s : ByteArray) : Rs It :=
  match cntM 64 (byL s) with
  | .err e => .err e
  | .ok n k => match kidsN c (rest s k) n with
    | .err e => .err e
    | .ok l m => .ok (.mk 0 emp [] l) (k + m)
structure PlSt (c : Nat) (s : ByteArray) (k n : Nat) where
  j : Nat
  l : List It
  m : Nat
  hj : j ≤ n
  hl : kidsN c (rest s k) j = .ok l m
theorem renL_it (r : Nat → Nat) (x : It) : renL r (itC x) = itC x := by
  obtain ⟨n, s, l, k⟩ := x
  rfl
theorem belowL_it (m : Nat) (x : It) : belowL m (itC x) = true := by
  obtain ⟨n, s, l, k⟩ := x
  rfl
theorem frz0_it (H : Heap) (m k : Nat) (x : It) : mapO (frz0 H m (k + 1)) (itC x) = some (itC x) := by
  obtain ⟨n, s, l, kk⟩ := x
  rfl
theorem renO_its (r : Nat → Nat) (l : List It) : renO r (.row (flat itC l)) = .row (flat itC l) := renO_flat renL_it r l
theorem flat_snoc (l : List It) (x : It) : flat itC l ++ itC x = flat itC (l ++ [x]) := by rw [flat_append, flat_cons, flat_nil, List.append_nil]
theorem frz_its {H : Heap} {i n m k : Nat} {L : List It} (h : nth H i = some (.row (flat itC L))) (hn : n = L.length) (hm : Nat.blt i m = false) : frz H m (k + 3) (.slc i 0 n 4) = some (itsV L) := by
  subst hn
  have h1 : rdN H i 0 (L.length * 4) = some (flat itC L) := rdN_all h (by rw [flat_len itC_len])
  have h2 : mapO (frz0 H m (k + 2)) (flat itC L) = some (flat itC L) := mapO_flat (fun x => frz0_it H m (k + 1) x) L
  simp only [frz, frz0, hm, cond_false, h1, h2]
  rfl
theorem frz_agg {H : Heap} {m k : Nat} {cs ds : List AV} (h : mapO (frz H m k) cs = some ds) : frz H m (k + 1) (.agg cs) = some (.agg ds) := by
  simp only [frz, h]
theorem EndR_it3 (n : Nat) (s : ByteArray) (k : List It) : ∀ Y e, EndR Y (.ret (.agg [u64n n, str s, nilS, itsV k])) e → EndR Y (.ret (itA (.mk n s [] k))) e := by
  have e : itA (.mk n s [] k) = .agg [u64n n, str s, us [], itsV k] := by
    show AV.agg (itC (.mk n s [] k)) = _
    rw [itC, itsC_flat]
    rfl
  rw [e]
  exact EndR_agg fun X vs h => VL_4 (fun _ h => VR_nilView h) (fun _ h => h) h
theorem plist_ok (c : Nat) (s : ByteArray) (hc : isL c = true) (hs : s.size ≤ 1000000) : ACalls Try.prog 100 [.ptr 0 0, u8n c] [.row [str s]] (RdR (lstP c s) s) := by
  have hn := pcount_ok s 64 hs (by decide)
  unfold lstP
  cases hcm : cntM 64 (byL s) with
  | err e =>
    rw [hcm] at hn
    refine acalls_of_awp hT mixed Try.func100 rfl (by kernel_rfl) (by kernel_rfl) (Nat.le_of_ble_eq_true rfl) ?_
    refine callBadS hn [0] rfl ⟨.inl rfl, True.intro⟩ rfl rfl ?_
    exact ⟨rfl, [.dead], ⟨.inl rfl, True.intro⟩, Nat.le_refl 1, rfl, rfl, rfl⟩
  | ok n k =>
    rw [hcm] at hn
    obtain ⟨hn64, hk0, hkl, _⟩ := cntM_lt hcm
    rw [byL_len] at hkl
    dsimp only
    refine ACalls.weakR (R := fun E G => match kidsN c (rest s k) n with
      | .ok l m => E = .ret (.agg [u64n 0, str emp, nilS, itsV l]) ∧ G = [.row [str (rest s (k + m))]]
      | .err e => E = .pan (fltV e) ∧ G = [.dead]) ?_ ?_
    · refine acalls_of_awp hT mixed Try.func100 rfl (by kernel_rfl) (by kernel_rfl) (Nat.le_of_ble_eq_true rfl) ?_
      refine callS hn [0] ⟨.inl rfl, True.intro⟩ rfl ?_
      rintro E G ⟨rfl, rfl⟩ _
      refine ⟨_, _, rfl, rfl, ?_⟩
      refine loopG (α := PlSt c s k n) (fun z => [(0, .ptr 0 0), (1, u8n c), (4, .ptr 1 0), (5, .ptr 2 0), (6, i64 ((n - z.j : Nat) : Int))]) (fun z => [.row [str (rest s (k + z.m))], .row [u64 0, str ⟨#[]⟩, nilS, nilS], .row [u64 0, str ⟨#[]⟩, nilS, .slc 3 0 z.l.length 4], .row (flat itC z.l)]) [] (fun z => n - z.j)
        ⟨0, [], 0, Nat.zero_le _, rfl⟩ [.cell 2 3 4] [0, 1, 2, 3] ⟨⟨rfl, rfl, rfl, rfl, rfl, True.intro⟩, ⟨.inl rfl, .inl rfl, .inl rfl, .inl rfl, True.intro⟩, rfl, rfl, rfl⟩ ?_
      rintro ⟨j, l, m, hj, hl⟩ K hK
      have hll := kidsN_len hl
      have hdec : j < n → wrp .i64 (((n - j : Nat) : Int) - 1) = ((n - (j + 1) : Nat) : Int) := fun h => by rw [wrpE, wi64]; omega
      refine forkD (fun h => ?_) (fun h => ?_)
      · have hjn : j < n := by have : ((n - j : Nat) : Int) > 0 := h; omega
        have hone := pone_ok c (rest s (k + m)) hc (by rw [rest_size]; omega)
        refine ⟨[0, 0, 0, 0, 1, 1, 2, 2, 3], [[], [0], [], [], [2, 3], [2, 3, 4], [0, 1, 2, 3, 4, 5], [0, 1, 2, 3, 4, 5, 6], [0, 1, 2, 3, 4, 5, 6, 7]], [0, 0, 0, 0, 0, 0, 1, 1, 1], [4, 6, 8], [[5], [13], [0], [1], [15, 16], [17], [14, 18], [5], [20, 19]], Ob.intro (by kernel_rfl) ?_⟩
        repeat refine same ?_
        refine callS hone [0] ⟨.inl rfl, True.intro⟩ rfl ?_
        intro E G hE _
        cases hq : rdP c (rest s (k + m)) with
        | err e =>
          rw [hq] at hE
          obtain ⟨rfl, rfl⟩ := hE
          have hbad : kidsN c (rest s k) n = .err e := by
            have h1 : kidsN c (rest s k) (j + 1) = .err e := by rw [kidsN_ok hl, rest_rest, hq]
            have := kidsN_err h1 (n - (j + 1))
            rw [show j + 1 + (n - (j + 1)) = n by omega] at this
            exact this
          rw [hbad]
          refine ⟨_, _, rfl, rfl, ?_⟩
          exact ⟨rfl, [.dead], ⟨.inl rfl, True.intro⟩, Nat.le_refl 1, rfl, rfl, rfl⟩
        | ok x kk =>
          rw [hq] at hE
          obtain ⟨rfl, rfl⟩ := hE
          have hnext : kidsN c (rest s k) (j + 1) = .ok (l ++ [x]) (m + kk) := by rw [kidsN_ok hl, rest_rest, hq]
          obtain ⟨n2, s2, l2, k2⟩ := x
          refine ⟨.ret (.agg [u64n n2, str s2, us l2, .view k2.length (itsC k2)]), [.row [str (rest s (k + m + kk))], .row [u64 0, str ⟨#[]⟩, nilS, nilS], .row [u64 0, str ⟨#[]⟩, nilS, .slc 3 0 l.length 4], .row (flat itC l), .dead], rfl, by rw [rest_rest]; rfl, ?_⟩
          repeat refine same ?_
          refine Ob.intro rfl ?_
          refine optK_intro (rdN_all (cs := flat itC l) rfl (by rw [flat_len itC_len])) ?_
          refine Ob.intro (show (l.length + 1) * 72 ≤ 140737488355328 ∧ l.length + 1 ≤ 9223372036854775807 by omega) ?_
          repeat refine same ?_
          refine hK ⟨j + 1, l ++ [.mk n2 s2 l2 k2], m + kk, hjn, hnext⟩ [] [0, 1, 2, 5] _ (show n - j = n - (j + 1) + 1 by omega) ⟨⟨rfl, rfl, rfl, rfl, congrArg i64 (hdec hjn), True.intro⟩, ⟨.inl (by rw [← Nat.add_assoc]; rfl), .inl rfl, .inl ?_, .inl ?_, True.intro⟩, rfl, rfl, rfl⟩
          · show some (AObj.row [u64 0, str ⟨#[]⟩, nilS, .slc 5 0 (l.length + 1) 4]) = some (renO _ (.row [u64 0, str ⟨#[]⟩, nilS, .slc 3 0 (l ++ [It.mk n2 s2 l2 k2]).length 4]))
            rw [List.length_append]
            rfl
          · show some (AObj.row (flat itC l ++ itC (.mk n2 s2 l2 k2))) = some (renO _ (.row (flat itC (l ++ [It.mk n2 s2 l2 k2]))))
            rw [renO_its, flat_snoc]
      · have hjn : j = n := by have : ¬ ((n - j : Nat) : Int) > 0 := h; omega
        subst hjn
        rw [hl]
        have hf : frz [.row [str (rest s (k + m))], .row [u64 0, str ⟨#[]⟩, nilS, .slc 3 0 l.length 4], .row [u64 0, str ⟨#[]⟩, nilS, .slc 3 0 l.length 4], .row (flat itC l)] 1 7 (.slc 3 0 l.length 4) = some (itsV l) := frz_its (k := 4) rfl rfl rfl
        have hf2 : frz [.row [str (rest s (k + m))], .row [u64 0, str ⟨#[]⟩, nilS, .slc 3 0 l.length 4], .row [u64 0, str ⟨#[]⟩, nilS, .slc 3 0 l.length 4], .row (flat itC l)] 1 8 (.agg [u64 0, str ⟨#[]⟩, nilS, .slc 3 0 l.length 4]) = some (.agg [u64n 0, str emp, nilS, itsV l]) := frz_agg (by simp only [mapO, hf]; rfl)
        exact ⟨rfl, [.row [str (rest s (k + m))]], _, ⟨⟨_, rfl, hf2⟩, ⟨.inl rfl, True.intro⟩, Nat.le_refl 1, rfl⟩, rfl, rfl⟩
    · intro E G hE
      cases hq : kidsN c (rest s k) n with
      | err e =>
        rw [hq] at hE
        exact ⟨E, hE, EndR_refl _⟩
      | ok l m =>
        rw [hq] at hE
        obtain ⟨rfl, rfl⟩ := hE
        exact ⟨_, ⟨rfl, rfl⟩, EndR_it3 0 emp l⟩
end Go.Proofs.Ytgchhmfobkcnfaa.A
