/- wire: what is taken from the front: bytes, numbers. No condition. -/
import Derived.Test.YthebddjpnkimjaaWh
namespace Go.Proofs.Ythebddjpnkimjaa.A
open Go
set_option linter.unusedVariables false
set_option linter.unusedSimpArgs false
set_option maxRecDepth 100000
set_option pp.maxSteps 1500

/-- What is read: something, and so many bytes; or an error. -/
inductive Rs (α : Type) where
  | err (e : Int)
  | ok (x : α) (n : Nat)
def cntG : List Nat → Nat → Nat → Rs Nat
  | [], _, _ => .err 3
  | c :: r, i, acc => if 9 < i ∨ i = 9 ∧ 1 < c % 128 then .err 4 else if c < 128 then (if c = 0 ∧ 0 < i then .err 4 else .ok (acc + c % 128 * 128 ^ i) (i + 1)) else cntG r (i + 1) (acc + c % 128 * 128 ^ i)
theorem cntG_cons (c : Nat) (r : List Nat) (i acc : Nat) : cntG (c :: r) i acc = if 9 < i ∨ i = 9 ∧ 1 < c % 128 then .err 4 else if c < 128 then (if c = 0 ∧ 0 < i then .err 4 else .ok (acc + c % 128 * 128 ^ i) (i + 1)) else cntG r (i + 1) (acc + c % 128 * 128 ^ i) := rfl
def cntP (b : List Nat) : Rs Nat := cntG b 0 0
def rest (s : ByteArray) (k : Nat) : ByteArray := s.extract k s.size
theorem rest_size {s : ByteArray} {k : Nat} : (rest s k).size = s.size - k := by unfold rest; rw [ByteArray.size_extract]; omega
theorem rest_byL (s : ByteArray) (k : Nat) : byL (rest s k) = (byL s).drop k := by
  unfold rest
  rw [extractB, List.take_of_length_le (by rw [byL_len]; exact Nat.le_refl _)]
theorem rest_rest (s : ByteArray) (i k : Nat) : rest (rest s i) k = rest s (i + k) := by
  apply byL_inj
  rw [rest_byL, rest_byL, rest_byL, List.drop_drop]
theorem rest_zero (s : ByteArray) : rest s 0 = s := by
  apply byL_inj
  rw [rest_byL, List.drop_zero]
theorem rest_at (s : ByteArray) (i k : Nat) : octB (rest s i) k = octB s (i + k) := by
  rw [octB_eq, octB_eq, rest_byL, List.getD_eq_getElem?_getD, List.getD_eq_getElem?_getD, List.getElem?_drop]
theorem take_ok (s : ByteArray) (n : Nat) (h : n ≤ s.size) (hs : s.size ≤ 1000000) : ACalls Try.prog 44 [.ptr 0 0, i64 (n : Nat)] [.row [str s]] (RetH (str (s.extract 0 n)) [.row [str (rest s n)]]) := by
  refine acalls_of_awp hT mixed Try.func44 rfl (by kernel_rfl) (by kernel_rfl) (Nat.le_of_ble_eq_true rfl) ?_
  refine forkD (fun g => ?_) (fun g => absurd (show (s.size : Int) ≥ (n : Int) by omega) g)
  refine callP (check_yes 3) rfl rfl ?_
  refine Ob.intro (show (0 : Int) ≤ 0 ∧ (0 : Int) ≤ (n : Nat) ∧ ((n : Nat) : Int) ≤ (s.size : Int) by omega) ?_
  refine Ob.intro (show (0 : Int) ≤ (n : Nat) ∧ ((n : Nat) : Int) ≤ (s.size : Nat) ∧ ((s.size : Nat) : Int) ≤ (s.size : Int) by omega) ?_
  exact ⟨rfl, [.row [str (rest s n)]], str (s.extract 0 n), ⟨⟨_, rfl, rfl⟩, ⟨.inl rfl, True.intro⟩, Nat.le_refl 1, rfl⟩, rfl, rfl⟩
theorem take_no (s : ByteArray) (n : Nat) (h : s.size < n) (hs : s.size ≤ 1000000) : ACalls Try.prog 44 [.ptr 0 0, i64 (n : Nat)] [.row [str s]] (fun E G => E = .pan (fltV 3) ∧ G = [.dead]) := by
  refine acalls_of_awp hT mixed Try.func44 rfl (by kernel_rfl) (by kernel_rfl) (Nat.le_of_ble_eq_true rfl) ?_
  refine forkD (fun g => absurd (show (s.size : Int) ≥ (n : Int) from g) (by omega)) (fun g => ?_)
  refine callBad (check_no 3) rfl ?_
  exact ⟨rfl, [.dead], ⟨.inr rfl, True.intro⟩, Nat.le_refl 1, rfl, rfl, rfl⟩
theorem callBadS {P : Program} {g : FuncId} {bs args : List AV} {u : Value} {Hs Hs' H H' : Heap} {K : AV → Heap → Prop} {Kp : Value → Heap → Prop} (h : ACalls P g bs Hs (fun E G => E = .pan u ∧ G = Hs')) (is : List Nat) (ha : args = renL (rn is H.length) bs) (hsel : Sel H (rn is H.length) is Hs) (hn : noDup is = true)
    (hm : merge H is (renH (rn is H.length) Hs') = H') (k : Kp u H') : ACalls P g args H (panK K Kp) := by
  subst ha
  refine callS h is hsel hn ?_
  rintro E G ⟨rfl, rfl⟩ _
  exact ⟨_, _, rfl, hm, k⟩
theorem p128 (i : Nat) : 128 ^ i = 2 ^ (7 * i) := by rw [Nat.pow_mul]
theorem shl_shr (low i : Nat) (h : low < 128) (hi : i ≤ 9) : (hd ((wrp .u64 ((low : Int) * 2 ^ min ((7 * i : Nat) : Int).toNat IntKind.u64.bits)).fdiv (2 ^ min ((7 * i : Nat) : Int).toNat IntKind.u64.bits)) = (low : Int)) ↔ (i ≤ 8 ∨ low ≤ 1) := by
  rw [hd_eq, Int.toNat_natCast, Nat.min_eq_left (show 7 * i ≤ IntKind.u64.bits from show 7 * i ≤ 64 by omega)]
  have e2 : (2 : Int) ^ (7 * i) = ((128 ^ i : Nat) : Int) := by rw [p128, Int.natCast_pow]; rfl
  rw [e2, wrpE, wu64, Int.fdiv_eq_ediv_of_nonneg _ (Int.natCast_nonneg _)]
  have e3 : ((low : Int) * ((128 ^ i : Nat) : Int)) % 18446744073709551616 / ((128 ^ i : Nat) : Int) = (((low * 128 ^ i) % 18446744073709551616 / 128 ^ i : Nat) : Int) := by rw [Int.natCast_ediv, Int.natCast_emod, Int.natCast_mul]; rfl
  rw [e3]
  have key : (low * 128 ^ i) % 18446744073709551616 / 128 ^ i = low ↔ (i ≤ 8 ∨ low ≤ 1) := by
    by_cases h8 : i ≤ 8
    · have hq : 128 ^ i ≤ 128 ^ 8 := Nat.pow_le_pow_right (by decide) h8
      have hq2 : (128 : Nat) ^ 8 = 72057594037927936 := by decide
      have hpos : 0 < 128 ^ i := Nat.pow_pos (by decide)
      have hm : low * 128 ^ i ≤ 127 * 72057594037927936 := Nat.mul_le_mul (by omega) (by omega)
      rw [Nat.mod_eq_of_lt (by omega), Nat.mul_div_cancel _ hpos]
      exact ⟨fun _ => .inl h8, fun _ => rfl⟩
    · have h9 : i = 9 := by omega
      have hq2 : (128 : Nat) ^ 9 = 9223372036854775808 := by decide
      rw [h9, hq2]
      omega
  rw [← key]
  generalize (low * 128 ^ i) % 18446744073709551616 / 128 ^ i = w
  omega
theorem grow_lt {acc low i : Nat} (ha : acc < 128 ^ i) (hl : low < 128) : acc + low * 128 ^ i < 128 ^ (i + 1) := by
  have hmul : low * 128 ^ i ≤ 127 * 128 ^ i := Nat.mul_le_mul_right _ (by omega)
  rw [Nat.pow_succ]
  generalize 128 ^ i = w at *
  omega
theorem or_low (low i acc : Nat) (h : low < 128) (hi : i ≤ 9) (ha : acc < 128 ^ i) (hok : i ≤ 8 ∨ low ≤ 1) :
    wrp .u64 ((BitVec.ofInt IntKind.u64.bits (acc : Int) ||| BitVec.ofInt IntKind.u64.bits (wrp .u64 ((low : Int) * 2 ^ min ((7 * i : Nat) : Int).toNat IntKind.u64.bits))).toNat : Int) = ((acc + low * 128 ^ i : Nat) : Int) ∧ acc + low * 128 ^ i < 18446744073709551616 := by
  have hp : 128 ^ i ≤ 9223372036854775808 := Nat.le_trans (Nat.pow_le_pow_right (n := 128) (by decide) hi) (by decide)
  have hlt : low * 128 ^ i + acc < 18446744073709551616 := by
    rcases hok with h8 | h1
    · have hq : 128 ^ i ≤ 72057594037927936 := Nat.le_trans (Nat.pow_le_pow_right (n := 128) (by decide) h8) (by decide)
      have : low * 128 ^ i ≤ 127 * 72057594037927936 := Nat.mul_le_mul (by omega) hq
      omega
    · have : low * 128 ^ i ≤ 1 * 9223372036854775808 := Nat.mul_le_mul h1 hp
      omega
  have e1 : wrp .u64 ((low : Int) * 2 ^ min ((7 * i : Nat) : Int).toNat IntKind.u64.bits) = ((low * 128 ^ i : Nat) : Int) := by
    rw [Int.toNat_natCast, Nat.min_eq_left (show 7 * i ≤ IntKind.u64.bits from show 7 * i ≤ 64 by omega)]
    have : (2 : Int) ^ (7 * i) = ((128 ^ i : Nat) : Int) := by rw [p128, Int.natCast_pow]; rfl
    rw [this, ← Int.natCast_mul]
    generalize low * 128 ^ i = w at *
    rw [wrpE, wu64]
    omega
  have e2 : (BitVec.ofInt 64 ((low * 128 ^ i : Nat) : Int)).toNat = low * 128 ^ i := by
    rw [BitVec.toNat_ofInt]
    generalize low * 128 ^ i = w at *
    omega
  have e3 : (BitVec.ofInt 64 (acc : Int)).toNat = acc := by rw [BitVec.toNat_ofInt]; omega
  have e4 : (BitVec.ofInt IntKind.u64.bits (acc : Int) ||| BitVec.ofInt IntKind.u64.bits ((low * 128 ^ i : Nat) : Int)).toNat = low * 128 ^ i + acc := by
    show (BitVec.ofInt 64 (acc : Int) ||| BitVec.ofInt 64 ((low * 128 ^ i : Nat) : Int)).toNat = _
    rw [BitVec.toNat_or, e2, e3, Nat.or_comm, p128, Nat.mul_comm, ← Nat.two_pow_add_eq_or_of_lt (by rw [← p128]; exact ha)]
  rw [e1, e4]
  generalize low * 128 ^ i = w at *
  refine ⟨?_, by omega⟩
  rw [wrpE, wu64]
  omega
def NumR (o : Rs Nat) (s : ByteArray) : AEnd → Heap → Prop := fun E G =>
  match o with
  | .ok n k => E = .ret (u64n n) ∧ G = [.row [str (rest s k)]]
  | .err e => E = .pan (fltV e) ∧ G = [.dead]
structure CnSt (s : ByteArray) where
  i : Nat
  acc : Nat
  hi : i ≤ s.size
  h10 : i ≤ 10
  ha : acc < 128 ^ i
  ha64 : acc < 18446744073709551616
  hG : cntP (byL s) = cntG ((byL s).drop i) i acc
theorem drop_oct {s : ByteArray} {i : Nat} (h : i < s.size) : (byL s).drop i = octB s i :: (byL s).drop (i + 1) := by
  rw [List.drop_eq_getElem_cons (by rw [byL_len]; exact h)]
  congr 1
  have := byL_at h
  rw [List.getElem?_eq_getElem (by rw [byL_len]; exact h)] at this
  exact Option.some.inj this
theorem pnumber_ok (s : ByteArray) (hs : s.size ≤ 1000000) : ACalls Try.prog 45 [.ptr 0 0] [.row [str s]] (NumR (cntP (byL s)) s) := by
  refine acalls_of_awp hT mixed Try.func45 rfl (by kernel_rfl) (by kernel_rfl) (Nat.le_of_ble_eq_true rfl) ?_
  refine loopI (α := CnSt s) (fun z => [(0, .ptr 0 0), (3, u64n z.acc), (4, i64 (7 * z.i : Nat))]) (fun z => [.row [str (rest s z.i)]]) (fun z => s.size - z.i) ⟨0, 0, Nat.zero_le _, by omega, by decide, by decide, rfl⟩ [0] ⟨⟨rfl, rfl, rfl, True.intro⟩, ⟨.inl (by rw [rest_zero]; rfl), True.intro⟩, rfl, rfl, rfl⟩ ?_
  rintro ⟨i, acc, hi, h10, ha, ha64, hG⟩ K hK
  by_cases hz : i = s.size
  · have hn := take_no (rest s i) 1 (by rw [rest_size]; omega) (by rw [rest_size]; omega)
    have he : cntP (byL s) = .err 3 := by rw [hG, List.drop_eq_nil_of_le (by rw [byL_len]; omega)]; rfl
    rw [he]
    refine callBadS hn [0] rfl ⟨.inl rfl, True.intro⟩ rfl rfl ?_
    exact ⟨rfl, [.dead], ⟨.inl rfl, True.intro⟩, Nat.le_refl 1, rfl, rfl, rfl⟩
  · have his : i < s.size := by omega
    have hn := take_ok (rest s i) 1 (by rw [rest_size]; omega) (by rw [rest_size]; omega)
    rw [rest_rest] at hn
    have hoc : octB ((rest s i).extract 0 1) 0 = octB s i := by rw [ext_at (by decide) (by rw [rest_size]; omega), rest_at]; rfl
    have hsz1 : ((rest s i).extract 0 1).size = 1 := by rw [ext_size (by rw [rest_size]; omega)]
    have hc := octB_lt s i
    rw [drop_oct his] at hG
    generalize octB s i = c at *
    generalize (rest s i).extract 0 1 = x at *
    have hwc : wrp .u64 (octB x 0 : Int) = ((c : Nat) : Int) := by rw [hoc, wrpE, wu64]; omega
    have hlow : hd (((c : Nat) : Int).tmod 128) = ((c % 128 : Nat) : Int) := by rw [hd_eq]; rfl
    refine callS hn [0] ⟨.inl rfl, True.intro⟩ rfl ?_
    rintro E G ⟨rfl, rfl⟩ _
    refine ⟨_, _, rfl, rfl, ?_⟩
    refine Ob.intro (show (0 : Int) ≤ 0 ∧ 0 < (x.size : Int) by omega) ?_
    refine Ob.intro (by decide) ?_
    have hxi : (x.data.toList.getD (0 : Int).toNat 0).toNat = octB x 0 := rfl
    by_cases h9 : i ≤ 9
    · have hss := shl_shr (c % 128) i (by omega) h9
      refine forkD (fun g => ?_) (fun g => absurd (show ((7 * i : Nat) : Int) < 64 by omega) g)
      have h7 : (0 : Int) ≤ ((7 * i : Nat) : Int) := by omega
      have hlw : hd ((wrp .u64 ((octB x 0 : Nat) : Int)).tmod 128) = ((c % 128 : Nat) : Int) := by rw [hwc, hlow]
      refine Ob.intro h7 ?_
      refine Ob.intro h7 ?_
      refine fork (fun g => ?_) (fun g => ?_)
      · have g2 : hd ((wrp .u64 (hd ((wrp .u64 ((octB x 0 : Nat) : Int)).tmod 128) * 2 ^ min ((7 * i : Nat) : Int).toNat IntKind.u64.bits)).fdiv (2 ^ min ((7 * i : Nat) : Int).toNat IntKind.u64.bits)) = hd ((wrp .u64 ((octB x 0 : Nat) : Int)).tmod 128) := beq_iff_eq.1 g
        rw [hlw] at g2
        have hok := hss.1 g2
        have hor := or_low (c % 128) i acc (by omega) h9 ha hok
        rw [cntG_cons, if_neg (show ¬ (9 < i ∨ i = 9 ∧ 1 < c % 128) by omega)] at hG
        have hacc : wrp .u64 ((BitVec.ofInt IntKind.u64.bits (acc : Int) ||| BitVec.ofInt IntKind.u64.bits (wrp .u64 (hd ((wrp .u64 ((octB x 0 : Nat) : Int)).tmod 128) * 2 ^ min ((7 * i : Nat) : Int).toNat IntKind.u64.bits))).toNat : Int) = ((acc + c % 128 * 128 ^ i : Nat) : Int) := by rw [hlw]; exact hor.1
        refine callP (check_yes 4) rfl rfl ?_
        refine Ob.intro h7 ?_
        refine forkD (fun q => ?_) (fun q => ?_)
        · have q' : c < 128 := by
            have : wrp .u64 ((octB x 0 : Nat) : Int) < 128 := q
            rw [hwc] at this
            omega
          rw [if_pos q'] at hG
          have good : ¬ (c = 0 ∧ 0 < i) → cntP (byL s) = .ok (acc + c % 128 * 128 ^ i) (i + 1) := fun hh => by rw [hG, if_neg hh]
          have fin : ¬ (c = 0 ∧ 0 < i) → NumR (cntP (byL s)) s (.ret (.sc (.int .u64 (wrp .u64 ((BitVec.ofInt IntKind.u64.bits (acc : Int) ||| BitVec.ofInt IntKind.u64.bits (wrp .u64 (hd ((wrp .u64 ((octB x 0 : Nat) : Int)).tmod 128) * 2 ^ min ((7 * i : Nat) : Int).toNat IntKind.u64.bits))).toNat : Int))))) [.row [str (rest s (i + 1))]] := fun hh => by
            rw [good hh, hacc]
            exact ⟨rfl, rfl⟩
          refine forkD (fun u => ?_) (fun u => ?_)
          · have u' : c ≠ 0 := fun e => by
              have : wrp .u64 ((octB x 0 : Nat) : Int) > 0 := u
              rw [hwc] at this
              omega
            refine callP (check_yes 4) rfl rfl ?_
            exact ⟨rfl, [.row [str (rest s (i + 1))]], _, ⟨⟨_, rfl, rfl⟩, ⟨.inl rfl, True.intro⟩, Nat.le_refl 1, rfl⟩, fin (fun hh => u' hh.1)⟩
          · have u' : c = 0 := by
              have : ¬ wrp .u64 ((octB x 0 : Nat) : Int) > 0 := u
              rw [hwc] at this
              omega
            refine fork (fun w => ?_) (fun w => ?_)
            · have w' : i = 0 := by
                have : ((7 * i : Nat) : Int) = 0 := beq_iff_eq.1 w
                omega
              refine callP (check_yes 4) rfl rfl ?_
              exact ⟨rfl, [.row [str (rest s (i + 1))]], _, ⟨⟨_, rfl, rfl⟩, ⟨.inl rfl, True.intro⟩, Nat.le_refl 1, rfl⟩, fin (fun hh => by omega)⟩
            · have w' : 0 < i := by
                have : ((7 * i : Nat) : Int) ≠ 0 := beq_eq_false_iff_ne.1 w
                omega
              have he : cntP (byL s) = .err 4 := by rw [hG, if_pos ⟨u', w'⟩]
              rw [he]
              refine callBad (check_no 4) rfl ?_
              exact ⟨rfl, [.dead], ⟨.inr rfl, True.intro⟩, Nat.le_refl 1, rfl, rfl, rfl⟩
        · have q' : ¬ c < 128 := by
            have : ¬ wrp .u64 ((octB x 0 : Nat) : Int) < 128 := q
            rw [hwc] at this
            omega
          rw [if_neg q'] at hG
          have hmul : c % 128 * 128 ^ i ≤ 127 * 128 ^ i := Nat.mul_le_mul_right _ (by omega)
          refine hK ⟨i + 1, acc + c % 128 * 128 ^ i, his, by omega, grow_lt ha (by omega), hor.2, hG⟩ [0] _ (show s.size - i = s.size - (i + 1) + 1 by omega) ⟨⟨rfl, congrArg (fun z => AV.sc (.int .u64 z)) hacc, congrArg i64 ?_, True.intro⟩, ⟨.inl rfl, True.intro⟩, rfl, rfl, rfl⟩
          show wrp .i64 (((7 * i : Nat) : Int) + 7) = ((7 * (i + 1) : Nat) : Int)
          rw [wrpE, wi64]
          omega
      · have g2 : ¬ hd ((wrp .u64 (hd ((wrp .u64 ((octB x 0 : Nat) : Int)).tmod 128) * 2 ^ min ((7 * i : Nat) : Int).toNat IntKind.u64.bits)).fdiv (2 ^ min ((7 * i : Nat) : Int).toNat IntKind.u64.bits)) = hd ((wrp .u64 ((octB x 0 : Nat) : Int)).tmod 128) := beq_eq_false_iff_ne.1 g
        rw [hlw, hss] at g2
        have he : cntP (byL s) = .err 4 := by rw [hG, cntG_cons, if_pos (by omega)]
        rw [he]
        refine callBad (check_no 4) rfl ?_
        exact ⟨rfl, [.dead], ⟨.inr rfl, True.intro⟩, Nat.le_refl 1, rfl, rfl, rfl⟩
    · refine forkD (fun g => absurd (show ((7 * i : Nat) : Int) < 64 from g) (by omega)) (fun g => ?_)
      have he : cntP (byL s) = .err 4 := by rw [hG, cntG_cons, if_pos (by omega)]
      rw [he]
      refine callBad (check_no 4) rfl ?_
      exact ⟨rfl, [.dead], ⟨.inr rfl, True.intro⟩, Nat.le_refl 1, rfl, rfl, rfl⟩
theorem cntG_lt : ∀ (b : List Nat) (i acc n k : Nat), i ≤ 10 → acc < 128 ^ i → (i = 10 → acc < 18446744073709551616) → cntG b i acc = .ok n k → n < 18446744073709551616 ∧ i < k ∧ k ≤ i + b.length
  | [], i, acc, n, k, _, _, _, h => by cases h
  | c :: r, i, acc, n, k, hi, ha, h10, h => by
    rw [cntG_cons] at h
    by_cases h1 : 9 < i ∨ i = 9 ∧ 1 < c % 128
    · rw [if_pos h1] at h
      cases h
    · rw [if_neg h1] at h
      have hor := (or_low (c % 128) i acc (by omega) (by omega) ha (by omega)).2
      by_cases h2 : c < 128
      · rw [if_pos h2] at h
        by_cases h3 : c = 0 ∧ 0 < i
        · rw [if_pos h3] at h
          cases h
        · rw [if_neg h3] at h
          cases h
          exact ⟨hor, by omega, by simp only [List.length_cons]; omega⟩
      · rw [if_neg h2] at h
        have hmul : c % 128 * 128 ^ i ≤ 127 * 128 ^ i := Nat.mul_le_mul_right _ (by omega)
        obtain ⟨h3, h4, h5⟩ := cntG_lt r (i + 1) _ n k (by omega) (grow_lt ha (by omega)) (fun _ => hor) h
        exact ⟨h3, by omega, by simp only [List.length_cons]; omega⟩
theorem cntP_lt {b : List Nat} {n k : Nat} (h : cntP b = .ok n k) : n < 18446744073709551616 ∧ 0 < k ∧ k ≤ b.length := by
  obtain ⟨h1, h2, h3⟩ := cntG_lt b 0 0 n k (by omega) (by decide) (fun h => by omega) h
  exact ⟨h1, h2, by omega⟩
/-- A number that may not be too great. -/
def cntM (most : Nat) (b : List Nat) : Rs Nat :=
  match cntP b with
  | .err e => .err e
  | .ok n k => if n ≤ most then .ok n k else .err 5
def CntR (o : Rs Nat) (s : ByteArray) : AEnd → Heap → Prop := fun E G =>
  match o with
  | .ok n k => E = .ret (i64 (n : Nat)) ∧ G = [.row [str (rest s k)]]
  | .err e => E = .pan (fltV e) ∧ G = [.dead]
theorem pcount_ok (s : ByteArray) (most : Nat) (hs : s.size ≤ 1000000) (hm : most ≤ 1000) : ACalls Try.prog 43 [.ptr 0 0, i64 (most : Nat)] [.row [str s]] (CntR (cntM most (byL s)) s) := by
  have hn := pnumber_ok s hs
  have hlt : ∀ n k, cntP (byL s) = .ok n k → n < 18446744073709551616 := fun n k h => (cntP_lt h).1
  have hwm : wrp .u64 (most : Int) = ((most : Nat) : Int) := by rw [wrpE, wu64]; omega
  unfold cntM
  cases hc : cntP (byL s) with
  | err e =>
    rw [hc] at hn
    refine acalls_of_awp hT mixed Try.func43 rfl (by kernel_rfl) (by kernel_rfl) (Nat.le_of_ble_eq_true rfl) ?_
    refine callS hn [0] ⟨.inl rfl, True.intro⟩ rfl ?_
    rintro E G ⟨rfl, rfl⟩ _
    refine ⟨_, _, rfl, rfl, ?_⟩
    exact ⟨rfl, [.dead], ⟨.inl rfl, True.intro⟩, Nat.le_refl 1, rfl, rfl, rfl⟩
  | ok n k =>
    rw [hc] at hn
    have hl := hlt n k hc
    refine acalls_of_awp hT mixed Try.func43 rfl (by kernel_rfl) (by kernel_rfl) (Nat.le_of_ble_eq_true rfl) ?_
    refine callS hn [0] ⟨.inl rfl, True.intro⟩ rfl ?_
    rintro E G ⟨rfl, rfl⟩ _
    refine ⟨_, _, rfl, rfl, ?_⟩
    refine forkD (fun g => ?_) (fun g => ?_)
    · have g' : n ≤ most := by
        have : (n : Int) ≤ wrp .u64 (most : Int) := g
        rw [hwm] at this
        omega
      have hw : wrp .i64 (n : Int) = ((n : Nat) : Int) := by rw [wrpE, wi64]; omega
      refine callP (check_yes 5) rfl rfl ?_
      refine ⟨rfl, [.row [str (rest s k)]], i64 (wrp .i64 (n : Int)), ⟨⟨_, rfl, rfl⟩, ⟨.inl rfl, True.intro⟩, Nat.le_refl 1, rfl⟩, ?_⟩
      rw [hw]
      show CntR (if n ≤ most then .ok n k else .err 5) s _ _
      rw [if_pos g']
      exact ⟨rfl, rfl⟩
    · have g' : ¬ n ≤ most := by
        have : ¬ (n : Int) ≤ wrp .u64 (most : Int) := g
        rw [hwm] at this
        omega
      refine callBad (check_no 5) rfl ?_
      refine ⟨rfl, [.dead], ⟨.inr rfl, True.intro⟩, Nat.le_refl 1, rfl, ?_⟩
      show CntR (if n ≤ most then .ok n k else .err 5) s _ _
      rw [if_neg g']
      exact ⟨rfl, rfl⟩
end Go.Proofs.Ythebddjpnkimjaa.A
