/- Keys by the document, and the law NumKeys, by the functions that it calls. No condition. -/
import Derived.Test.YthebddjpnkimjaaNg
namespace Go.Proofs.Ythebddjpnkimjaa.A
open Go
set_option linter.unusedVariables false
set_option maxRecDepth 100000
set_option pp.maxSteps 1500

theorem rAt_ok (p : Nat) (hp : p < 18446744073709551616) : ACalls Try.prog 61 [u64 p] [] (Ret (.tup [fl (atB p), bo (decide (p ≤ 18437736874454810626))])) := by
  refine acalls_of_awp hT mixed Try.func61 rfl (by kernel_rfl) (by kernel_rfl) (Nat.le_of_ble_eq_true rfl) ?_
  refine forkD (fun h => ?_) (fun h => ?_)
  · refine end0 rfl rfl rfl ?_
    have h' : 18437736874454810626 < p := by omega
    have h2 : decide (p ≤ 18437736874454810626) = false := decide_eq_false (by omega)
    simp only [atB, h', if_true, h2]
    rfl
  · have h' : ¬ 18437736874454810626 < p := by omega
    have hd1 : decide (p ≤ 18437736874454810626) = true := decide_eq_true (by omega)
    refine fork (fun h2 => ?_) (fun h2 => ?_)
    · have h2' : p = 18437736874454810626 := by
        have : (p : Int) = 18437736874454810626 := by simpa using h2
        omega
      subst h2'
      refine callP (float64frombits_ok _) rfl rfl ?_
      refine end0 rfl rfl rfl ?_
      rfl
    · have h2' : ¬ p = 18437736874454810626 := by
        have : ¬ (p : Int) = 18437736874454810626 := by simpa using h2
        omega
      refine forkD (fun h3 => ?_) (fun h3 => ?_)
      · have h3' : 9218868437227405313 ≤ p := by omega
        refine callP (float64frombits_ok _) rfl rfl ?_
        refine end0 rfl rfl rfl ?_
        have : (wrp .u64 ((p : Int) - 9218868437227405313)).toNat = p - 9218868437227405313 := by rw [wrpE, wu64]; omega
        simp only [atB, h', h2', h3', if_true, if_false, hd1]
        rw [← this]
        rfl
      · have h3' : ¬ 9218868437227405313 ≤ p := by omega
        refine callP (float64frombits_ok _) rfl rfl ?_
        refine end0 rfl rfl rfl ?_
        have : (wrp .u64 (9223372036854775808 + wrp .u64 (9218868437227405312 - (p : Int)))).toNat = 9223372036854775808 + (9218868437227405312 - p) := by
          rw [wrpE, wrpE, wu64, wu64]
          omega
        simp only [atB, h', h2', h3', if_false, hd1]
        rw [← this]
        rfl
def rukO (s : ByteArray) : Bool := decide (s.size = 8 ∧ valL s.data.toList ≤ 18437736874454810626)
theorem rUnkey_ok (s : ByteArray) : ACalls Try.prog 49 [.sc (.string s)] [] (Ret (.tup [fl (ukB s), bo (rukO s)])) := by
  refine acalls_of_awp hT mixed Try.func49 rfl (by kernel_rfl) (by kernel_rfl) (Nat.le_of_ble_eq_true rfl) ?_
  refine fork (fun h => ?_) (fun h => ?_)
  · have h' : s.size ≠ 8 := by
      intro he
      rw [he] at h
      cases h
    refine end0 rfl rfl rfl ?_
    have : ukE s = 4 := by simp [ukE, h']
    have h2 : rukO s = false := by simp [rukO, h']
    simp only [ukB, this, h2]
    rfl
  · have h' : s.size = 8 := by
      have := bne_eq_false_iff_eq.1 h
      omega
    have hl : s.data.toList.length = 8 := by simpa using h'
    refine loopI (fun i : Fin 9 => [(0, .sc (.string s)), (4, u64 (valL (s.data.toList.take i.val) : Nat)), (5, i64 (i.val : Int))]) (fun i => []) (fun i => 8 - i.val) 0 [] ⟨⟨rfl, rfl, rfl, True.intro⟩, True.intro, rfl, rfl, rfl⟩ ?_
    intro i K hK
    obtain ⟨i, hi⟩ := i
    refine forkD (fun g => ?_) (fun g => ?_)
    · have g' : i < 8 := by have : (i : Int) < 8 := g; omega
      refine Ob.intro ⟨Int.natCast_nonneg _, by rw [h']; exact g⟩ ?_
      refine hK ⟨i + 1, by omega⟩ [] _ ?_ ?_
      · show 8 - i = 8 - (i + 1) + 1
        omega
      · refine ⟨⟨rfl, congrArg u64 ?_, congrArg i64 (?_ : wrp .i64 ((i : Int) + 1) = ((i + 1 : Nat) : Int)), True.intro⟩, True.intro, rfl, rfl, rfl⟩
        · have hlt := valL_lt (s.data.toList.take i)
          have hm : 256 ^ (s.data.toList.take i).length ≤ 256 ^ 7 := Nat.pow_le_pow_right (by decide) (by simp; omega)
          have hc := (s.data.toList.getD i 0).toNat_lt
          show wrp .u64 (wrp .u64 ((valL (s.data.toList.take i) : Int) * 256) + wrp .u64 ((s.data.toList.getD i 0).toNat : Int)) = ((valL (s.data.toList.take (i + 1)) : Nat) : Int)
          rw [take_snoc (by omega)]
          generalize valL (s.data.toList.take i) = v at *
          generalize (s.data.toList.getD i 0).toNat = c at *
          simp only [wrpE, wu64]
          omega
        · rw [wrpE, wi64]
          omega
    · have g' : i = 8 := by have : ¬ (i : Int) < 8 := g; omega
      subst g'
      have hv : valL s.data.toList < 18446744073709551616 := by
        have := valL_lt s.data.toList
        rw [hl] at this
        exact this
      have ht : s.data.toList.take 8 = s.data.toList := List.take_of_length_le (by omega)
      have hat := rAt_ok _ hv
      rw [← ht] at hat
      refine callP hat rfl rfl ?_
      have hu : ukB s = atB (valL s.data.toList) := by
        unfold ukB ukE
        rw [if_neg (show ¬ s.size ≠ 8 from fun hne => hne h')]
        by_cases h5 : 18437736874454810626 < valL s.data.toList
        · rw [if_pos h5, if_neg (by decide)]
          simp only [atB, if_pos h5]
        · rw [if_neg h5, if_pos rfl]
      refine fork (fun g2 => ?_) (fun g2 => ?_)
      · refine end0 rfl rfl rfl ?_
        rw [ht] at g2
        have h2 : rukO s = true := by simp only [rukO, h', true_and]; exact g2
        rw [hu, h2]
        show AV.tup [fl (atB (valL (List.take 8 s.data.toList))), bo true] = _
        rw [ht]
      · refine end0 rfl rfl rfl ?_
        rw [ht] at g2
        have h2 : rukO s = false := by simp only [rukO, h', true_and]; exact g2
        rw [hu, h2]
        show AV.tup [fl (atB (valL (List.take 8 s.data.toList))), bo false] = _
        rw [ht]
def rk (p k : Nat) : List AV := [u8 (if 7 < k then p / 72057594037927936 % 256 else 0), u8 (if 6 < k then p / 281474976710656 % 256 else 0), u8 (if 5 < k then p / 1099511627776 % 256 else 0), u8 (if 4 < k then p / 4294967296 % 256 else 0),
  u8 (if 3 < k then p / 16777216 % 256 else 0), u8 (if 2 < k then p / 65536 % 256 else 0), u8 (if 1 < k then p / 256 % 256 else 0), u8 (if 0 < k then p % 256 else 0)]
theorem rk_set (p k : Nat) (hk : k < 8) : setAll (rk p k) (0 + ((7 - (k : Int)).toNat * 1)) [u8 (wrp .u8 (hd (((p / 256 ^ k : Nat) : Int).tmod 256)))] = rk p (k + 1) := by
  have e : ∀ q : Nat, wrp .u8 (hd ((q : Int).tmod 256)) = ((q % 256 : Nat) : Int) := fun q => by
    rw [wrpE, wu8, hd_eq]
    have : ((q : Int).tmod 256) = ((q % 256 : Nat) : Int) := rfl
    rw [this]
    omega
  rw [e]
  match k, hk with
  | 0, _ => simp [rk, setAll]
  | 1, _ => simp [rk, setAll]
  | 2, _ => simp [rk, setAll]
  | 3, _ => simp [rk, setAll]
  | 4, _ => simp [rk, setAll]
  | 5, _ => simp [rk, setAll]
  | 6, _ => simp [rk, setAll]
  | 7, _ => simp [rk, setAll]
theorem rKey_ok (b : Nat) (hb : b < 18446744073709551616) : ACalls Try.prog 52 [fl b] [] (Ret (.sc (.string ⟨(keyL (placeB b)).toArray⟩))) := by
  have hp := placeB_lt hb
  refine acalls_of_awp hT mixed Try.func52 rfl (by kernel_rfl) (by kernel_rfl) (Nat.le_of_ble_eq_true rfl) ?_
  refine callP (rPlace_ok b hb) rfl rfl ?_
  refine Ob.intro (by decide) ?_
  refine loopI (fun k : Fin 9 => [(3, u64 (placeB b / 256 ^ k.val : Nat)), (4, .slc 0 0 8 1), (5, i64 (7 - (k.val : Int)))]) (fun k => [.row (rk (placeB b) k.val)]) (fun k => 8 - k.val) 0 [0] ⟨⟨?_, rfl, rfl, True.intro⟩, ⟨.inl rfl, True.intro⟩, rfl, rfl, rfl⟩ ?_
  · exact congrArg u64 (by simp)
  intro k K hK
  obtain ⟨k, hk⟩ := k
  refine forkD (fun h => ?_) (fun h => ?_)
  · have h' : k < 8 := by have : (7 - (k : Int)) ≥ 0 := h; omega
    refine Ob.intro (by decide) ?_
    refine Ob.intro (show 0 ≤ 7 - (k : Int) ∧ 7 - (k : Int) < ((8 : Nat) : Int) by omega) ?_
    refine optK_intro (wr_eq rfl (show 0 + (7 - (k : Int)).toNat * 1 + 1 ≤ 8 by omega)) ?_
    refine Ob.intro (by decide) ?_
    refine hK ⟨k + 1, by omega⟩ [0] _ ?_ ?_
    · show 8 - k = 8 - (k + 1) + 1
      omega
    · refine ⟨⟨congrArg u64 ?_, rfl, congrArg i64 (?_ : wrp .i64 (7 - (k : Int) - 1) = 7 - ((k + 1 : Nat) : Int)), True.intro⟩, ⟨.inl (congrArg (fun c => some (AObj.row c)) (rk_set (placeB b) k h')), True.intro⟩, rfl, rfl, rfl⟩
      · have := tdiv_u (placeB b / 256 ^ k) 256 (Nat.lt_of_le_of_lt (Nat.div_le_self _ _) (by omega))
        rw [Nat.div_div_eq_div_mul, ← Nat.pow_succ] at this
        exact this
      · rw [wrpE, wi64]
        omega
  · have h' : k = 8 := by have : ¬ (7 - (k : Int)) ≥ 0 := h; omega
    subst h'
    refine end0 rfl rfl rfl (congrArg (fun l : List UInt8 => AV.sc (.string ⟨l.toArray⟩)) (Option.some.inj (show some _ = some (keyL (placeB b)) from kc_text (placeB b))))
theorem list8 {l : List UInt8} (h : l.length = 8) : ∃ c0 c1 c2 c3 c4 c5 c6 c7, l = [c0, c1, c2, c3, c4, c5, c6, c7] := by
  match l, h with
  | [c0, c1, c2, c3, c4, c5, c6, c7], _ => exact ⟨c0, c1, c2, c3, c4, c5, c6, c7, rfl⟩
theorem keyL_valL {l : List UInt8} (h : l.length = 8) : keyL (valL l) = l := by
  obtain ⟨c0, c1, c2, c3, c4, c5, c6, c7, rfl⟩ := list8 h
  have h0 := c0.toNat_lt
  have h1 := c1.toNat_lt
  have h2 := c2.toNat_lt
  have h3 := c3.toNat_lt
  have h4 := c4.toNat_lt
  have h5 := c5.toNat_lt
  have h6 := c6.toNat_lt
  have h7 := c7.toNat_lt
  have key : ∀ (n : Nat) (c : UInt8), n = c.toNat → UInt8.ofNat n = c := fun n c h => by rw [h]; exact UInt8.ofNat_toNat
  simp only [keyL, valL, List.foldl, Nat.zero_mul, Nat.zero_add]
  rw [key _ c0 (by omega), key _ c1 (by omega), key _ c2 (by omega), key _ c3 (by omega), key _ c4 (by omega), key _ c5 (by omega), key _ c6 (by omega), key _ c7 (by omega)]
theorem valL_keyL {p : Nat} (h : p < 18446744073709551616) : valL (keyL p) = p := by
  have key : ∀ n : Nat, (UInt8.ofNat (n % 256)).toNat = n % 256 := fun n => by simp
  have k0 : (UInt8.ofNat (p % 256)).toNat = p % 256 := key p
  simp only [keyL, valL, List.foldl, key]
  omega
theorem placeB_atB {p : Nat} (h : p ≤ 18437736874454810626) : placeB (atB p) = p := by
  unfold atB
  rw [if_neg (by omega)]
  split
  · subst_vars
    rfl
  · split
    · unfold placeB
      have hn : nanB (p - 9218868437227405313) = false := by simp only [nanB, decide_eq_false_iff_not]; omega
      simp only [hn, Bool.false_eq_true, if_false]
      rw [if_neg (by omega)]
      omega
    · unfold placeB
      have hn : nanB (9223372036854775808 + (9218868437227405312 - p)) = false := by simp only [nanB, decide_eq_false_iff_not]; omega
      simp only [hn, Bool.false_eq_true, if_false]
      rw [if_pos (by omega)]
      omega
theorem atB_lt (p : Nat) (hp : p < 18446744073709551616) : atB p < 18446744073709551616 := by
  unfold atB
  split
  · omega
  · split
    · omega
    · split <;> omega
end Go.Proofs.Ythebddjpnkimjaa.A
