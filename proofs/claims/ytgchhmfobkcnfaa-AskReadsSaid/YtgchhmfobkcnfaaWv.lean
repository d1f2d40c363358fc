/- ref03: Count, Read. No condition. -/
import Derived.Test.YtgchhmfobkcnfaaWt
namespace Go.Proofs.Ytgchhmfobkcnfaa.A
open Go
set_option linter.unusedVariables false
set_option linter.unusedSimpArgs false
set_option maxRecDepth 100000
set_option pp.maxSteps 300

def cnA : Rs Nat → AV
  | .ok n k => .tup [u64n n, i64 (k : Nat), i64 0]
  | .err e => .tup [u64 0, i64 0, i64 e]
theorem scale_next (S : Nat) : wrp .u64 (wrp .u64 (S : Int) * 128) = wrp .u64 ((S * 128 : Nat) : Int) := by
  rw [wrpE, wrpE, wrpE, wu64, wu64, wu64, show ((S * 128 : Nat) : Int) = (S : Int) * 128 from Int.natCast_mul S 128]
  rw [Int.mul_emod, Int.emod_emod, ← Int.mul_emod]
theorem scale_id {S : Nat} (h : S < 18446744073709551616) : wrp .u64 (S : Int) = (S : Int) := by
  rw [wrpE, wu64]
  omega
theorem rcount_ok (s : ByteArray) (hs : s.size ≤ 1000000) : ACalls Try.prog 65 [str s] [] (Ret (cnA (cntP (byL s)))) := by
  refine acalls_of_awp hT mixed Try.func65 rfl (by kernel_rfl) (by kernel_rfl) (Nat.le_of_ble_eq_true rfl) ?_
  refine loopI (α := CnSt s) (fun z => [(0, str s), (5, u64n z.acc), (6, u64 (wrp .u64 ((128 ^ z.i : Nat) : Int))), (7, i64 (z.i : Nat))]) (fun z => []) (fun z => s.size - z.i) ⟨0, 0, Nat.zero_le _, by omega, by decide, by decide, rfl⟩ [] ⟨⟨rfl, rfl, congrArg u64 (by rw [wrpE, wu64]; rfl), rfl, True.intro⟩, True.intro, rfl, rfl, rfl⟩ ?_
  rintro ⟨i, acc, hi, h10, ha, ha64, hG⟩ K hK
  have hinc : wrp .i64 ((i : Int) + 1) = ((i + 1 : Nat) : Int) := by rw [wrpE, wi64]; omega
  refine forkD (fun h => ?_) (fun h => ?_)
  · have his : i < s.size := by have : (i : Int) < (s.size : Int) := h; omega
    have hbi : (0 : Int) ≤ (i : Nat) ∧ ((i : Nat) : Int) < (s.size : Int) := by omega
    have hc := octB_lt s i
    rw [drop_oct his] at hG
    have hwc : wrp .u64 (octB s i : Int) = ((octB s i : Nat) : Int) := by rw [wrpE, wu64]; omega
    have hlw : hd ((wrp .u64 ((octB s i : Nat) : Int)).tmod 128) = ((octB s i % 128 : Nat) : Int) := by rw [hwc, hd_eq]; rfl
    refine Ob.intro hbi ?_
    refine Ob.intro (by decide) ?_
    have bad : (9 < i ∨ i = 9 ∧ 1 < octB s i % 128) → cntP (byL s) = .err 4 := fun hh => by rw [hG, cntG_cons, if_pos hh]
    have hwi1 : ((octB s i : Nat) : Int) < 128 ↔ octB s i < 128 := by omega
    have step : ¬ (9 < i ∨ i = 9 ∧ 1 < octB s i % 128) → i ≤ 9 ∧ wrp .u64 ((acc : Int) + wrp .u64 (hd ((wrp .u64 ((octB s i : Nat) : Int)).tmod 128) * wrp .u64 ((128 ^ i : Nat) : Int))) = ((acc + octB s i % 128 * 128 ^ i : Nat) : Int) ∧ acc + octB s i % 128 * 128 ^ i < 18446744073709551616 := fun hh => by
      have h9 : i ≤ 9 := by omega
      have hp : 128 ^ i ≤ 9223372036854775808 := Nat.le_trans (Nat.pow_le_pow_right (by decide) h9) (by decide)
      have hok := (or_low (octB s i % 128) i acc (by omega) h9 ha (by omega)).2
      refine ⟨h9, ?_, hok⟩
      rw [hlw, scale_id (S := 128 ^ i) (by omega), show ((octB s i % 128 : Nat) : Int) * ((128 ^ i : Nat) : Int) = ((octB s i % 128 * 128 ^ i : Nat) : Int) from (Int.natCast_mul ..).symm, scale_id (S := octB s i % 128 * 128 ^ i) (by omega), show (acc : Int) + ((octB s i % 128 * 128 ^ i : Nat) : Int) = ((acc + octB s i % 128 * 128 ^ i : Nat) : Int) from (Int.natCast_add ..).symm, scale_id hok]
    refine fork (fun g => ?_) (fun g => ?_)
    · have g' : i = 9 := by
        have : (i : Int) = 9 := beq_iff_eq.1 g
        omega
      refine forkD (fun u => ?_) (fun u => ?_)
      · have u' : 1 < octB s i % 128 := by
          have : hd ((wrp .u64 ((octB s i : Nat) : Int)).tmod 128) > 1 := u
          rw [hlw] at this
          omega
        rw [bad (.inr ⟨g', u'⟩)]
        refine end0 rfl rfl rfl rfl
      · have u' : ¬ 1 < octB s i % 128 := fun e => by
          have : ¬ hd ((wrp .u64 ((octB s i : Nat) : Int)).tmod 128) > 1 := u
          rw [hlw] at this
          omega
        refine forkD (fun v => absurd (show (i : Int) > 9 from v) (by omega)) (fun v => ?_)
        have hn : ¬ (9 < i ∨ i = 9 ∧ 1 < octB s i % 128) := by omega
        obtain ⟨h9, hst, hlt⟩ := step hn
        refine Ob.intro hbi ?_
        refine forkD (fun q => ?_) (fun q => ?_)
        · have q' : octB s i < 128 := by have : ((octB s i : Nat) : Int) < 128 := q; omega
          have hG2 : cntP (byL s) = if octB s i = 0 ∧ 0 < i then .err 4 else .ok (acc + octB s i % 128 * 128 ^ i) (i + 1) := by rw [hG, cntG_cons, if_neg hn, if_pos q']
          have fin : AV.tup [u64 (wrp .u64 ((acc : Int) + wrp .u64 (hd ((wrp .u64 ((octB s i : Nat) : Int)).tmod 128) * wrp .u64 ((128 ^ i : Nat) : Int)))), i64 (wrp .i64 ((i : Int) + 1)), i64 0] = cnA (.ok (acc + octB s i % 128 * 128 ^ i) (i + 1)) := by rw [hst, hinc]; rfl
          refine fork (fun u => ?_) (fun u => ?_)
          · have u' : octB s i = 0 := by
              have : hd ((wrp .u64 ((octB s i : Nat) : Int)).tmod 128) = 0 := beq_iff_eq.1 u
              rw [hlw] at this
              omega
            refine forkD (fun w => ?_) (fun w => ?_)
            · have w' : 0 < i := by have : (i : Int) > 0 := w; omega
              rw [hG2, if_pos ⟨u', w'⟩]
              refine end0 rfl rfl rfl rfl
            · have w' : ¬ 0 < i := by have : ¬ (i : Int) > 0 := w; omega
              rw [hG2, if_neg (fun hh => w' hh.2)]
              refine end0 rfl rfl rfl fin
          · have u' : octB s i ≠ 0 := fun e => by
              have : hd ((wrp .u64 ((octB s i : Nat) : Int)).tmod 128) ≠ 0 := beq_eq_false_iff_ne.1 u
              rw [hlw] at this
              omega
            rw [hG2, if_neg (fun hh => u' hh.1)]
            refine end0 rfl rfl rfl fin
        · have q' : ¬ octB s i < 128 := by have : ¬ ((octB s i : Nat) : Int) < 128 := q; omega
          rw [cntG_cons, if_neg hn, if_neg q'] at hG
          have hmul : octB s i % 128 * 128 ^ i ≤ 127 * 128 ^ i := Nat.mul_le_mul_right _ (by omega)
          have hsc : wrp .u64 (wrp .u64 ((128 ^ i : Nat) : Int) * 128) = wrp .u64 ((128 ^ (i + 1) : Nat) : Int) := by rw [scale_next, Nat.pow_succ]
          exact hK ⟨i + 1, acc + octB s i % 128 * 128 ^ i, his, by omega, grow_lt ha (by omega), hlt, hG⟩ [] _ (show s.size - i = s.size - (i + 1) + 1 by omega) ⟨⟨rfl, congrArg u64 hst, congrArg u64 hsc, congrArg i64 hinc, True.intro⟩, True.intro, rfl, rfl, rfl⟩
    · have g' : i ≠ 9 := fun e => by
        have : (i : Int) ≠ 9 := beq_eq_false_iff_ne.1 g
        omega
      refine forkD (fun v => ?_) (fun v => ?_)
      · have v' : 9 < i := by have : (i : Int) > 9 := v; omega
        rw [bad (.inl v')]
        refine end0 rfl rfl rfl rfl
      · have v' : ¬ 9 < i := by have : ¬ (i : Int) > 9 := v; omega
        have hn : ¬ (9 < i ∨ i = 9 ∧ 1 < octB s i % 128) := by omega
        obtain ⟨h9, hst, hlt⟩ := step hn
        refine Ob.intro hbi ?_
        refine forkD (fun q => ?_) (fun q => ?_)
        · have q' : octB s i < 128 := by have : ((octB s i : Nat) : Int) < 128 := q; omega
          have hG2 : cntP (byL s) = if octB s i = 0 ∧ 0 < i then .err 4 else .ok (acc + octB s i % 128 * 128 ^ i) (i + 1) := by rw [hG, cntG_cons, if_neg hn, if_pos q']
          have fin : AV.tup [u64 (wrp .u64 ((acc : Int) + wrp .u64 (hd ((wrp .u64 ((octB s i : Nat) : Int)).tmod 128) * wrp .u64 ((128 ^ i : Nat) : Int)))), i64 (wrp .i64 ((i : Int) + 1)), i64 0] = cnA (.ok (acc + octB s i % 128 * 128 ^ i) (i + 1)) := by rw [hst, hinc]; rfl
          refine fork (fun u => ?_) (fun u => ?_)
          · have u' : octB s i = 0 := by
              have : hd ((wrp .u64 ((octB s i : Nat) : Int)).tmod 128) = 0 := beq_iff_eq.1 u
              rw [hlw] at this
              omega
            refine forkD (fun w => ?_) (fun w => ?_)
            · have w' : 0 < i := by have : (i : Int) > 0 := w; omega
              rw [hG2, if_pos ⟨u', w'⟩]
              refine end0 rfl rfl rfl rfl
            · have w' : ¬ 0 < i := by have : ¬ (i : Int) > 0 := w; omega
              rw [hG2, if_neg (fun hh => w' hh.2)]
              refine end0 rfl rfl rfl fin
          · have u' : octB s i ≠ 0 := fun e => by
              have : hd ((wrp .u64 ((octB s i : Nat) : Int)).tmod 128) ≠ 0 := beq_eq_false_iff_ne.1 u
              rw [hlw] at this
              omega
            rw [hG2, if_neg (fun hh => u' hh.1)]
            refine end0 rfl rfl rfl fin
        · have q' : ¬ octB s i < 128 := by have : ¬ ((octB s i : Nat) : Int) < 128 := q; omega
          rw [cntG_cons, if_neg hn, if_neg q'] at hG
          have hmul : octB s i % 128 * 128 ^ i ≤ 127 * 128 ^ i := Nat.mul_le_mul_right _ (by omega)
          have hsc : wrp .u64 (wrp .u64 ((128 ^ i : Nat) : Int) * 128) = wrp .u64 ((128 ^ (i + 1) : Nat) : Int) := by rw [scale_next, Nat.pow_succ]
          exact hK ⟨i + 1, acc + octB s i % 128 * 128 ^ i, his, by omega, grow_lt ha (by omega), hlt, hG⟩ [] _ (show s.size - i = s.size - (i + 1) + 1 by omega) ⟨⟨rfl, congrArg u64 hst, congrArg u64 hsc, congrArg i64 hinc, True.intro⟩, True.intro, rfl, rfl, rfl⟩
  · have his : i = s.size := by have : ¬ (i : Int) < (s.size : Int) := h; omega
    have he : cntP (byL s) = .err 3 := by rw [hG, List.drop_eq_nil_of_le (by rw [byL_len]; omega)]; rfl
    rw [he]
    refine end0 rfl rfl rfl rfl
/-- What Read hands back. -/
def rdA : Rs It → AV
  | .ok x k => .tup [itA x, i64 (k : Nat), i64 0]
  | .err e => .tup [itA (.mk 0 emp [] []), i64 0, i64 e]
def RdS (o : Rs It) : AEnd → Heap → Prop := fun E G => G = [] ∧ match o with
  | .ok (.mk n t l k) j => k = [] ∧ (E = .ret (.tup [.agg [u64n n, str t, us l, nilS], i64 (j : Nat), i64 0]) ∨ l = [] ∧ E = .ret (.tup [.agg [u64n n, str t, nilS, nilS], i64 (j : Nat), i64 0]))
  | .err e => E = .ret (.tup [.agg [u64 0, str ⟨#[]⟩, nilS, nilS], i64 0, i64 e]) ∨ E = .ret (.tup [.agg [u64 0, str ⟨#[]⟩, us [], nilS], i64 0, i64 e])
theorem VR_aggLe {X : Ctx} {cs ds : List AV} (h : ∀ vs, VL X cs vs → VL X ds vs) {v : Value} (k : VR X (.agg cs) v) : VR X (.agg ds) v := by
  simp only [VR] at k ⊢
  obtain ⟨w, e, hl⟩ := k
  exact ⟨w, e, h _ hl⟩
theorem EndR_tup1 {a b : AV} {r : List AV} (h : ∀ X v, VR X a v → VR X b v) : ∀ Y e, EndR Y (.ret (.tup (a :: r))) e → EndR Y (.ret (.tup (b :: r))) e := fun Y e k => by
  cases e with
  | returned v =>
    have k' : VR Y (.tup (a :: r)) v := k
    show VR Y (.tup (b :: r)) v
    simp only [VR] at k' ⊢
    obtain ⟨w, e, hl⟩ := k'
    refine ⟨w, e, ?_⟩
    match hw : w.toList, hl with
    | x :: q, hl =>
      simp only [VL] at hl ⊢
      exact ⟨h _ _ hl.1, hl.2⟩
    | [], hl => simp [VL] at hl
  | panicked _ => exact k
  | outgrown => exact k
theorem rdS_A {o : Rs It} {P : Program} {g : FuncId} {args : List AV} {H : Heap} (h : ACalls P g args H (RdS o)) : ACalls P g args H (Ret (rdA o)) := by
  refine h.weakR ?_
  rintro E G ⟨rfl, hE⟩
  cases o with
  | err e =>
    rcases hE with rfl | rfl
    · exact ⟨_, ⟨rfl, rfl⟩, EndR_tup1 fun X v => VR_aggLe fun vs hl => VL_4 (fun _ h => VR_nilView h) (fun _ h => VR_nilView h) hl⟩
    · exact ⟨_, ⟨rfl, rfl⟩, EndR_tup1 fun X v => VR_aggLe fun vs hl => VL_4 (fun _ h => h) (fun _ h => VR_nilView h) hl⟩
  | ok x j =>
    obtain ⟨n, t, l, k⟩ := x
    obtain ⟨rfl, rfl | ⟨rfl, rfl⟩⟩ := hE
    · exact ⟨_, ⟨rfl, rfl⟩, EndR_tup1 fun X v => VR_aggLe fun vs hl => VL_4 (fun _ h => h) (fun _ h => VR_nilView h) hl⟩
    · exact ⟨_, ⟨rfl, rfl⟩, EndR_tup1 fun X v => VR_aggLe fun vs hl => VL_4 (fun _ h => VR_nilView h) (fun _ h => VR_nilView h) hl⟩
theorem rread_b (s : ByteArray) : ACalls Try.prog 64 [u8n 98, str s] [] (RdS (rdP 98 s)) := by
  rw [rdP_b]
  by_cases h0 : s.size = 0
  · rw [if_pos h0]
    refine acalls_of_awp hT mixed Try.func64 rfl (by kernel_rfl) (by kernel_rfl) (Nat.le_of_ble_eq_true rfl) ?_
    refine fork (fun g => ?_) (fun g => absurd (show (s.size : Int) = 0 by omega) (beq_eq_false_iff_ne.1 g))
    exact ⟨rfl, [], .tup [.agg [u64 0, str ⟨#[]⟩, nilS, nilS], i64 0, i64 3], ⟨⟨_, rfl, rfl⟩, True.intro, Nat.zero_le _, rfl⟩, rfl, .inl rfl⟩
  · rw [if_neg h0]
    have ho := octB_lt s 0
    have hw : wrp .u64 (octB s 0 : Int) = ((octB s 0 : Nat) : Int) := by rw [wrpE, wu64]; omega
    refine acalls_of_awp hT mixed Try.func64 rfl (by kernel_rfl) (by kernel_rfl) (Nat.le_of_ble_eq_true rfl) ?_
    refine fork (fun g => absurd (beq_iff_eq.1 g) (by omega)) (fun g => ?_)
    refine Ob.intro (show (0 : Int) ≤ 0 ∧ 0 < (s.size : Int) by omega) ?_
    exact ⟨rfl, [], .tup [.agg [u64 (wrp .u64 (octB s 0 : Int)), str ⟨#[]⟩, nilS, nilS], i64 1, i64 0], ⟨⟨_, rfl, rfl⟩, True.intro, Nat.zero_le _, rfl⟩, rfl, rfl, .inr ⟨rfl, by rw [hw]; rfl⟩⟩
theorem unpL_bad {s : ByteArray} (h : (unpL s).e ≠ 0) : (unpL s).l = [] ∧ (unpL s).n = 0 := by
  unfold unpL at h ⊢
  split
  · exact ⟨rfl, rfl⟩
  · rename_i h0
    rw [if_neg h0] at h
    split
    · exact ⟨rfl, rfl⟩
    · rename_i h1
      rw [if_neg h1] at h
      split
      · exact ⟨rfl, rfl⟩
      · rename_i h2
        rw [if_neg h2] at h
        split
        · rename_i h3
          rw [if_pos h3] at h
          exact absurd rfl h
        · exact ⟨rfl, rfl⟩
theorem rread_l (s : ByteArray) (hs : s.size ≤ 1000000) : ACalls Try.prog 64 [u8n 108, str s] [] (RdS (rdP 108 s)) := by
  have hu := runpack_ok s (by omega)
  rw [rdP_l]
  refine acalls_of_awp hT mixed Try.func64 rfl (by kernel_rfl) (by kernel_rfl) (Nat.le_of_ble_eq_true rfl) ?_
  refine callP hu rfl rfl ?_
  refine ⟨rfl, [], .tup [.agg [u64 0, str ⟨#[]⟩, us (unpL s).l, nilS], i64 (unpL s).n, i64 (unpL s).e], ⟨⟨_, rfl, rfl⟩, True.intro, Nat.zero_le _, rfl⟩, rfl, ?_⟩
  by_cases he : (unpL s).e = 0
  · rw [if_pos he]
    obtain ⟨h1, h2, h3, h4⟩ := unpL_n he
    have hi : i64 (unpL s).n = i64 ((unpL s).n.toNat : Nat) := congrArg i64 h1
    refine ⟨rfl, .inl ?_⟩
    rw [hi, he]
    rfl
  · rw [if_neg he]
    obtain ⟨h1, h2⟩ := unpL_bad he
    rw [h1, h2]
    exact .inr rfl
theorem rukO_E {s : ByteArray} : ukE s = 0 ↔ rukO s = true := by
  unfold ukE rukO
  rw [decide_eq_true_iff]
  split
  · rename_i h
    exact ⟨fun e => absurd e (by decide), fun e => absurd e.1 h⟩
  · rename_i h
    split
    · exact ⟨fun e => absurd e (by decide), fun e => absurd e.2 (by omega)⟩
    · exact ⟨fun _ => ⟨by omega, by omega⟩, fun _ => rfl⟩
theorem ukB_ltW (s : ByteArray) : ukB s < 18446744073709551616 := by
  unfold ukB
  split
  · rename_i h
    have := rukO_E.1 h
    unfold rukO at this
    rw [decide_eq_true_iff] at this
    exact atB_lt _ (by omega)
  · decide
theorem ukE_4 {s : ByteArray} (h : ukE s ≠ 0) : ukE s = 4 := by
  unfold ukE at h ⊢
  split
  · rfl
  · rename_i h0
    rw [if_neg h0] at h
    split
    · rfl
    · rename_i h1
      rw [if_neg h1] at h
      exact absurd rfl h
theorem rread_f (s : ByteArray) (hs : s.size ≤ 1000000) : ACalls Try.prog 64 [u8n 102, str s] [] (RdS (rdP 102 s)) := by
  rw [rdP_f]
  by_cases h8 : s.size < 8
  · rw [if_pos h8]
    refine acalls_of_awp hT mixed Try.func64 rfl (by kernel_rfl) (by kernel_rfl) (Nat.le_of_ble_eq_true rfl) ?_
    refine forkD (fun g => ?_) (fun g => absurd (show (s.size : Int) < 8 by omega) g)
    exact ⟨rfl, [], .tup [.agg [u64 0, str ⟨#[]⟩, nilS, nilS], i64 0, i64 3], ⟨⟨_, rfl, rfl⟩, True.intro, Nat.zero_le _, rfl⟩, rfl, .inl rfl⟩
  rw [if_neg h8]
  have hu := rUnkey_ok (s.extract 0 8)
  by_cases hE : ukE (s.extract 0 8) = 0
  · rw [if_pos hE]
    rw [rukO_E.1 hE] at hu
    have hb := rBits_ok (ukB (s.extract 0 8)) (ukB_ltW _)
    refine acalls_of_awp hT mixed Try.func64 rfl (by kernel_rfl) (by kernel_rfl) (Nat.le_of_ble_eq_true rfl) ?_
    refine forkD (fun g => absurd (show (s.size : Int) < 8 from g) (by omega)) (fun g => ?_)
    refine Ob.intro (show (0 : Int) ≤ 0 ∧ (0 : Int) ≤ 8 ∧ (8 : Int) ≤ (s.size : Int) by omega) ?_
    refine callP hu rfl rfl ?_
    refine callP hb rfl rfl ?_
    exact ⟨rfl, [], .tup [.agg [u64 (bitsB (ukB (s.extract 0 8)) : Nat), str ⟨#[]⟩, nilS, nilS], i64 8, i64 0], ⟨⟨_, rfl, rfl⟩, True.intro, Nat.zero_le _, rfl⟩, rfl, rfl, .inr ⟨rfl, rfl⟩⟩
  · rw [if_neg hE]
    rw [show rukO (s.extract 0 8) = false from Bool.eq_false_iff.2 fun e => hE (rukO_E.2 e)] at hu
    rw [ukE_4 hE]
    refine acalls_of_awp hT mixed Try.func64 rfl (by kernel_rfl) (by kernel_rfl) (Nat.le_of_ble_eq_true rfl) ?_
    refine forkD (fun g => absurd (show (s.size : Int) < 8 from g) (by omega)) (fun g => ?_)
    refine Ob.intro (show (0 : Int) ≤ 0 ∧ (0 : Int) ≤ 8 ∧ (8 : Int) ≤ (s.size : Int) by omega) ?_
    refine callP hu rfl rfl ?_
    exact ⟨rfl, [], .tup [.agg [u64 0, str ⟨#[]⟩, nilS, nilS], i64 0, i64 4], ⟨⟨_, rfl, rfl⟩, True.intro, Nat.zero_le _, rfl⟩, rfl, .inl rfl⟩
theorem cntP_e {b : List Nat} {e : Int} (h : cntP b = .err e) : 0 < e := cntG_e _ _ _ _ h
theorem rread_n (s : ByteArray) (hs : s.size ≤ 1000000) : ACalls Try.prog 64 [u8n 110, str s] [] (RdS (rdP 110 s)) := by
  have hc := rcount_ok s hs
  rw [rdP_n]
  cases hq : cntP (byL s) with
  | err e =>
    rw [hq] at hc
    have he := cntP_e hq
    refine acalls_of_awp hT mixed Try.func64 rfl (by kernel_rfl) (by kernel_rfl) (Nat.le_of_ble_eq_true rfl) ?_
    refine callP hc rfl rfl ?_
    refine fork (fun g => ?_) (fun g => absurd (bne_eq_false_iff_eq.1 g) (by omega))
    exact ⟨rfl, [], .tup [.agg [u64 0, str ⟨#[]⟩, nilS, nilS], i64 0, i64 e], ⟨⟨_, rfl, rfl⟩, True.intro, Nat.zero_le _, rfl⟩, rfl, .inl rfl⟩
  | ok n k =>
    rw [hq] at hc
    refine acalls_of_awp hT mixed Try.func64 rfl (by kernel_rfl) (by kernel_rfl) (Nat.le_of_ble_eq_true rfl) ?_
    refine callP hc rfl rfl ?_
    exact ⟨rfl, [], .tup [.agg [u64n n, str ⟨#[]⟩, nilS, nilS], i64 (k : Nat), i64 0], ⟨⟨_, rfl, rfl⟩, True.intro, Nat.zero_le _, rfl⟩, rfl, rfl, .inr ⟨rfl, rfl⟩⟩
theorem rread_t (s : ByteArray) (hs : s.size ≤ 1000000) : ACalls Try.prog 64 [u8n 116, str s] [] (RdS (rdP 116 s)) := by
  have hc := rcount_ok s hs
  rw [rdP_t]
  unfold cntM
  cases hq : cntP (byL s) with
  | err e =>
    rw [hq] at hc
    have he := cntP_e hq
    refine acalls_of_awp hT mixed Try.func64 rfl (by kernel_rfl) (by kernel_rfl) (Nat.le_of_ble_eq_true rfl) ?_
    refine callP hc rfl rfl ?_
    refine fork (fun g => ?_) (fun g => absurd (bne_eq_false_iff_eq.1 g) (by omega))
    exact ⟨rfl, [], .tup [.agg [u64 0, str ⟨#[]⟩, nilS, nilS], i64 0, i64 e], ⟨⟨_, rfl, rfl⟩, True.intro, Nat.zero_le _, rfl⟩, rfl, .inl rfl⟩
  | ok n k =>
    rw [hq] at hc
    have hl := cntP_lt hq
    rw [byL_len] at hl
    dsimp only
    by_cases hn : n ≤ 200
    · rw [if_pos hn]
      dsimp only
      have hw1 : wrp .u64 (wrp .i64 ((s.size : Int) - (k : Nat))) = ((s.size - k : Nat) : Int) := by
        have : wrp .i64 ((s.size : Int) - (k : Nat)) = ((s.size - k : Nat) : Int) := by rw [wrpE, wi64]; omega
        rw [this, wrpE, wu64]
        omega
      by_cases hk : s.size - k < n
      · rw [if_pos hk]
        refine acalls_of_awp hT mixed Try.func64 rfl (by kernel_rfl) (by kernel_rfl) (Nat.le_of_ble_eq_true rfl) ?_
        refine callP hc rfl rfl ?_
        refine forkD (fun g => absurd (show ((n : Nat) : Int) > 200 from g) (by omega)) (fun g => ?_)
        refine forkD (fun g => ?_) (fun g => absurd (show wrp .u64 (wrp .i64 ((s.size : Int) - (k : Nat))) < ((n : Nat) : Int) by rw [hw1]; omega) g)
        exact ⟨rfl, [], .tup [.agg [u64 0, str ⟨#[]⟩, nilS, nilS], i64 0, i64 3], ⟨⟨_, rfl, rfl⟩, True.intro, Nat.zero_le _, rfl⟩, rfl, .inl rfl⟩
      · rw [if_neg hk]
        have hw2 : wrp .i64 (((k : Nat) : Int) + wrp .i64 ((n : Nat) : Int)) = ((k + n : Nat) : Int) := by
          have : wrp .i64 ((n : Nat) : Int) = ((n : Nat) : Int) := by rw [wrpE, wi64]; omega
          rw [this, wrpE, wi64]
          omega
        have hx : s.extract (((k : Nat) : Int).toNat) (wrp .i64 (((k : Nat) : Int) + wrp .i64 ((n : Nat) : Int))).toNat = (rest s k).extract 0 n := by
          rw [hw2, Int.toNat_natCast, Int.toNat_natCast]
          apply byL_inj
          rw [extractB, extractB, rest_byL, List.drop_zero, List.drop_take, Nat.add_sub_cancel_left]
        refine acalls_of_awp hT mixed Try.func64 rfl (by kernel_rfl) (by kernel_rfl) (Nat.le_of_ble_eq_true rfl) ?_
        refine callP hc rfl rfl ?_
        refine forkD (fun g => absurd (show ((n : Nat) : Int) > 200 from g) (by omega)) (fun g => ?_)
        refine forkD (fun g => absurd (show wrp .u64 (wrp .i64 ((s.size : Int) - (k : Nat))) < ((n : Nat) : Int) from g) (by rw [hw1]; omega)) (fun g => ?_)
        refine Ob.intro (show (0 : Int) ≤ (k : Nat) ∧ ((k : Nat) : Int) ≤ wrp .i64 (((k : Nat) : Int) + wrp .i64 ((n : Nat) : Int)) ∧ wrp .i64 (((k : Nat) : Int) + wrp .i64 ((n : Nat) : Int)) ≤ (s.size : Int) by rw [hw2]; omega) ?_
        exact ⟨rfl, [], .tup [.agg [u64 0, str (s.extract (((k : Nat) : Int).toNat) (wrp .i64 (((k : Nat) : Int) + wrp .i64 ((n : Nat) : Int))).toNat), nilS, nilS], i64 (wrp .i64 (((k : Nat) : Int) + wrp .i64 ((n : Nat) : Int))), i64 0], ⟨⟨_, rfl, rfl⟩, True.intro, Nat.zero_le _, rfl⟩, rfl, rfl, .inr ⟨rfl, by rw [hx, hw2]; rfl⟩⟩
    · rw [if_neg hn]
      dsimp only
      refine acalls_of_awp hT mixed Try.func64 rfl (by kernel_rfl) (by kernel_rfl) (Nat.le_of_ble_eq_true rfl) ?_
      refine callP hc rfl rfl ?_
      refine forkD (fun g => ?_) (fun g => absurd (show ((n : Nat) : Int) > 200 by omega) g)
      exact ⟨rfl, [], .tup [.agg [u64 0, str ⟨#[]⟩, nilS, nilS], i64 0, i64 5], ⟨⟨_, rfl, rfl⟩, True.intro, Nat.zero_le _, rfl⟩, rfl, .inl rfl⟩
theorem rread_ok (c : Nat) (s : ByteArray) (hc : isL c = true) (hs : s.size ≤ 1000000) : ACalls Try.prog 64 [u8n c, str s] [] (Ret (rdA (rdP c s))) := by
  rcases isL_5 hc with rfl | rfl | rfl | rfl | rfl
  · exact rdS_A (rread_b s)
  · exact rdS_A (rread_n s hs)
  · exact rdS_A (rread_t s hs)
  · exact rdS_A (rread_f s hs)
  · exact rdS_A (rread_l s hs)
end Go.Proofs.Ytgchhmfobkcnfaa.A
