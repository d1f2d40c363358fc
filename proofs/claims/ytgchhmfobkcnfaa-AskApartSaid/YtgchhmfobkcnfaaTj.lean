/- ask: AskApart. No condition. -/
import Derived.Test.YtgchhmfobkcnfaaTi
namespace Go.Proofs.Ytgchhmfobkcnfaa.A
open Go
set_option linter.unusedVariables false
set_option linter.unusedSimpArgs false
set_option maxRecDepth 100000
set_option pp.maxSteps 400

theorem readU_no (s : ByteArray) (hs : s.size ≤ 1000000) (hrs : ∀ u, rsP s = some u → u.size ≠ 0) : ACalls Try.prog 17 [str s] [] (Ret (.tup [.agg (rp0 0), i64 4])) := by
  have hc := rd_weak (read_no s hs hrs)
  refine acalls_of_awp hT mixed Try.func17 rfl (by kernel_rfl) (by kernel_rfl) (Nat.le_of_ble_eq_true rfl) ?_
  refine callS hc [] True.intro rfl ?_
  rintro E G ⟨rfl, p, rfl⟩ _
  obtain ⟨c, n, h, vn, vt, vb, L, tc, ts, tl, tm, te⟩ := p
  refine ⟨_, _, rfl, rfl, ?_⟩
  cases h <;> cases vn <;>
  exact ⟨rfl, [], .tup [.agg (rp0 0), i64 4], ⟨⟨_, rfl, rfl⟩, True.intro, Nat.zero_le _, rfl⟩, rfl, rfl⟩
theorem cut_at (cut : Int) (X : ByteArray) (hX : 0 < X.size) (hX2 : X.size ≤ 1000000) : ∃ n : Nat, n < X.size ∧ wrp .i64 (hd ((wrp .u64 cut).tmod (wrp .u64 (X.size : Int)))) = ((n : Nat) : Int) ∧ wrp .u64 (X.size : Int) ≠ 0 := by
  have hw : wrp .u64 (X.size : Int) = ((X.size : Nat) : Int) := by rw [wrpE, wu64]; omega
  have hc0 : 0 ≤ wrp .u64 cut := by rw [wrpE, wu64]; omega
  generalize wrp .u64 cut = c at *
  obtain ⟨m, rfl⟩ := Int.eq_ofNat_of_zero_le hc0
  refine ⟨m % X.size, Nat.mod_lt _ hX, ?_, by rw [hw]; omega⟩
  rw [hw, hd_eq, show ((m : Nat) : Int).tmod ((X.size : Nat) : Int) = ((m % X.size : Nat) : Int) from rfl]
  have := Nat.mod_lt m hX
  rw [wrpE, wi64]
  omega
theorem kapart_farQ (q : Rq) (p : Rp) (cut : Int) (hf : ACalls Try.prog 7 [.agg q.C] [] (Ret (bo true))) : ACalls Try.prog 5 [.agg q.C, .agg p.C, i64 cut] [] (Ret (bo true)) := by
  obtain ⟨k, w, l, g, m, r, key, vn, vt, vb, fr, t, lim, n, c⟩ := q
  obtain ⟨pc, pn, ph, pvn, pvt, pvb, pL, tc, ts, tl, tm, te⟩ := p
  cases m <;> cases vn <;> cases ph <;> cases pvn <;>
  · refine acalls_of_awp hT mixed Try.func5 rfl (by kernel_rfl) (by kernel_rfl) (Nat.le_of_ble_eq_true rfl) ?_
    refine callP awake20_ok rfl rfl ?_
    refine callP hf rfl rfl ?_
    refine end0 rfl rfl rfl rfl
/-- What is asked of a half. -/
structure YesQ (q : Rq) (X : ByteArray) where
  pk : ACalls Try.prog 8 [.agg q.C] [] (Ret (.tup [str X, i64 0]))
  pos : 0 < X.size
  le : X.size ≤ 1000000
  un : ∀ n, n < X.size → ACalls Try.prog 11 [str (X.extract 0 n)] [] (Ret (.tup [.agg (q00 0).C, i64 4]))
structure YesP (p : Rp) (X : ByteArray) where
  pk : ACalls Try.prog 16 [.agg p.C] [] (Ret (.tup [str X, i64 0]))
  pos : 0 < X.size
  le : X.size ≤ 1000000
  un : ∀ n, n < X.size → ACalls Try.prog 17 [str (X.extract 0 n)] [] (Ret (.tup [.agg (rp0 0), i64 4]))
theorem kapart_nn (q : Rq) (p : Rp) (cut : Int) (hf : ACalls Try.prog 7 [.agg q.C] [] (Ret (bo false))) (hg : ACalls Try.prog 15 [.agg p.C] [] (fun E G => ∃ v, (∃ b : Bool, v = bo b) ∧ E = .ret v ∧ G = [])) (h1 : ACalls Try.prog 8 [.agg q.C] [] (Ret (.tup [str emp, i64 1]))) (h2 : ACalls Try.prog 16 [.agg p.C] [] (Ret (.tup [str emp, i64 1]))) : ACalls Try.prog 5 [.agg q.C, .agg p.C, i64 cut] [] (Ret (bo true)) := by
  obtain ⟨k, w, l, g, m, r, key, vn, vt, vb, fr, t, lim, n, c⟩ := q
  obtain ⟨pc, pn, ph, pvn, pvt, pvb, pL, tc, ts, tl, tm, te⟩ := p
  cases m <;> cases vn <;> cases ph <;> cases pvn <;>
  · refine acalls_of_awp hT mixed Try.func5 rfl (by kernel_rfl) (by kernel_rfl) (Nat.le_of_ble_eq_true rfl) ?_
    refine callP awake20_ok rfl rfl ?_
    refine callP hf rfl rfl ?_
    refine callE hg rfl (fun v hv => by obtain ⟨b, rfl⟩ := hv; rfl) ?_
    rintro v ⟨b, rfl⟩
    cases b
    rotate_left
    · refine end0 rfl rfl rfl rfl
    refine callP h1 rfl rfl ?_
    refine callP h2 rfl rfl ?_
    refine end0 rfl rfl rfl rfl
theorem kapart_ny (q : Rq) (p : Rp) (cut : Int) (Y : ByteArray) (hf : ACalls Try.prog 7 [.agg q.C] [] (Ret (bo false))) (hg : ACalls Try.prog 15 [.agg p.C] [] (fun E G => ∃ v, (∃ b : Bool, v = bo b) ∧ E = .ret v ∧ G = [])) (h1 : ACalls Try.prog 8 [.agg q.C] [] (Ret (.tup [str emp, i64 1]))) (h2 : YesP p Y) : ACalls Try.prog 5 [.agg q.C, .agg p.C, i64 cut] [] (Ret (bo true)) := by
  obtain ⟨nY, hnY, hAY, hzY⟩ := cut_at cut Y h2.pos h2.le
  have huY := h2.un nY hnY
  have hn2Y : (wrp .i64 (hd ((wrp .u64 cut).tmod (wrp .u64 (Y.size : Int))))).toNat = nY := by rw [hAY]; rfl
  rw [← hn2Y] at huY
  have hsY : (0 : Int) ≤ 0 ∧ 0 ≤ wrp .i64 (hd ((wrp .u64 cut).tmod (wrp .u64 (Y.size : Int)))) ∧ wrp .i64 (hd ((wrp .u64 cut).tmod (wrp .u64 (Y.size : Int)))) ≤ (Y.size : Int) := by rw [hAY]; omega
  obtain ⟨k, w, l, g, m, r, key, vn, vt, vb, fr, t, lim, n, c⟩ := q
  obtain ⟨pc, pn, ph, pvn, pvt, pvb, pL, tc, ts, tl, tm, te⟩ := p
  cases m <;> cases vn <;> cases ph <;> cases pvn <;>
  · refine acalls_of_awp hT mixed Try.func5 rfl (by kernel_rfl) (by kernel_rfl) (Nat.le_of_ble_eq_true rfl) ?_
    refine callP awake20_ok rfl rfl ?_
    refine callP hf rfl rfl ?_
    refine callE hg rfl (fun v hv => by obtain ⟨b, rfl⟩ := hv; rfl) ?_
    rintro v ⟨b, rfl⟩
    cases b
    rotate_left
    · refine end0 rfl rfl rfl rfl
    refine callP h1 rfl rfl ?_
    refine callP h2.pk rfl rfl ?_
    refine Ob.intro hzY ?_
    refine Ob.intro hsY ?_
    refine callP huY rfl rfl ?_
    refine end0 rfl rfl rfl rfl
theorem kapart_yn (q : Rq) (p : Rp) (cut : Int) (X : ByteArray) (hf : ACalls Try.prog 7 [.agg q.C] [] (Ret (bo false))) (hg : ACalls Try.prog 15 [.agg p.C] [] (fun E G => ∃ v, (∃ b : Bool, v = bo b) ∧ E = .ret v ∧ G = [])) (h1 : YesQ q X) (h2 : ACalls Try.prog 16 [.agg p.C] [] (Ret (.tup [str emp, i64 1]))) : ACalls Try.prog 5 [.agg q.C, .agg p.C, i64 cut] [] (Ret (bo true)) := by
  obtain ⟨nX, hnX, hAX, hzX⟩ := cut_at cut X h1.pos h1.le
  have huX := h1.un nX hnX
  have hn2X : (wrp .i64 (hd ((wrp .u64 cut).tmod (wrp .u64 (X.size : Int))))).toNat = nX := by rw [hAX]; rfl
  rw [← hn2X] at huX
  have hsX : (0 : Int) ≤ 0 ∧ 0 ≤ wrp .i64 (hd ((wrp .u64 cut).tmod (wrp .u64 (X.size : Int)))) ∧ wrp .i64 (hd ((wrp .u64 cut).tmod (wrp .u64 (X.size : Int)))) ≤ (X.size : Int) := by rw [hAX]; omega
  obtain ⟨k, w, l, g, m, r, key, vn, vt, vb, fr, t, lim, n, c⟩ := q
  obtain ⟨pc, pn, ph, pvn, pvt, pvb, pL, tc, ts, tl, tm, te⟩ := p
  cases m <;> cases vn <;> cases ph <;> cases pvn <;>
  · refine acalls_of_awp hT mixed Try.func5 rfl (by kernel_rfl) (by kernel_rfl) (Nat.le_of_ble_eq_true rfl) ?_
    refine callP awake20_ok rfl rfl ?_
    refine callP hf rfl rfl ?_
    refine callE hg rfl (fun v hv => by obtain ⟨b, rfl⟩ := hv; rfl) ?_
    rintro v ⟨b, rfl⟩
    cases b
    rotate_left
    · refine end0 rfl rfl rfl rfl
    refine callP h1.pk rfl rfl ?_
    refine Ob.intro hzX ?_
    refine Ob.intro hsX ?_
    refine callP huX rfl rfl ?_
    refine callP h2 rfl rfl ?_
    refine end0 rfl rfl rfl rfl
theorem kapart_yy (q : Rq) (p : Rp) (cut : Int) (X Y : ByteArray) (hf : ACalls Try.prog 7 [.agg q.C] [] (Ret (bo false))) (hg : ACalls Try.prog 15 [.agg p.C] [] (fun E G => ∃ v, (∃ b : Bool, v = bo b) ∧ E = .ret v ∧ G = [])) (h1 : YesQ q X) (h2 : YesP p Y) : ACalls Try.prog 5 [.agg q.C, .agg p.C, i64 cut] [] (Ret (bo true)) := by
  obtain ⟨nX, hnX, hAX, hzX⟩ := cut_at cut X h1.pos h1.le
  have huX := h1.un nX hnX
  have hn2X : (wrp .i64 (hd ((wrp .u64 cut).tmod (wrp .u64 (X.size : Int))))).toNat = nX := by rw [hAX]; rfl
  rw [← hn2X] at huX
  have hsX : (0 : Int) ≤ 0 ∧ 0 ≤ wrp .i64 (hd ((wrp .u64 cut).tmod (wrp .u64 (X.size : Int)))) ∧ wrp .i64 (hd ((wrp .u64 cut).tmod (wrp .u64 (X.size : Int)))) ≤ (X.size : Int) := by rw [hAX]; omega
  obtain ⟨nY, hnY, hAY, hzY⟩ := cut_at cut Y h2.pos h2.le
  have huY := h2.un nY hnY
  have hn2Y : (wrp .i64 (hd ((wrp .u64 cut).tmod (wrp .u64 (Y.size : Int))))).toNat = nY := by rw [hAY]; rfl
  rw [← hn2Y] at huY
  have hsY : (0 : Int) ≤ 0 ∧ 0 ≤ wrp .i64 (hd ((wrp .u64 cut).tmod (wrp .u64 (Y.size : Int)))) ∧ wrp .i64 (hd ((wrp .u64 cut).tmod (wrp .u64 (Y.size : Int)))) ≤ (Y.size : Int) := by rw [hAY]; omega
  obtain ⟨k, w, l, g, m, r, key, vn, vt, vb, fr, t, lim, n, c⟩ := q
  obtain ⟨pc, pn, ph, pvn, pvt, pvb, pL, tc, ts, tl, tm, te⟩ := p
  cases m <;> cases vn <;> cases ph <;> cases pvn <;>
  · refine acalls_of_awp hT mixed Try.func5 rfl (by kernel_rfl) (by kernel_rfl) (Nat.le_of_ble_eq_true rfl) ?_
    refine callP awake20_ok rfl rfl ?_
    refine callP hf rfl rfl ?_
    refine callE hg rfl (fun v hv => by obtain ⟨b, rfl⟩ := hv; rfl) ?_
    rintro v ⟨b, rfl⟩
    cases b
    rotate_left
    · refine end0 rfl rfl rfl rfl
    refine callP h1.pk rfl rfl ?_
    refine Ob.intro hzX ?_
    refine Ob.intro hsX ?_
    refine callP huX rfl rfl ?_
    refine callP h2.pk rfl rfl ?_
    refine Ob.intro hzY ?_
    refine Ob.intro hsY ?_
    refine callP huY rfl rfl ?_
    refine end0 rfl rfl rfl rfl
theorem yesQ {q : Rq} (h : q.ok) (hr : rqB q = true) : YesQ q (BA (pkB q)) := by
  have hl := pkB_len h hr
  refine ⟨pack_yes q h hr, by rw [BA_size]; unfold pkB; simp, by rw [BA_size]; omega, fun n hn => ?_⟩
  have hu := unpackU20_ok ((BA (pkB q)).extract 0 n) (by rw [ByteArray.size_extract, BA_size]; omega)
  rw [rq_apart (rq_inv h hr) hn] at hu
  exact hu
theorem rsB_len {p : Rp} (hp : p.ok) (hc : p.c = 0) (hr : FitsB p = true) : 0 < (rsB p).length ∧ (rsB p).length ≤ 40000 := by
  obtain ⟨hv, hll, hall, htc⟩ := fits_0 hc hr
  have h1 := rows_len hall
  have h2 := numN_len10 hp.n
  have h3 := numN_len10 (show p.L.length < 18446744073709551616 by omega)
  have h4 := numN_len10 (show p.tc.toNat < 18446744073709551616 by omega)
  have h5 := numN_len10 hp.ts
  have h6 := numN_len10 hp.tl
  have h7 := numN_len10 hp.tm
  have h8 := numN_len10 hp.te
  have h9 : (voB p).length ≤ 210 := by
    unfold voB
    cases p.h with
    | false => exact Nat.zero_le _
    | true => exact txB_len (by have := spackV_size hv; omega)
  unfold rsB hdB nbB tlB
  simp only [List.length_append, List.length_cons, List.length_nil]
  omega
theorem yesP {p : Rp} (hp : p.ok) (hr : FitsB p = true) : ∃ Y, YesP p Y := by
  have hcc : 0 ≤ p.c ∧ p.c ≤ 20 := by
    unfold FitsB at hr
    split at hr
    · cases hr
    · omega
  by_cases hc : p.c = 0
  · obtain ⟨l1, l2⟩ := rsB_len hp hc hr
    refine ⟨BA (rsB p), (by cases hh : p.h with
      | true => exact tell_fulltrue p hp hc hh hr
      | false => exact tell_fullfalse p hp hc hh hr), by rw [BA_size]; exact l1, by rw [BA_size]; omega, fun n hn => ?_⟩
    exact readU_no _ (by rw [ByteArray.size_extract, BA_size]; omega) (rs_apart (rs_inv hp hc hr) hn)
  · obtain ⟨c, hk⟩ : ∃ c : Nat, p.c = (c : Int) := ⟨p.c.toNat, by omega⟩
    refine ⟨BA [c], tell_code p c hk hp.L (by omega) (by omega) hr, by rw [BA_size]; simp, by rw [BA_size]; simp, fun n hn => ?_⟩
    exact readU_no _ (by rw [ByteArray.size_extract, BA_size]; simp; omega) (rs_apart (rs_code (by omega) (by omega)) hn)
theorem askApart_ok (q : Rq) (p : Rp) (cut : Int) (hq : q.ok) (hp : p.ok) : ACalls Try.prog 5 [.agg q.C, .agg p.C, i64 cut] [] (Ret (bo true)) := by
  have hf := qfar_ok q
  cases hfar : farB q with
  | true =>
    rw [hfar] at hf
    exact kapart_farQ q p cut hf
  | false =>
    rw [hfar] at hf
    have hg := sfar_ok p hp.L
    cases hr : rqB q with
    | true =>
      cases hr2 : FitsB p with
      | true =>
        obtain ⟨Y, hY⟩ := yesP hp hr2
        exact kapart_yy q p cut _ Y hf hg (yesQ hq hr) hY
      | false => exact kapart_yn q p cut _ hf hg (yesQ hq hr) (tell_no p hp.L hr2)
    | false =>
      cases hr2 : FitsB p with
      | true =>
        obtain ⟨Y, hY⟩ := yesP hp hr2
        exact kapart_ny q p cut Y hf hg (pack_no q hq hr) hY
      | false => exact kapart_nn q p cut hf hg (pack_no q hq hr) (tell_no p hp.L hr2)
theorem sfar_big (p : Rp) (h : 100 < p.L.length) : ACalls Try.prog 15 [.agg p.C] [] (Ret (bo true)) := by
  obtain ⟨c, n, h', vn, vt, vb, L, tc, ts, tl, tm, te⟩ := p
  dsimp only at h
  refine acalls_of_awp hT mixed Try.func15 rfl (by kernel_rfl) (by kernel_rfl) (Nat.le_of_ble_eq_true rfl) ?_
  refine forkD (fun _ => ?_) (fun _ => ?_)
  · refine end0 rfl rfl rfl rfl
  refine forkD (fun _ => ?_) (fun g => absurd (show (L.length : Int) > 100 by omega) g)
  refine end0 rfl rfl rfl rfl
theorem kapart_big (q : Rq) (p : Rp) (cut : Int) (h : 100 < p.L.length) : ACalls Try.prog 5 [.agg q.C, .agg p.C, i64 cut] [] (Ret (bo true)) := by
  have hg := sfar_big p h
  have hf := qfar_ok q
  generalize farB q = z at hf
  clear h
  obtain ⟨k, w, l, g, m, r, key, vn, vt, vb, fr, t, lim, n, c⟩ := q
  obtain ⟨pc, pn, ph, pvn, pvt, pvb, pL, tc, ts, tl, tm, te⟩ := p
  cases z <;> cases m <;> cases vn <;> cases ph <;> cases pvn <;>
  · refine acalls_of_awp hT mixed Try.func5 rfl (by kernel_rfl) (by kernel_rfl) (Nat.le_of_ble_eq_true rfl) ?_
    refine callP awake20_ok rfl rfl ?_
    refine callP hf rfl rfl ?_
    first
      | (refine callP hg rfl rfl ?_
         refine end0 rfl rfl rfl rfl)
      | (refine end0 rfl rfl rfl rfl)
theorem swf_rows {l : List AV} (h : Wf (.slice (.strct (.cons (.int .i64) (.cons .str (.cons (.strct (.cons .bool (.cons .str (.cons (.int .u64) .none)))) .none))))) l) : ∃ L : List Rw, l = [rwV L] ∧ (∀ w ∈ L, w.b < 18446744073709551616) ∧ L.length ≤ 9223372036854775807 := by
  refine wf_flatR (f := rwC) (Q := fun w => w.b < 18446744073709551616) (fun r hr => ?_) h
  obtain ⟨_, _, rfl, ⟨i, rfl, _⟩, _, _, rfl, ⟨k, rfl, _⟩, _, _, rfl, hv, rfl⟩ := hr
  obtain ⟨_, _, rfl, ⟨n, rfl⟩, _, _, rfl, ⟨t, rfl, _⟩, _, _, rfl, hb, rfl⟩ := hv
  obtain ⟨b, rfl, hbb⟩ := wf_nat hb
  exact ⟨⟨i, k, n, t, b⟩, rfl, hbb⟩
theorem wf_rp {l : List AV} (h : Wf (.strct (.cons (.int .i64) (.cons (.int .u64) (.cons .bool (.cons (.strct (.cons .bool (.cons .str (.cons (.int .u64) .none)))) (.cons (.slice (.strct (.cons (.int .i64) (.cons .str (.cons (.strct (.cons .bool (.cons .str (.cons (.int .u64) .none)))) .none))))) (.cons (.strct (.cons (.int .i64) (.cons (.int .u64) (.cons (.int .u64) (.cons (.int .u64) (.cons (.int .u64) .none)))))) .none))))))) l) : ∃ p : Rp, l = p.C ∧ (100 < p.L.length ∨ p.ok) := by
  obtain ⟨_, _, rfl, ⟨c, rfl, _⟩, _, _, rfl, hn, _, _, rfl, ⟨hh, rfl⟩, _, _, rfl, hv, _, _, rfl, hr, _, _, rfl, ht, rfl⟩ := h
  obtain ⟨_, _, rfl, ⟨vn, rfl⟩, _, _, rfl, ⟨vt, rfl, _⟩, _, _, rfl, hb, rfl⟩ := hv
  obtain ⟨_, _, rfl, ⟨tc, rfl, _⟩, _, _, rfl, h1, _, _, rfl, h2, _, _, rfl, h3, _, _, rfl, h4, rfl⟩ := ht
  obtain ⟨n, rfl, hn2⟩ := wf_nat hn
  obtain ⟨vb, rfl, hb2⟩ := wf_nat hb
  obtain ⟨L, rfl, hL1, hL2⟩ := swf_rows hr
  obtain ⟨ts, rfl, h12⟩ := wf_nat h1
  obtain ⟨tl, rfl, h22⟩ := wf_nat h2
  obtain ⟨tm, rfl, h32⟩ := wf_nat h3
  obtain ⟨te, rfl, h42⟩ := wf_nat h4
  refine ⟨⟨c, n, hh, vn, vt, vb, L, tc, ts, tl, tm, te⟩, rfl, ?_⟩
  by_cases h : 100 < L.length
  · exact .inl h
  exact .inr ⟨hn2, hb2, (by dsimp only; omega), hL1, h12, h22, h32, h42⟩
theorem askApart_law (l0 : List AV) (w0 : Wf (.strct (.cons (.int .i64) (.cons (.int .i64) (.cons (.slice (.int .u64)) (.cons (.int .u64) (.cons .bool (.cons (.int .i64) (.cons .str (.cons (.strct (.cons .bool (.cons .str (.cons (.int .u64) .none)))) (.cons (.strct (.cons .str (.cons .str (.cons (.int .i64) .none)))) (.cons (.int .i64) (.cons (.slice (.strct (.cons (.int .i64) (.cons (.int .u64) .none)))) .none)))))))))))) l0) (l1 : List AV) (w1 : Wf (.strct (.cons (.int .i64) (.cons (.int .u64) (.cons .bool (.cons (.strct (.cons .bool (.cons .str (.cons (.int .u64) .none)))) (.cons (.slice (.strct (.cons (.int .i64) (.cons .str (.cons (.strct (.cons .bool (.cons .str (.cons (.int .u64) .none)))) .none))))) (.cons (.strct (.cons (.int .i64) (.cons (.int .u64) (.cons (.int .u64) (.cons (.int .u64) (.cons (.int .u64) .none)))))) .none))))))) l1) (l2 : List AV) (w2 : Wf (.int .i64) l2) : ACalls Try.prog 5 [argA (.strct (.cons (.int .i64) (.cons (.int .i64) (.cons (.slice (.int .u64)) (.cons (.int .u64) (.cons .bool (.cons (.int .i64) (.cons .str (.cons (.strct (.cons .bool (.cons .str (.cons (.int .u64) .none)))) (.cons (.strct (.cons .str (.cons .str (.cons (.int .i64) .none)))) (.cons (.int .i64) (.cons (.slice (.strct (.cons (.int .i64) (.cons (.int .u64) .none)))) .none)))))))))))) l0, argA (.strct (.cons (.int .i64) (.cons (.int .u64) (.cons .bool (.cons (.strct (.cons .bool (.cons .str (.cons (.int .u64) .none)))) (.cons (.slice (.strct (.cons (.int .i64) (.cons .str (.cons (.strct (.cons .bool (.cons .str (.cons (.int .u64) .none)))) .none))))) (.cons (.strct (.cons (.int .i64) (.cons (.int .u64) (.cons (.int .u64) (.cons (.int .u64) (.cons (.int .u64) .none)))))) .none))))))) l1, argA (.int .i64) l2] [] (Ret (.sc (.bool true))) := by
  obtain ⟨q, rfl, hq⟩ := wf_rq w0
  obtain ⟨p, rfl, hp⟩ := wf_rp w1
  obtain ⟨cut, rfl, _⟩ := w2
  show ACalls Try.prog 5 [.agg q.C, .agg p.C, i64 cut] [] (Ret (bo true))
  rcases hp with hp | hp
  · exact kapart_big q p cut hp
  rcases hq with hq | hq
  · have hf := qfar_ok q
    rw [show farB q = true from decide_eq_true (hq.elim (fun a => .inl a) (fun a => .inr (.inr (.inr (.inr (.inr a))))))] at hf
    exact kapart_farQ q p cut hf
  · exact askApart_ok q p cut hq hp
end Go.Proofs.Ytgchhmfobkcnfaa.A
