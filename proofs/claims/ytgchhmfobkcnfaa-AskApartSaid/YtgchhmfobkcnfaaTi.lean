/- ask: bytes that aren't a response's are refused. No condition. -/
import Derived.Test.YtgchhmfobkcnfaaTh
namespace Go.Proofs.Ytgchhmfobkcnfaa.A
open Go
set_option linter.unusedVariables false
set_option linter.unusedSimpArgs false
set_option maxRecDepth 100000
set_option pp.maxSteps 400

def rpR (ra : AV) (p : Rp) : List AV := [i64 p.c, u64n p.n, bo p.h, bo p.vn, str p.vt, u64n p.vb, ra, i64 p.tc, u64n p.ts, u64n p.tl, u64n p.tm, u64n p.te]
/-- It returns some response, and the error of the form. -/
def RdW : AEnd → Heap → Prop := fun E G => G = [] ∧ ∃ (p : Rp) (cs : List AV), LeL cs p.C ∧ E = .ret (.tup [.agg cs, i64 4])
def RdN : AEnd → Heap → Prop := fun E G => G = [] ∧ ∃ p : Rp, E = .ret (.tup [.agg p.C, i64 4])
theorem rd_weak {g : FuncId} {args : List AV} {H : Heap} (h : ACalls Try.prog g args H RdW) : ACalls Try.prog g args H RdN := by
  refine h.weakR ?_
  rintro E G ⟨rfl, p, cs, hl, rfl⟩
  exact ⟨_, ⟨rfl, p, rfl⟩, EndR_tup1 fun X v hv => VR_agLe hl hv⟩
theorem le_rp {p : Rp} (h : p.L = []) : LeL (rpR nilS p) p.C := by
  obtain ⟨c, n, h', vn, vt, vb, L, tc, ts, tl, tm, te⟩ := p
  dsimp only at h
  subst h
  refine ⟨?_, ?_, ?_, ?_, ?_, ?_, ?_, ?_, ?_, ?_, ?_, ?_, True.intro⟩
  all_goals first | exact fun _ _ h => h | exact fun _ _ h => VR_nilView h
theorem rw_frz0 (H : Heap) (m k : Nat) (x : Rw) : mapO (frz0 H m (k + 1)) (rwC x) = some (rwC x) := rfl
theorem frz_rp {H : Heap} {k : Nat} {p : Rp} (h : nth H 3 = some (.row (flat rwC p.L))) : mapO (frz H 0 (k + 2)) (rpR (.slc 3 0 p.L.length 5) p) = some (rpR (rwV p.L) p) := by
  have hfz : frz H 0 (k + 2) (.slc 3 0 p.L.length 5) = some (rwV p.L) := sfrz_flat (m := 0) rwC_len rw_frz0 h rfl rfl
  simp only [rpR, mapO, hfz]
  rfl
theorem frz_rp4 (H : Heap) (p : Rp) (e : Int) (h : nth H 3 = some (.row (flat rwC p.L))) : frz H 0 8 (.tup [.agg (rpR (.slc 3 0 p.L.length 5) p), i64 e]) = some (.tup [.agg (rpR (rwV p.L) p), i64 e]) :=
  frz_tup (k := 7) (by simp only [mapO]; rw [frz_agg (k := 6) (frz_rp (k := 4) h)]; rfl)
theorem renO_rw (r : Nat → Nat) (L : List Rw) : renO r (.row (flat rwC L)) = .row (flat rwC L) := renO_flat (fun _ _ => rfl) r L
theorem belowH_rp (p : Rp) : belowH 4 [.row (rpR (.slc 3 0 p.L.length 5) p), .row [i64 4], .dead, .row (flat rwC p.L)] = true := by
  have h : belowL 4 (flat rwC p.L) = true := belowL_flat (fun _ => rfl) p.L
  simp only [belowH, belowO, h]
  rfl
theorem belowH_rp5 (p : Rp) : belowH 5 [.row (rpR (.slc 3 0 p.L.length 5) p), .row [i64 4], .dead, .row (flat rwC p.L), .dead] = true := by
  have h : belowL 5 (flat rwC p.L) = true := belowL_flat (fun _ => rfl) p.L
  simp only [belowH, belowO, h]
  rfl
theorem LeL_self (l : List AV) : LeL l l := LeL_refl l
structure RdSt (n : Nat) where
  j : Nat
  L : List Rw
  t : ByteArray
  hj : j + L.length = n
  ht : t.size ≤ 1000000
  eq : ∀ u, (match rowsP j t with | some u => tlP u | none => none) = some u → u.size ≠ 0
set_option maxHeartbeats 8000000 in
theorem read_no (s : ByteArray) (hs : s.size ≤ 1000000) (hrs : ∀ u, rsP s = some u → u.size ≠ 0) : ACalls Try.prog 48 [str s] [] RdW := by
  have hc := spart_ok ⟨#[98]⟩ s (by decide) hs
  rw [show byL ⟨#[98]⟩ = [98] from rfl] at hc
  have h0 : (0 : Int) ≤ 0 ∧ (0 : Int) < ((1 : Nat) : Int) := by omega
  unfold rsP at hrs
  cases hp : begP [98] s with
  | err e =>
    rw [hp] at hc
    refine acalls_of_awpU [] hT mixed Try.func48 rfl (by kernel_rfl) (by kernel_rfl) (Nat.le_of_ble_eq_true rfl) ?_
    refine callS hc [2] ⟨.inl rfl, True.intro⟩ rfl ?_
    rintro E G ⟨rfl, rfl⟩ _
    refine ⟨_, _, rfl, rfl, ?_⟩
    refine acallsD_of_rec hT mixed Try.func18 rfl (by kernel_rfl) (by kernel_rfl) rfl rfl rfl (splain) (Nat.le_of_ble_eq_true rfl) ?_
    exact ⟨rfl, [.row (rpR nilS ⟨0, 0, false, false, ⟨#[]⟩, 0, [], 0, 0, 0, 0, 0⟩), .row [i64 4], .dead], _, ⟨⟨_, rfl, rfl⟩, ⟨.inl rfl, .inl rfl, .inr rfl, True.intro⟩, Nat.le_of_ble_eq_true rfl, rfl⟩, True.intro, [], .tup [.agg (rpR nilS ⟨0, 0, false, false, ⟨#[]⟩, 0, [], 0, 0, 0, 0, 0⟩), i64 4], ⟨⟨_, rfl, rfl⟩, True.intro, Nat.zero_le _, rfl⟩, rfl, ⟨0, 0, false, false, ⟨#[]⟩, 0, [], 0, 0, 0, 0, 0⟩, _, le_rp rfl, rfl⟩
  | ok l i =>
    obtain ⟨c, s1, l1, k1, rfl⟩ := beg_1 sh_1b hp
    have hc255 := (oneP98_inv (can_1 sh_1b hp).1).2
    rw [hp] at hc hrs
    dsimp only at hrs
    have hsm := ssmall_ok c s1 l1 k1 (by omega)
    by_cases hc0 : c = 0
    · subst hc0
      rw [if_pos rfl] at hrs
      unfold bdP at hrs
      obtain ⟨t1, ht1⟩ : ∃ t1, t1 = rest s i := ⟨_, rfl⟩
      rw [← ht1] at hrs
      have htz : t1.size ≤ 1000000 := by rw [ht1, rest_size]; omega
      have hw := spart_ok ⟨#[110, 98]⟩ t1 (by decide) htz
      rw [show byL ⟨#[110, 98]⟩ = [110, 98] from rfl] at hw
      have hcc : ACalls Try.prog 58 [.ptr 0 0, str ⟨#[98]⟩] [.row [str s]] (fun E G => E = .ret (itsV [.mk 0 s1 l1 k1]) ∧ G = [.row [str t1]]) := by rw [ht1]; exact hc
      clear hc ht1
      cases hbp : begP [110, 98] t1 with
      | err e =>
        rw [hbp] at hw
        refine acalls_of_awpU [] hT mixed Try.func48 rfl (by kernel_rfl) (by kernel_rfl) (Nat.le_of_ble_eq_true rfl) ?_
        refine callS hcc [2] ⟨.inl rfl, True.intro⟩ rfl ?_
        rintro E G ⟨rfl, rfl⟩ _
        refine ⟨_, _, rfl, rfl, ?_⟩
        refine Ob.intro h0 ?_
        refine callP hsm rfl rfl ?_
        refine callS hw [2] ⟨.inl rfl, True.intro⟩ rfl ?_
        rintro E G ⟨rfl, rfl⟩ _
        refine ⟨_, _, rfl, rfl, ?_⟩
        refine acallsD_of_rec hT mixed Try.func18 rfl (by kernel_rfl) (by kernel_rfl) rfl rfl rfl (splain) (Nat.le_of_ble_eq_true rfl) ?_
        exact ⟨rfl, [.row (rpR nilS ⟨0, 0, false, false, ⟨#[]⟩, 0, [], 0, 0, 0, 0, 0⟩), .row [i64 4], .dead], _, ⟨⟨_, rfl, rfl⟩, ⟨.inl rfl, .inl rfl, .inr rfl, True.intro⟩, Nat.le_of_ble_eq_true rfl, rfl⟩, True.intro, [], .tup [.agg (rpR nilS ⟨0, 0, false, false, ⟨#[]⟩, 0, [], 0, 0, 0, 0, 0⟩), i64 4], ⟨⟨_, rfl, rfl⟩, True.intro, Nat.zero_le _, rfl⟩, rfl, ⟨0, 0, false, false, ⟨#[]⟩, 0, [], 0, 0, 0, 0, 0⟩, _, le_rp rfl, rfl⟩
      | ok L1 j1 =>
        rw [hbp] at hw hrs
        have hl2 := begP_length sh_nb hbp
        match L1, hl2, hbp, hw, hrs with
        | [.mk pn sa la ka, .mk hh sb lb kb], _, hbp, hw, hrs =>
          dsimp only at hrs
          have i0 : (0 : Int) ≤ 0 ∧ (0 : Int) < ((2 : Nat) : Int) := by omega
          have i1 : (0 : Int) ≤ 1 ∧ (1 : Int) < ((2 : Nat) : Int) := by omega
          obtain ⟨t2, ht2⟩ : ∃ t2, t2 = rest t1 j1 := ⟨_, rfl⟩
          rw [← ht2] at hrs
          have htz2 : t2.size ≤ 1000000 := by rw [ht2, rest_size]; omega
          have hw2 : ACalls Try.prog 58 [.ptr 0 0, str ⟨#[110, 98]⟩] [.row [str t1]] (fun E G => E = .ret (itsV [.mk pn sa la ka, .mk hh sb lb kb]) ∧ G = [.row [str t2]]) := by rw [ht2]; exact hw
          clear hw ht2
          by_cases hh1 : hh ≤ 1
          · rw [if_pos hh1] at hrs
            have his := sis_ok hh sb lb kb hh1
            unfold vlP at hrs
            by_cases h1 : hh = 1
            · rw [decide_eq_true h1] at his
              rw [if_pos h1] at hrs
              have hv := svalue_ok t2 htz2
              cases hva : vaP t2 with
              | none =>
                rw [hva] at hv
                refine acalls_of_awpU [] hT mixed Try.func48 rfl (by kernel_rfl) (by kernel_rfl) (Nat.le_of_ble_eq_true rfl) ?_
                refine callS hcc [2] ⟨.inl rfl, True.intro⟩ rfl ?_
                rintro E G ⟨rfl, rfl⟩ _
                refine ⟨_, _, rfl, rfl, ?_⟩
                refine Ob.intro h0 ?_
                refine callP hsm rfl rfl ?_
                refine callS hw2 [2] ⟨.inl rfl, True.intro⟩ rfl ?_
                rintro E G ⟨rfl, rfl⟩ _
                refine ⟨_, _, rfl, rfl, ?_⟩
                refine ⟨[0, 0, 0, 0, 0, 0, 0, 1, 0, 2, 2, 3], [[], [0], [0, 1], [0, 1, 2], [], [4], [4, 5], [4, 5, 6], [0, 1, 2, 3], [0, 1, 2, 3, 4, 5, 6, 7, 8], [0, 1, 2, 3, 4, 5, 6, 7, 8, 9], [0, 1, 2, 3, 4, 5, 6, 7, 8, 9, 10]], [0, 0, 0, 0, 0, 0, 0, 0, 0, 0, 0, 0], [7, 9, 11], [[5], [34], [35], [36], [5], [38], [39], [40], [2], [42, 37], [2], [43, 41]], Ob.intro (by kernel_rfl) ?_⟩
                repeat first | refine same ?_ | refine Ob.intro i0 ?_ | refine Ob.intro i1 ?_
                refine callP his rfl rfl ?_
                repeat first | refine same ?_ | refine Ob.intro i0 ?_ | refine Ob.intro i1 ?_
                refine callS hv [2] ⟨.inl rfl, True.intro⟩ rfl ?_
                rintro E G ⟨rfl, rfl⟩ _
                refine ⟨_, _, rfl, rfl, ?_⟩
                refine acallsD_of_rec hT mixed Try.func18 rfl (by kernel_rfl) (by kernel_rfl) rfl rfl rfl (splain) (Nat.le_of_ble_eq_true rfl) ?_
                exact ⟨rfl, [.row (rpR nilS ⟨0, pn, true, false, ⟨#[]⟩, 0, [], 0, 0, 0, 0, 0⟩), .row [i64 4], .dead], _, ⟨⟨_, rfl, rfl⟩, ⟨.inl rfl, .inl rfl, .inr rfl, True.intro⟩, Nat.le_of_ble_eq_true rfl, rfl⟩, True.intro, [], .tup [.agg (rpR nilS ⟨0, pn, true, false, ⟨#[]⟩, 0, [], 0, 0, 0, 0, 0⟩), i64 4], ⟨⟨_, rfl, rfl⟩, True.intro, Nat.zero_le _, rfl⟩, rfl, ⟨0, pn, true, false, ⟨#[]⟩, 0, [], 0, 0, 0, 0, 0⟩, _, le_rp rfl, rfl⟩
              | some xv =>
                obtain ⟨⟨zn, zt, zb⟩, j2⟩ := xv
                rw [hva] at hv hrs
                have hfin : ∀ u, nrP (rest t2 j2) = some u → u.size ≠ 0 := hrs
                obtain ⟨t3, ht3⟩ : ∃ t3, t3 = rest t2 j2 := ⟨_, rfl⟩
                rw [← ht3] at hfin
                have htz3 : t3.size ≤ 1000000 := by rw [ht3, rest_size]; omega
                have hv3 : ACalls Try.prog 73 [.ptr 0 0] [.row [str t2]] (fun E G => E = .ret (val zn zt zb) ∧ G = [.row [str t3]]) := by rw [ht3]; exact hv
                clear hv ht3 hrs
                cases zn
                · refine acalls_of_awpU [] hT mixed Try.func48 rfl (by kernel_rfl) (by kernel_rfl) (Nat.le_of_ble_eq_true rfl) ?_
                  refine callS hcc [2] ⟨.inl rfl, True.intro⟩ rfl ?_
                  rintro E G ⟨rfl, rfl⟩ _
                  refine ⟨_, _, rfl, rfl, ?_⟩
                  refine Ob.intro h0 ?_
                  refine callP hsm rfl rfl ?_
                  refine callS hw2 [2] ⟨.inl rfl, True.intro⟩ rfl ?_
                  rintro E G ⟨rfl, rfl⟩ _
                  refine ⟨_, _, rfl, rfl, ?_⟩
                  refine ⟨[0, 0, 0, 0, 0, 0, 0, 1, 0, 2, 2, 3], [[], [0], [0, 1], [0, 1, 2], [], [4], [4, 5], [4, 5, 6], [0, 1, 2, 3], [0, 1, 2, 3, 4, 5, 6, 7, 8], [0, 1, 2, 3, 4, 5, 6, 7, 8, 9], [0, 1, 2, 3, 4, 5, 6, 7, 8, 9, 10]], [0, 0, 0, 0, 0, 0, 0, 0, 0, 0, 0, 0], [7, 9, 11], [[5], [34], [35], [36], [5], [38], [39], [40], [2], [42, 37], [2], [43, 41]], Ob.intro (by kernel_rfl) ?_⟩
                  repeat first | refine same ?_ | refine Ob.intro i0 ?_ | refine Ob.intro i1 ?_
                  refine callP his rfl rfl ?_
                  repeat first | refine same ?_ | refine Ob.intro i0 ?_ | refine Ob.intro i1 ?_
                  refine callS hv3 [2] ⟨.inl rfl, True.intro⟩ rfl ?_
                  rintro E G ⟨rfl, rfl⟩ _
                  refine ⟨_, _, rfl, rfl, ?_⟩
                  have hwn := spart_ok ⟨#[110]⟩ t3 (by decide) (htz3)
                  rw [show byL ⟨#[110]⟩ = [110] from rfl] at hwn
                  unfold nrP smP at hfin
                  cases hbn : begP [110] t3 with
                  | err e =>
                    rw [hbn] at hwn
                    refine callS hwn [2] ⟨.inl rfl, True.intro⟩ rfl ?_
                    rintro E G ⟨rfl, rfl⟩ _
                    refine ⟨_, _, rfl, rfl, ?_⟩
                    refine acallsD_of_rec hT mixed Try.func18 rfl (by kernel_rfl) (by kernel_rfl) rfl rfl rfl (splain) (Nat.le_of_ble_eq_true rfl) ?_
                    exact ⟨rfl, [.row (rpR nilS ⟨0, pn, true, false, zt, zb, [], 0, 0, 0, 0, 0⟩), .row [i64 4], .dead], _, ⟨⟨_, rfl, rfl⟩, ⟨.inl rfl, .inl rfl, .inr rfl, True.intro⟩, Nat.le_of_ble_eq_true rfl, rfl⟩, True.intro, [], .tup [.agg (rpR nilS ⟨0, pn, true, false, zt, zb, [], 0, 0, 0, 0, 0⟩), i64 4], ⟨⟨_, rfl, rfl⟩, True.intro, Nat.zero_le _, rfl⟩, rfl, ⟨0, pn, true, false, zt, zb, [], 0, 0, 0, 0, 0⟩, _, le_rp rfl, rfl⟩
                  | ok L3 j3 =>
                    rw [hbn] at hwn hfin
                    have hl3 := begP_length sh_1n hbn
                    match L3, hl3, hbn, hwn, hfin with
                    | [.mk n sn ln kn], _, hbn, hwn, hfin =>
                      dsimp only at hfin
                      have iz : (0 : Int) ≤ 0 ∧ (0 : Int) < ((1 : Nat) : Int) := by omega
                      by_cases hn : n ≤ 2147483647
                      · rw [if_pos hn] at hfin
                        dsimp only at hfin
                        have hsn := ssmall_ok n sn ln kn hn
                        by_cases hn64 : n ≤ 64
                        · rw [if_pos hn64] at hfin
                          refine callS hwn [2] ⟨.inl rfl, True.intro⟩ rfl ?_
                          rintro E G ⟨rfl, rfl⟩ _
                          refine ⟨_, _, rfl, rfl, ?_⟩
                          refine Ob.intro iz ?_
                          refine callP hsn rfl rfl ?_
                          refine forkD (fun _ => ?_) (fun g => absurd (show ((n : Nat) : Int) ≤ 64 by omega) g)
                          refine callP smust_yes rfl rfl ?_
                          refine loopG (α := RdSt n) (fun z => [(2, .ptr 0 0), (3, .ptr 1 0), (4, .ptr 2 0), (57, i64 n), (58, i64 (z.L.length : Nat))]) (fun z => [.row (rpR (.slc 3 0 z.L.length 5) ⟨0, pn, true, false, zt, zb, [], 0, 0, 0, 0, 0⟩), .row [i64 0], .row [str z.t], .row (flat rwC z.L)]) [⟨18, [], [.ptr 1 0, i64 4]⟩] (fun z => z.j) ⟨n, [], rest t3 j3, rfl, by rw [rest_size]; omega, hfin⟩ [.cell 0 6 5] [0, 1, 2, 3] ⟨⟨rfl, rfl, rfl, rfl, rfl, True.intro⟩, ⟨.inl rfl, .inl rfl, .inl rfl, .inl rfl, True.intro⟩, rfl, rfl, rfl⟩ ?_
                          clear hfin
                          rintro ⟨j, L, t, hj, htz, eq⟩ K hK
                          dsimp only at hj htz eq ⊢
                          refine forkD (fun g => ?_) (fun g => ?_)
                          · obtain ⟨j, rfl⟩ : ∃ i, j = i + 1 := ⟨j - 1, by have : (L.length : Int) < (n : Int) := g; omega⟩
                            have hw := spart_ok ⟨#[110, 116]⟩ t (by decide) htz
                            rw [show byL ⟨#[110, 116]⟩ = [110, 116] from rfl] at hw
                            unfold rowsP rwP at eq
                            cases hbp : begP [110, 116] t with
                            | err e =>
                              rw [hbp] at hw
                              refine callS hw [2] ⟨.inl rfl, True.intro⟩ rfl ?_
                              rintro E G ⟨rfl, rfl⟩ _
                              refine ⟨_, [.row (rpR (.slc 3 0 L.length 5) ⟨0, pn, true, false, zt, zb, [], 0, 0, 0, 0, 0⟩), .row [i64 0], .dead, .row (flat rwC L)], rfl, by simp only [renH, renO_rw]; rfl, ?_⟩
                              refine acallsD_of_rec hT mixed Try.func18 rfl (by kernel_rfl) (by kernel_rfl) rfl rfl rfl (splain) (Nat.le_of_ble_eq_true rfl) ?_
                              refine ⟨rfl, [.row (rpR (.slc 3 0 L.length 5) ⟨0, pn, true, false, zt, zb, L, 0, 0, 0, 0, 0⟩), .row [i64 4], .dead, .row (flat rwC L)], _, ⟨⟨_, rfl, rfl⟩, ⟨.inl rfl, .inl rfl, .inr rfl, .inl rfl, True.intro⟩, Nat.le_of_ble_eq_true rfl, belowH_rp ⟨0, pn, true, false, zt, zb, L, 0, 0, 0, 0, 0⟩⟩, True.intro, [], .tup [.agg (rpR (rwV L) ⟨0, pn, true, false, zt, zb, L, 0, 0, 0, 0, 0⟩), i64 4], ⟨⟨_, rfl, ?_⟩, True.intro, Nat.zero_le _, rfl⟩, rfl, ⟨0, pn, true, false, zt, zb, L, 0, 0, 0, 0, 0⟩, _, LeL_self _, rfl⟩
                              exact frz_rp4 _ ⟨0, pn, true, false, zt, zb, L, 0, 0, 0, 0, 0⟩ 4 rfl
                            | ok L1 j1 =>
                              rw [hbp] at hw eq
                              have hl2 := begP_length sh_nt hbp
                              match L1, hl2, hbp, hw, eq with
                              | [.mk xa sa la ka, .mk xb sb lb kb], _, hbp, hw, eq =>
                                dsimp only at eq
                                have i0 : (0 : Int) ≤ 0 ∧ (0 : Int) < ((2 : Nat) : Int) := by omega
                                have i1 : (0 : Int) ≤ 1 ∧ (1 : Int) < ((2 : Nat) : Int) := by omega
                                have hll : L.length < 64 := by omega
                                have hob : (L.length + 1) * 56 ≤ 140737488355328 ∧ L.length + 1 ≤ 9223372036854775807 := by omega
                                by_cases hxa : xa ≤ 2147483647
                                · rw [if_pos hxa] at eq
                                  have hsa := ssmall_ok xa sa la ka hxa
                                  have hv := svalue_ok (rest t j1) (by rw [rest_size]; omega)
                                  cases hva : vaP (rest t j1) with
                                  | none =>
                                    rw [hva] at hv
                                    refine callS hw [2] ⟨.inl rfl, True.intro⟩ rfl ?_
                                    rintro E G ⟨rfl, rfl⟩ _
                                    refine ⟨_, [.row (rpR (.slc 3 0 L.length 5) ⟨0, pn, true, false, zt, zb, [], 0, 0, 0, 0, 0⟩), .row [i64 0], .row [str (rest t j1)], .row (flat rwC L)], rfl, by simp only [renH, renO_rw]; rfl, ?_⟩
                                    refine ⟨[0, 0, 0, 0, 0, 1, 0, 0, 0, 0, 0, 2, 2, 2, 3, 3, 4], [[], [0], [], [2], [2, 3], [2, 3, 4], [], [6], [6, 7], [6, 7, 8], [], [2, 3, 4, 5, 10], [2, 3, 4, 5, 6, 7, 8, 9, 10, 11], [2, 3, 4, 5, 6, 7, 8, 9, 10, 11, 12], [0, 1, 2, 3, 4, 5, 6, 7, 8, 9, 10, 11, 12, 13], [0, 1, 2, 3, 4, 5, 6, 7, 8, 9, 10, 11, 12, 13, 14], [0, 1, 2, 3, 4, 5, 6, 7, 8, 9, 10, 11, 12, 13, 14, 15]], [0, 0, 0, 0, 0, 0, 0, 0, 0, 0, 0, 0, 0, 0, 1, 1, 1], [5, 11, 14, 16], [[2], [62], [7], [64], [65], [66], [7], [68], [69], [70], [4], [72], [67, 71, 73], [74], [63, 75], [2], [77, 76]], Ob.intro (by kernel_rfl) ?_⟩
                                    repeat first | refine same ?_ | refine Ob.intro i0 ?_ | refine Ob.intro i1 ?_
                                    refine callP hsa rfl rfl ?_
                                    repeat first | refine same ?_ | refine Ob.intro i0 ?_ | refine Ob.intro i1 ?_
                                    refine callS hv [2] ⟨.inl rfl, True.intro⟩ rfl ?_
                                    rintro E G ⟨rfl, rfl⟩ _
                                    refine ⟨_, [.row (rpR (.slc 3 0 L.length 5) ⟨0, pn, true, false, zt, zb, [], 0, 0, 0, 0, 0⟩), .row [i64 0], .dead, .row (flat rwC L), .dead], rfl, by simp only [renH, renO_rw]; rfl, ?_⟩
                                    refine acallsD_of_rec hT mixed Try.func18 rfl (by kernel_rfl) (by kernel_rfl) rfl rfl rfl (splain) (Nat.le_of_ble_eq_true rfl) ?_
                                    refine ⟨rfl, [.row (rpR (.slc 3 0 L.length 5) ⟨0, pn, true, false, zt, zb, L, 0, 0, 0, 0, 0⟩), .row [i64 4], .dead, .row (flat rwC L), .dead], _, ⟨⟨_, rfl, rfl⟩, ⟨.inl rfl, .inl rfl, .inr rfl, .inl rfl, .inr rfl, True.intro⟩, Nat.le_of_ble_eq_true rfl, belowH_rp5 ⟨0, pn, true, false, zt, zb, L, 0, 0, 0, 0, 0⟩⟩, True.intro, [], .tup [.agg (rpR (rwV L) ⟨0, pn, true, false, zt, zb, L, 0, 0, 0, 0, 0⟩), i64 4], ⟨⟨_, rfl, ?_⟩, True.intro, Nat.zero_le _, rfl⟩, rfl, ⟨0, pn, true, false, zt, zb, L, 0, 0, 0, 0, 0⟩, _, LeL_self _, rfl⟩
                                    exact frz_rp4 _ ⟨0, pn, true, false, zt, zb, L, 0, 0, 0, 0, 0⟩ 4 rfl
                                  | some xv =>
                                    obtain ⟨⟨xn, xt, xb2⟩, j2⟩ := xv
                                    rw [hva] at hv eq
                                    dsimp only [Option.map] at eq
                                    obtain ⟨w, hw9⟩ : ∃ w : Rw, w = ⟨(xa : Int), sb, xn, xt, xb2⟩ := ⟨_, rfl⟩
                                    cases xn <;>
                                    · refine callS hw [2] ⟨.inl rfl, True.intro⟩ rfl ?_
                                      rintro E G ⟨rfl, rfl⟩ _
                                      refine ⟨_, [.row (rpR (.slc 3 0 L.length 5) ⟨0, pn, true, false, zt, zb, [], 0, 0, 0, 0, 0⟩), .row [i64 0], .row [str (rest t j1)], .row (flat rwC L)], rfl, by simp only [renH, renO_rw]; rfl, ?_⟩
                                      refine ⟨[0, 0, 0, 0, 0, 1, 0, 0, 0, 0, 0, 2, 2, 2, 3, 3, 4], [[], [0], [], [2], [2, 3], [2, 3, 4], [], [6], [6, 7], [6, 7, 8], [], [2, 3, 4, 5, 10], [2, 3, 4, 5, 6, 7, 8, 9, 10, 11], [2, 3, 4, 5, 6, 7, 8, 9, 10, 11, 12], [0, 1, 2, 3, 4, 5, 6, 7, 8, 9, 10, 11, 12, 13], [0, 1, 2, 3, 4, 5, 6, 7, 8, 9, 10, 11, 12, 13, 14], [0, 1, 2, 3, 4, 5, 6, 7, 8, 9, 10, 11, 12, 13, 14, 15]], [0, 0, 0, 0, 0, 0, 0, 0, 0, 0, 0, 0, 0, 0, 1, 1, 1], [5, 11, 14, 16], [[2], [62], [7], [64], [65], [66], [7], [68], [69], [70], [4], [72], [67, 71, 73], [74], [63, 75], [2], [77, 76]], Ob.intro (by kernel_rfl) ?_⟩
                                      repeat first | refine same ?_ | refine Ob.intro i0 ?_ | refine Ob.intro i1 ?_
                                      refine callP hsa rfl rfl ?_
                                      repeat first | refine same ?_ | refine Ob.intro i0 ?_ | refine Ob.intro i1 ?_
                                      refine callS hv [2] ⟨.inl rfl, True.intro⟩ rfl ?_
                                      rintro E G ⟨rfl, rfl⟩ _
                                      refine ⟨_, [.row (rpR (.slc 3 0 L.length 5) ⟨0, pn, true, false, zt, zb, [], 0, 0, 0, 0, 0⟩), .row [i64 0], .row [str (rest (rest t j1) j2)], .row (flat rwC L), .dead], rfl, by simp only [renH, renO_rw]; rfl, ?_⟩
                                      repeat first | refine same ?_ | refine Ob.intro i0 ?_ | refine Ob.intro i1 ?_
                                      refine Ob.intro rfl ?_
                                      refine optK_intro (rdN_all (cs := flat rwC L) rfl (by rw [flat_len rwC_len])) ?_
                                      refine Ob.intro hob ?_
                                      repeat first | refine same ?_ | refine Ob.intro i0 ?_ | refine Ob.intro i1 ?_
                                      have hinc : wrp .i64 ((L.length : Int) + 1) = ((L.length + 1 : Nat) : Int) := by rw [wrpE, wi64]; omega
                                      refine hK ⟨j, L ++ [w], rest (rest t j1) j2, by rw [List.length_append]; simp only [List.length_cons, List.length_nil]; omega, by rw [rest_size, rest_size]; omega, eq⟩ [] [0, 1, 2, 5] _ rfl ⟨⟨rfl, rfl, rfl, rfl, ?_, True.intro⟩, ⟨.inl ?_, .inl rfl, .inl rfl, .inl ?_, True.intro⟩, rfl, rfl, rfl⟩
                                      · rw [show (L ++ [w]).length = L.length + 1 by simp]
                                        exact congrArg i64 hinc
                                      · rw [show (L ++ [w]).length = L.length + 1 by simp]
                                        rfl
                                      · show some (AObj.row (flat rwC L ++ [i64 (xa : Int), str sb, bo _, str xt, u64n xb2])) = some (renO _ (.row (flat rwC (L ++ [w]))))
                                        rw [renO_rw, flat_append, hw9]
                                        rfl
                                · have hsa := ssmall_no xa sa la ka hxa
                                  refine callS hw [2] ⟨.inl rfl, True.intro⟩ rfl ?_
                                  rintro E G ⟨rfl, rfl⟩ _
                                  refine ⟨_, [.row (rpR (.slc 3 0 L.length 5) ⟨0, pn, true, false, zt, zb, [], 0, 0, 0, 0, 0⟩), .row [i64 0], .row [str (rest t j1)], .row (flat rwC L)], rfl, by simp only [renH, renO_rw]; rfl, ?_⟩
                                  refine ⟨[0, 0, 0, 0, 0, 1, 0, 0, 0, 0, 0, 2, 2, 2, 3, 3, 4], [[], [0], [], [2], [2, 3], [2, 3, 4], [], [6], [6, 7], [6, 7, 8], [], [2, 3, 4, 5, 10], [2, 3, 4, 5, 6, 7, 8, 9, 10, 11], [2, 3, 4, 5, 6, 7, 8, 9, 10, 11, 12], [0, 1, 2, 3, 4, 5, 6, 7, 8, 9, 10, 11, 12, 13], [0, 1, 2, 3, 4, 5, 6, 7, 8, 9, 10, 11, 12, 13, 14], [0, 1, 2, 3, 4, 5, 6, 7, 8, 9, 10, 11, 12, 13, 14, 15]], [0, 0, 0, 0, 0, 0, 0, 0, 0, 0, 0, 0, 0, 0, 1, 1, 1], [5, 11, 14, 16], [[2], [62], [7], [64], [65], [66], [7], [68], [69], [70], [4], [72], [67, 71, 73], [74], [63, 75], [2], [77, 76]], Ob.intro (by kernel_rfl) ?_⟩
                                  repeat first | refine same ?_ | refine Ob.intro i0 ?_ | refine Ob.intro i1 ?_
                                  refine callBad hsa rfl ?_
                                  refine acallsD_of_rec hT mixed Try.func18 rfl (by kernel_rfl) (by kernel_rfl) rfl rfl rfl (splain) (Nat.le_of_ble_eq_true rfl) ?_
                                  refine ⟨rfl, [.row (rpR (.slc 3 0 L.length 5) ⟨0, pn, true, false, zt, zb, L, 0, 0, 0, 0, 0⟩), .row [i64 4], .dead, .row (flat rwC L), .dead], _, ⟨⟨_, rfl, rfl⟩, ⟨.inl rfl, .inl rfl, .inr rfl, .inl rfl, .inr rfl, True.intro⟩, Nat.le_of_ble_eq_true rfl, belowH_rp5 ⟨0, pn, true, false, zt, zb, L, 0, 0, 0, 0, 0⟩⟩, True.intro, [], .tup [.agg (rpR (rwV L) ⟨0, pn, true, false, zt, zb, L, 0, 0, 0, 0, 0⟩), i64 4], ⟨⟨_, rfl, ?_⟩, True.intro, Nat.zero_le _, rfl⟩, rfl, ⟨0, pn, true, false, zt, zb, L, 0, 0, 0, 0, 0⟩, _, LeL_self _, rfl⟩
                                  exact frz_rp4 _ ⟨0, pn, true, false, zt, zb, L, 0, 0, 0, 0, 0⟩ 4 rfl
                          · have hj0 : j = 0 := by have : ¬ (L.length : Int) < (n : Int) := g; omega
                            subst hj0
                            have eq : ∀ u, tlP t = some u → u.size ≠ 0 := eq
                            unfold tlP at eq
                            have hw := spart_ok ⟨#[110, 110, 110, 110, 110]⟩ t (by decide) htz
                            rw [show byL ⟨#[110, 110, 110, 110, 110]⟩ = [110, 110, 110, 110, 110] from rfl] at hw
                            cases hbp : begP [110, 110, 110, 110, 110] t with
                            | err e =>
                              rw [hbp] at hw
                              refine callS hw [2] ⟨.inl rfl, True.intro⟩ rfl ?_
                              rintro E G ⟨rfl, rfl⟩ _
                              refine ⟨_, [.row (rpR (.slc 3 0 L.length 5) ⟨0, pn, true, false, zt, zb, [], 0, 0, 0, 0, 0⟩), .row [i64 0], .dead, .row (flat rwC L)], rfl, by simp only [renH, renO_rw]; rfl, ?_⟩
                              refine acallsD_of_rec hT mixed Try.func18 rfl (by kernel_rfl) (by kernel_rfl) rfl rfl rfl (splain) (Nat.le_of_ble_eq_true rfl) ?_
                              refine ⟨rfl, [.row (rpR (.slc 3 0 L.length 5) ⟨0, pn, true, false, zt, zb, L, 0, 0, 0, 0, 0⟩), .row [i64 4], .dead, .row (flat rwC L)], _, ⟨⟨_, rfl, rfl⟩, ⟨.inl rfl, .inl rfl, .inr rfl, .inl rfl, True.intro⟩, Nat.le_of_ble_eq_true rfl, belowH_rp ⟨0, pn, true, false, zt, zb, L, 0, 0, 0, 0, 0⟩⟩, True.intro, [], .tup [.agg (rpR (rwV L) ⟨0, pn, true, false, zt, zb, L, 0, 0, 0, 0, 0⟩), i64 4], ⟨⟨_, rfl, ?_⟩, True.intro, Nat.zero_le _, rfl⟩, rfl, ⟨0, pn, true, false, zt, zb, L, 0, 0, 0, 0, 0⟩, _, LeL_self _, rfl⟩
                              exact frz_rp4 _ ⟨0, pn, true, false, zt, zb, L, 0, 0, 0, 0, 0⟩ 4 rfl
                            | ok L1 j1 =>
                              rw [hbp] at hw eq
                              have hl2 := begP_length sh_n5 hbp
                              match L1, hl2, hbp, hw, eq with
                              | [.mk xa sa la ka, .mk xb sb lb kb, .mk xc sc lc kc, .mk xd sd ld kd, .mk xe se le ke], _, hbp, hw, eq =>
                                dsimp only at eq
                                have i0 : (0 : Int) ≤ 0 ∧ (0 : Int) < ((5 : Nat) : Int) := by omega
                                have i1 : (0 : Int) ≤ 1 ∧ (1 : Int) < ((5 : Nat) : Int) := by omega
                                have i2 : (0 : Int) ≤ 2 ∧ (2 : Int) < ((5 : Nat) : Int) := by omega
                                have i3 : (0 : Int) ≤ 3 ∧ (3 : Int) < ((5 : Nat) : Int) := by omega
                                have i4 : (0 : Int) ≤ 4 ∧ (4 : Int) < ((5 : Nat) : Int) := by omega
                                by_cases hxa : xa ≤ 2147483647
                                · rw [if_pos hxa] at eq
                                  have hne := eq _ rfl
                                  have hsa := ssmall_ok xa sa la ka hxa
                                  have hr := strEq_nilS (rest t j1)
                                  rw [decide_eq_false hne] at hr
                                  refine callS hw [2] ⟨.inl rfl, True.intro⟩ rfl ?_
                                  rintro E G ⟨rfl, rfl⟩ _
                                  refine ⟨_, [.row (rpR (.slc 3 0 L.length 5) ⟨0, pn, true, false, zt, zb, [], 0, 0, 0, 0, 0⟩), .row [i64 0], .row [str (rest t j1)], .row (flat rwC L)], rfl, by simp only [renH, renO_rw]; rfl, ?_⟩
                                  refine ⟨[0, 0, 0, 1, 0, 0, 0, 0, 0, 0, 0, 0, 0, 0, 0, 0, 0, 0, 0, 0, 1, 1, 2], [[], [0], [0, 1], [0, 1, 2], [], [4], [4, 5], [4, 5, 6], [], [8], [8, 9], [8, 9, 10], [], [12], [12, 13], [12, 13, 14], [], [16], [16, 17], [16, 17, 18], [0, 1, 2, 3, 4, 5, 6, 7, 8, 9, 10, 11, 12, 13, 14, 15, 16, 17, 18, 19], [0, 1, 2, 3, 4, 5, 6, 7, 8, 9, 10, 11, 12, 13, 14, 15, 16, 17, 18, 19, 20], [0, 1, 2, 3, 4, 5, 6, 7, 8, 9, 10, 11, 12, 13, 14, 15, 16, 17, 18, 19, 20, 21]], [0, 0, 0, 0, 0, 0, 0, 0, 0, 0, 0, 0, 0, 0, 0, 0, 0, 0, 0, 0, 0, 0, 0], [3, 22], [[8], [81], [82], [83], [8], [85], [86], [87], [8], [89], [90], [91], [8], [93], [94], [95], [8], [97], [98], [99], [84, 88, 92, 96, 100], [2], [102, 101]], Ob.intro (by kernel_rfl) ?_⟩
                                  repeat first | refine same ?_ | refine Ob.intro i0 ?_ | refine Ob.intro i1 ?_ | refine Ob.intro i2 ?_ | refine Ob.intro i3 ?_ | refine Ob.intro i4 ?_
                                  refine callP hsa rfl rfl ?_
                                  repeat first | refine same ?_ | refine Ob.intro i0 ?_ | refine Ob.intro i1 ?_ | refine Ob.intro i2 ?_ | refine Ob.intro i3 ?_ | refine Ob.intro i4 ?_
                                  generalize rest t j1 = t9 at hr ⊢
                                  refine fork (fun g => absurd hr (by rw [g]; decide)) (fun _ => ?_)
                                  refine callBad smust_no rfl ?_
                                  refine acallsD_of_rec hT mixed Try.func18 rfl (by kernel_rfl) (by kernel_rfl) rfl rfl rfl (splain) (Nat.le_of_ble_eq_true rfl) ?_
                                  refine ⟨rfl, [.row (rpR (.slc 3 0 L.length 5) ⟨0, pn, true, false, zt, zb, L, (xa : Nat), xb, xc, xd, xe⟩), .row [i64 4], .dead, .row (flat rwC L)], _, ⟨⟨_, rfl, rfl⟩, ⟨.inl rfl, .inl rfl, .inr rfl, .inl rfl, True.intro⟩, Nat.le_of_ble_eq_true rfl, belowH_rp ⟨0, pn, true, false, zt, zb, L, (xa : Nat), xb, xc, xd, xe⟩⟩, True.intro, [], .tup [.agg (rpR (rwV L) ⟨0, pn, true, false, zt, zb, L, (xa : Nat), xb, xc, xd, xe⟩), i64 4], ⟨⟨_, rfl, ?_⟩, True.intro, Nat.zero_le _, rfl⟩, rfl, ⟨0, pn, true, false, zt, zb, L, (xa : Nat), xb, xc, xd, xe⟩, _, LeL_self _, rfl⟩
                                  exact frz_rp4 _ ⟨0, pn, true, false, zt, zb, L, (xa : Nat), xb, xc, xd, xe⟩ 4 rfl
                                · have hsa := ssmall_no xa sa la ka hxa
                                  refine callS hw [2] ⟨.inl rfl, True.intro⟩ rfl ?_
                                  rintro E G ⟨rfl, rfl⟩ _
                                  refine ⟨_, [.row (rpR (.slc 3 0 L.length 5) ⟨0, pn, true, false, zt, zb, [], 0, 0, 0, 0, 0⟩), .row [i64 0], .row [str (rest t j1)], .row (flat rwC L)], rfl, by simp only [renH, renO_rw]; rfl, ?_⟩
                                  refine ⟨[0, 0, 0, 1, 0, 0, 0, 0, 0, 0, 0, 0, 0, 0, 0, 0, 0, 0, 0, 0, 1, 1, 2], [[], [0], [0, 1], [0, 1, 2], [], [4], [4, 5], [4, 5, 6], [], [8], [8, 9], [8, 9, 10], [], [12], [12, 13], [12, 13, 14], [], [16], [16, 17], [16, 17, 18], [0, 1, 2, 3, 4, 5, 6, 7, 8, 9, 10, 11, 12, 13, 14, 15, 16, 17, 18, 19], [0, 1, 2, 3, 4, 5, 6, 7, 8, 9, 10, 11, 12, 13, 14, 15, 16, 17, 18, 19, 20], [0, 1, 2, 3, 4, 5, 6, 7, 8, 9, 10, 11, 12, 13, 14, 15, 16, 17, 18, 19, 20, 21]], [0, 0, 0, 0, 0, 0, 0, 0, 0, 0, 0, 0, 0, 0, 0, 0, 0, 0, 0, 0, 0, 0, 0], [3, 22], [[8], [81], [82], [83], [8], [85], [86], [87], [8], [89], [90], [91], [8], [93], [94], [95], [8], [97], [98], [99], [84, 88, 92, 96, 100], [2], [102, 101]], Ob.intro (by kernel_rfl) ?_⟩
                                  repeat first | refine same ?_ | refine Ob.intro i0 ?_ | refine Ob.intro i1 ?_ | refine Ob.intro i2 ?_ | refine Ob.intro i3 ?_ | refine Ob.intro i4 ?_
                                  refine callBad hsa rfl ?_
                                  refine acallsD_of_rec hT mixed Try.func18 rfl (by kernel_rfl) (by kernel_rfl) rfl rfl rfl (splain) (Nat.le_of_ble_eq_true rfl) ?_
                                  refine ⟨rfl, [.row (rpR (.slc 3 0 L.length 5) ⟨0, pn, true, false, zt, zb, L, 0, 0, 0, 0, 0⟩), .row [i64 4], .dead, .row (flat rwC L)], _, ⟨⟨_, rfl, rfl⟩, ⟨.inl rfl, .inl rfl, .inr rfl, .inl rfl, True.intro⟩, Nat.le_of_ble_eq_true rfl, belowH_rp ⟨0, pn, true, false, zt, zb, L, 0, 0, 0, 0, 0⟩⟩, True.intro, [], .tup [.agg (rpR (rwV L) ⟨0, pn, true, false, zt, zb, L, 0, 0, 0, 0, 0⟩), i64 4], ⟨⟨_, rfl, ?_⟩, True.intro, Nat.zero_le _, rfl⟩, rfl, ⟨0, pn, true, false, zt, zb, L, 0, 0, 0, 0, 0⟩, _, LeL_self _, rfl⟩
                                  exact frz_rp4 _ ⟨0, pn, true, false, zt, zb, L, 0, 0, 0, 0, 0⟩ 4 rfl
                        · refine callS hwn [2] ⟨.inl rfl, True.intro⟩ rfl ?_
                          rintro E G ⟨rfl, rfl⟩ _
                          refine ⟨_, _, rfl, rfl, ?_⟩
                          refine Ob.intro iz ?_
                          refine callP hsn rfl rfl ?_
                          refine forkD (fun g => absurd (show ((n : Nat) : Int) ≤ 64 from g) (by omega)) (fun _ => ?_)
                          refine callBad smust_no rfl ?_
                          refine acallsD_of_rec hT mixed Try.func18 rfl (by kernel_rfl) (by kernel_rfl) rfl rfl rfl (splain) (Nat.le_of_ble_eq_true rfl) ?_
                          exact ⟨rfl, [.row (rpR nilS ⟨0, pn, true, false, zt, zb, [], 0, 0, 0, 0, 0⟩), .row [i64 4], .dead], _, ⟨⟨_, rfl, rfl⟩, ⟨.inl rfl, .inl rfl, .inr rfl, True.intro⟩, Nat.le_of_ble_eq_true rfl, rfl⟩, True.intro, [], .tup [.agg (rpR nilS ⟨0, pn, true, false, zt, zb, [], 0, 0, 0, 0, 0⟩), i64 4], ⟨⟨_, rfl, rfl⟩, True.intro, Nat.zero_le _, rfl⟩, rfl, ⟨0, pn, true, false, zt, zb, [], 0, 0, 0, 0, 0⟩, _, le_rp rfl, rfl⟩
                      · have hsn := ssmall_no n sn ln kn hn
                        refine callS hwn [2] ⟨.inl rfl, True.intro⟩ rfl ?_
                        rintro E G ⟨rfl, rfl⟩ _
                        refine ⟨_, _, rfl, rfl, ?_⟩
                        refine Ob.intro iz ?_
                        refine callBad hsn rfl ?_
                        refine acallsD_of_rec hT mixed Try.func18 rfl (by kernel_rfl) (by kernel_rfl) rfl rfl rfl (splain) (Nat.le_of_ble_eq_true rfl) ?_
                        exact ⟨rfl, [.row (rpR nilS ⟨0, pn, true, false, zt, zb, [], 0, 0, 0, 0, 0⟩), .row [i64 4], .dead], _, ⟨⟨_, rfl, rfl⟩, ⟨.inl rfl, .inl rfl, .inr rfl, True.intro⟩, Nat.le_of_ble_eq_true rfl, rfl⟩, True.intro, [], .tup [.agg (rpR nilS ⟨0, pn, true, false, zt, zb, [], 0, 0, 0, 0, 0⟩), i64 4], ⟨⟨_, rfl, rfl⟩, True.intro, Nat.zero_le _, rfl⟩, rfl, ⟨0, pn, true, false, zt, zb, [], 0, 0, 0, 0, 0⟩, _, le_rp rfl, rfl⟩
                · refine acalls_of_awpU [] hT mixed Try.func48 rfl (by kernel_rfl) (by kernel_rfl) (Nat.le_of_ble_eq_true rfl) ?_
                  refine callS hcc [2] ⟨.inl rfl, True.intro⟩ rfl ?_
                  rintro E G ⟨rfl, rfl⟩ _
                  refine ⟨_, _, rfl, rfl, ?_⟩
                  refine Ob.intro h0 ?_
                  refine callP hsm rfl rfl ?_
                  refine callS hw2 [2] ⟨.inl rfl, True.intro⟩ rfl ?_
                  rintro E G ⟨rfl, rfl⟩ _
                  refine ⟨_, _, rfl, rfl, ?_⟩
                  refine ⟨[0, 0, 0, 0, 0, 0, 0, 1, 0, 2, 2, 3], [[], [0], [0, 1], [0, 1, 2], [], [4], [4, 5], [4, 5, 6], [0, 1, 2, 3], [0, 1, 2, 3, 4, 5, 6, 7, 8], [0, 1, 2, 3, 4, 5, 6, 7, 8, 9], [0, 1, 2, 3, 4, 5, 6, 7, 8, 9, 10]], [0, 0, 0, 0, 0, 0, 0, 0, 0, 0, 0, 0], [7, 9, 11], [[5], [34], [35], [36], [5], [38], [39], [40], [2], [42, 37], [2], [43, 41]], Ob.intro (by kernel_rfl) ?_⟩
                  repeat first | refine same ?_ | refine Ob.intro i0 ?_ | refine Ob.intro i1 ?_
                  refine callP his rfl rfl ?_
                  repeat first | refine same ?_ | refine Ob.intro i0 ?_ | refine Ob.intro i1 ?_
                  refine callS hv3 [2] ⟨.inl rfl, True.intro⟩ rfl ?_
                  rintro E G ⟨rfl, rfl⟩ _
                  refine ⟨_, _, rfl, rfl, ?_⟩
                  have hwn := spart_ok ⟨#[110]⟩ t3 (by decide) (htz3)
                  rw [show byL ⟨#[110]⟩ = [110] from rfl] at hwn
                  unfold nrP smP at hfin
                  cases hbn : begP [110] t3 with
                  | err e =>
                    rw [hbn] at hwn
                    refine callS hwn [2] ⟨.inl rfl, True.intro⟩ rfl ?_
                    rintro E G ⟨rfl, rfl⟩ _
                    refine ⟨_, _, rfl, rfl, ?_⟩
                    refine acallsD_of_rec hT mixed Try.func18 rfl (by kernel_rfl) (by kernel_rfl) rfl rfl rfl (splain) (Nat.le_of_ble_eq_true rfl) ?_
                    exact ⟨rfl, [.row (rpR nilS ⟨0, pn, true, true, zt, zb, [], 0, 0, 0, 0, 0⟩), .row [i64 4], .dead], _, ⟨⟨_, rfl, rfl⟩, ⟨.inl rfl, .inl rfl, .inr rfl, True.intro⟩, Nat.le_of_ble_eq_true rfl, rfl⟩, True.intro, [], .tup [.agg (rpR nilS ⟨0, pn, true, true, zt, zb, [], 0, 0, 0, 0, 0⟩), i64 4], ⟨⟨_, rfl, rfl⟩, True.intro, Nat.zero_le _, rfl⟩, rfl, ⟨0, pn, true, true, zt, zb, [], 0, 0, 0, 0, 0⟩, _, le_rp rfl, rfl⟩
                  | ok L3 j3 =>
                    rw [hbn] at hwn hfin
                    have hl3 := begP_length sh_1n hbn
                    match L3, hl3, hbn, hwn, hfin with
                    | [.mk n sn ln kn], _, hbn, hwn, hfin =>
                      dsimp only at hfin
                      have iz : (0 : Int) ≤ 0 ∧ (0 : Int) < ((1 : Nat) : Int) := by omega
                      by_cases hn : n ≤ 2147483647
                      · rw [if_pos hn] at hfin
                        dsimp only at hfin
                        have hsn := ssmall_ok n sn ln kn hn
                        by_cases hn64 : n ≤ 64
                        · rw [if_pos hn64] at hfin
                          refine callS hwn [2] ⟨.inl rfl, True.intro⟩ rfl ?_
                          rintro E G ⟨rfl, rfl⟩ _
                          refine ⟨_, _, rfl, rfl, ?_⟩
                          refine Ob.intro iz ?_
                          refine callP hsn rfl rfl ?_
                          refine forkD (fun _ => ?_) (fun g => absurd (show ((n : Nat) : Int) ≤ 64 by omega) g)
                          refine callP smust_yes rfl rfl ?_
                          refine loopG (α := RdSt n) (fun z => [(2, .ptr 0 0), (3, .ptr 1 0), (4, .ptr 2 0), (57, i64 n), (58, i64 (z.L.length : Nat))]) (fun z => [.row (rpR (.slc 3 0 z.L.length 5) ⟨0, pn, true, true, zt, zb, [], 0, 0, 0, 0, 0⟩), .row [i64 0], .row [str z.t], .row (flat rwC z.L)]) [⟨18, [], [.ptr 1 0, i64 4]⟩] (fun z => z.j) ⟨n, [], rest t3 j3, rfl, by rw [rest_size]; omega, hfin⟩ [.cell 0 6 5] [0, 1, 2, 3] ⟨⟨rfl, rfl, rfl, rfl, rfl, True.intro⟩, ⟨.inl rfl, .inl rfl, .inl rfl, .inl rfl, True.intro⟩, rfl, rfl, rfl⟩ ?_
                          clear hfin
                          rintro ⟨j, L, t, hj, htz, eq⟩ K hK
                          dsimp only at hj htz eq ⊢
                          refine forkD (fun g => ?_) (fun g => ?_)
                          · obtain ⟨j, rfl⟩ : ∃ i, j = i + 1 := ⟨j - 1, by have : (L.length : Int) < (n : Int) := g; omega⟩
                            have hw := spart_ok ⟨#[110, 116]⟩ t (by decide) htz
                            rw [show byL ⟨#[110, 116]⟩ = [110, 116] from rfl] at hw
                            unfold rowsP rwP at eq
                            cases hbp : begP [110, 116] t with
                            | err e =>
                              rw [hbp] at hw
                              refine callS hw [2] ⟨.inl rfl, True.intro⟩ rfl ?_
                              rintro E G ⟨rfl, rfl⟩ _
                              refine ⟨_, [.row (rpR (.slc 3 0 L.length 5) ⟨0, pn, true, true, zt, zb, [], 0, 0, 0, 0, 0⟩), .row [i64 0], .dead, .row (flat rwC L)], rfl, by simp only [renH, renO_rw]; rfl, ?_⟩
                              refine acallsD_of_rec hT mixed Try.func18 rfl (by kernel_rfl) (by kernel_rfl) rfl rfl rfl (splain) (Nat.le_of_ble_eq_true rfl) ?_
                              refine ⟨rfl, [.row (rpR (.slc 3 0 L.length 5) ⟨0, pn, true, true, zt, zb, L, 0, 0, 0, 0, 0⟩), .row [i64 4], .dead, .row (flat rwC L)], _, ⟨⟨_, rfl, rfl⟩, ⟨.inl rfl, .inl rfl, .inr rfl, .inl rfl, True.intro⟩, Nat.le_of_ble_eq_true rfl, belowH_rp ⟨0, pn, true, true, zt, zb, L, 0, 0, 0, 0, 0⟩⟩, True.intro, [], .tup [.agg (rpR (rwV L) ⟨0, pn, true, true, zt, zb, L, 0, 0, 0, 0, 0⟩), i64 4], ⟨⟨_, rfl, ?_⟩, True.intro, Nat.zero_le _, rfl⟩, rfl, ⟨0, pn, true, true, zt, zb, L, 0, 0, 0, 0, 0⟩, _, LeL_self _, rfl⟩
                              exact frz_rp4 _ ⟨0, pn, true, true, zt, zb, L, 0, 0, 0, 0, 0⟩ 4 rfl
                            | ok L1 j1 =>
                              rw [hbp] at hw eq
                              have hl2 := begP_length sh_nt hbp
                              match L1, hl2, hbp, hw, eq with
                              | [.mk xa sa la ka, .mk xb sb lb kb], _, hbp, hw, eq =>
                                dsimp only at eq
                                have i0 : (0 : Int) ≤ 0 ∧ (0 : Int) < ((2 : Nat) : Int) := by omega
                                have i1 : (0 : Int) ≤ 1 ∧ (1 : Int) < ((2 : Nat) : Int) := by omega
                                have hll : L.length < 64 := by omega
                                have hob : (L.length + 1) * 56 ≤ 140737488355328 ∧ L.length + 1 ≤ 9223372036854775807 := by omega
                                by_cases hxa : xa ≤ 2147483647
                                · rw [if_pos hxa] at eq
                                  have hsa := ssmall_ok xa sa la ka hxa
                                  have hv := svalue_ok (rest t j1) (by rw [rest_size]; omega)
                                  cases hva : vaP (rest t j1) with
                                  | none =>
                                    rw [hva] at hv
                                    refine callS hw [2] ⟨.inl rfl, True.intro⟩ rfl ?_
                                    rintro E G ⟨rfl, rfl⟩ _
                                    refine ⟨_, [.row (rpR (.slc 3 0 L.length 5) ⟨0, pn, true, true, zt, zb, [], 0, 0, 0, 0, 0⟩), .row [i64 0], .row [str (rest t j1)], .row (flat rwC L)], rfl, by simp only [renH, renO_rw]; rfl, ?_⟩
                                    refine ⟨[0, 0, 0, 0, 0, 1, 0, 0, 0, 0, 0, 2, 2, 2, 3, 3, 4], [[], [0], [], [2], [2, 3], [2, 3, 4], [], [6], [6, 7], [6, 7, 8], [], [2, 3, 4, 5, 10], [2, 3, 4, 5, 6, 7, 8, 9, 10, 11], [2, 3, 4, 5, 6, 7, 8, 9, 10, 11, 12], [0, 1, 2, 3, 4, 5, 6, 7, 8, 9, 10, 11, 12, 13], [0, 1, 2, 3, 4, 5, 6, 7, 8, 9, 10, 11, 12, 13, 14], [0, 1, 2, 3, 4, 5, 6, 7, 8, 9, 10, 11, 12, 13, 14, 15]], [0, 0, 0, 0, 0, 0, 0, 0, 0, 0, 0, 0, 0, 0, 1, 1, 1], [5, 11, 14, 16], [[2], [62], [7], [64], [65], [66], [7], [68], [69], [70], [4], [72], [67, 71, 73], [74], [63, 75], [2], [77, 76]], Ob.intro (by kernel_rfl) ?_⟩
                                    repeat first | refine same ?_ | refine Ob.intro i0 ?_ | refine Ob.intro i1 ?_
                                    refine callP hsa rfl rfl ?_
                                    repeat first | refine same ?_ | refine Ob.intro i0 ?_ | refine Ob.intro i1 ?_
                                    refine callS hv [2] ⟨.inl rfl, True.intro⟩ rfl ?_
                                    rintro E G ⟨rfl, rfl⟩ _
                                    refine ⟨_, [.row (rpR (.slc 3 0 L.length 5) ⟨0, pn, true, true, zt, zb, [], 0, 0, 0, 0, 0⟩), .row [i64 0], .dead, .row (flat rwC L), .dead], rfl, by simp only [renH, renO_rw]; rfl, ?_⟩
                                    refine acallsD_of_rec hT mixed Try.func18 rfl (by kernel_rfl) (by kernel_rfl) rfl rfl rfl (splain) (Nat.le_of_ble_eq_true rfl) ?_
                                    refine ⟨rfl, [.row (rpR (.slc 3 0 L.length 5) ⟨0, pn, true, true, zt, zb, L, 0, 0, 0, 0, 0⟩), .row [i64 4], .dead, .row (flat rwC L), .dead], _, ⟨⟨_, rfl, rfl⟩, ⟨.inl rfl, .inl rfl, .inr rfl, .inl rfl, .inr rfl, True.intro⟩, Nat.le_of_ble_eq_true rfl, belowH_rp5 ⟨0, pn, true, true, zt, zb, L, 0, 0, 0, 0, 0⟩⟩, True.intro, [], .tup [.agg (rpR (rwV L) ⟨0, pn, true, true, zt, zb, L, 0, 0, 0, 0, 0⟩), i64 4], ⟨⟨_, rfl, ?_⟩, True.intro, Nat.zero_le _, rfl⟩, rfl, ⟨0, pn, true, true, zt, zb, L, 0, 0, 0, 0, 0⟩, _, LeL_self _, rfl⟩
                                    exact frz_rp4 _ ⟨0, pn, true, true, zt, zb, L, 0, 0, 0, 0, 0⟩ 4 rfl
                                  | some xv =>
                                    obtain ⟨⟨xn, xt, xb2⟩, j2⟩ := xv
                                    rw [hva] at hv eq
                                    dsimp only [Option.map] at eq
                                    obtain ⟨w, hw9⟩ : ∃ w : Rw, w = ⟨(xa : Int), sb, xn, xt, xb2⟩ := ⟨_, rfl⟩
                                    cases xn <;>
                                    · refine callS hw [2] ⟨.inl rfl, True.intro⟩ rfl ?_
                                      rintro E G ⟨rfl, rfl⟩ _
                                      refine ⟨_, [.row (rpR (.slc 3 0 L.length 5) ⟨0, pn, true, true, zt, zb, [], 0, 0, 0, 0, 0⟩), .row [i64 0], .row [str (rest t j1)], .row (flat rwC L)], rfl, by simp only [renH, renO_rw]; rfl, ?_⟩
                                      refine ⟨[0, 0, 0, 0, 0, 1, 0, 0, 0, 0, 0, 2, 2, 2, 3, 3, 4], [[], [0], [], [2], [2, 3], [2, 3, 4], [], [6], [6, 7], [6, 7, 8], [], [2, 3, 4, 5, 10], [2, 3, 4, 5, 6, 7, 8, 9, 10, 11], [2, 3, 4, 5, 6, 7, 8, 9, 10, 11, 12], [0, 1, 2, 3, 4, 5, 6, 7, 8, 9, 10, 11, 12, 13], [0, 1, 2, 3, 4, 5, 6, 7, 8, 9, 10, 11, 12, 13, 14], [0, 1, 2, 3, 4, 5, 6, 7, 8, 9, 10, 11, 12, 13, 14, 15]], [0, 0, 0, 0, 0, 0, 0, 0, 0, 0, 0, 0, 0, 0, 1, 1, 1], [5, 11, 14, 16], [[2], [62], [7], [64], [65], [66], [7], [68], [69], [70], [4], [72], [67, 71, 73], [74], [63, 75], [2], [77, 76]], Ob.intro (by kernel_rfl) ?_⟩
                                      repeat first | refine same ?_ | refine Ob.intro i0 ?_ | refine Ob.intro i1 ?_
                                      refine callP hsa rfl rfl ?_
                                      repeat first | refine same ?_ | refine Ob.intro i0 ?_ | refine Ob.intro i1 ?_
                                      refine callS hv [2] ⟨.inl rfl, True.intro⟩ rfl ?_
                                      rintro E G ⟨rfl, rfl⟩ _
                                      refine ⟨_, [.row (rpR (.slc 3 0 L.length 5) ⟨0, pn, true, true, zt, zb, [], 0, 0, 0, 0, 0⟩), .row [i64 0], .row [str (rest (rest t j1) j2)], .row (flat rwC L), .dead], rfl, by simp only [renH, renO_rw]; rfl, ?_⟩
                                      repeat first | refine same ?_ | refine Ob.intro i0 ?_ | refine Ob.intro i1 ?_
                                      refine Ob.intro rfl ?_
                                      refine optK_intro (rdN_all (cs := flat rwC L) rfl (by rw [flat_len rwC_len])) ?_
                                      refine Ob.intro hob ?_
                                      repeat first | refine same ?_ | refine Ob.intro i0 ?_ | refine Ob.intro i1 ?_
                                      have hinc : wrp .i64 ((L.length : Int) + 1) = ((L.length + 1 : Nat) : Int) := by rw [wrpE, wi64]; omega
                                      refine hK ⟨j, L ++ [w], rest (rest t j1) j2, by rw [List.length_append]; simp only [List.length_cons, List.length_nil]; omega, by rw [rest_size, rest_size]; omega, eq⟩ [] [0, 1, 2, 5] _ rfl ⟨⟨rfl, rfl, rfl, rfl, ?_, True.intro⟩, ⟨.inl ?_, .inl rfl, .inl rfl, .inl ?_, True.intro⟩, rfl, rfl, rfl⟩
                                      · rw [show (L ++ [w]).length = L.length + 1 by simp]
                                        exact congrArg i64 hinc
                                      · rw [show (L ++ [w]).length = L.length + 1 by simp]
                                        rfl
                                      · show some (AObj.row (flat rwC L ++ [i64 (xa : Int), str sb, bo _, str xt, u64n xb2])) = some (renO _ (.row (flat rwC (L ++ [w]))))
                                        rw [renO_rw, flat_append, hw9]
                                        rfl
                                · have hsa := ssmall_no xa sa la ka hxa
                                  refine callS hw [2] ⟨.inl rfl, True.intro⟩ rfl ?_
                                  rintro E G ⟨rfl, rfl⟩ _
                                  refine ⟨_, [.row (rpR (.slc 3 0 L.length 5) ⟨0, pn, true, true, zt, zb, [], 0, 0, 0, 0, 0⟩), .row [i64 0], .row [str (rest t j1)], .row (flat rwC L)], rfl, by simp only [renH, renO_rw]; rfl, ?_⟩
                                  refine ⟨[0, 0, 0, 0, 0, 1, 0, 0, 0, 0, 0, 2, 2, 2, 3, 3, 4], [[], [0], [], [2], [2, 3], [2, 3, 4], [], [6], [6, 7], [6, 7, 8], [], [2, 3, 4, 5, 10], [2, 3, 4, 5, 6, 7, 8, 9, 10, 11], [2, 3, 4, 5, 6, 7, 8, 9, 10, 11, 12], [0, 1, 2, 3, 4, 5, 6, 7, 8, 9, 10, 11, 12, 13], [0, 1, 2, 3, 4, 5, 6, 7, 8, 9, 10, 11, 12, 13, 14], [0, 1, 2, 3, 4, 5, 6, 7, 8, 9, 10, 11, 12, 13, 14, 15]], [0, 0, 0, 0, 0, 0, 0, 0, 0, 0, 0, 0, 0, 0, 1, 1, 1], [5, 11, 14, 16], [[2], [62], [7], [64], [65], [66], [7], [68], [69], [70], [4], [72], [67, 71, 73], [74], [63, 75], [2], [77, 76]], Ob.intro (by kernel_rfl) ?_⟩
                                  repeat first | refine same ?_ | refine Ob.intro i0 ?_ | refine Ob.intro i1 ?_
                                  refine callBad hsa rfl ?_
                                  refine acallsD_of_rec hT mixed Try.func18 rfl (by kernel_rfl) (by kernel_rfl) rfl rfl rfl (splain) (Nat.le_of_ble_eq_true rfl) ?_
                                  refine ⟨rfl, [.row (rpR (.slc 3 0 L.length 5) ⟨0, pn, true, true, zt, zb, L, 0, 0, 0, 0, 0⟩), .row [i64 4], .dead, .row (flat rwC L), .dead], _, ⟨⟨_, rfl, rfl⟩, ⟨.inl rfl, .inl rfl, .inr rfl, .inl rfl, .inr rfl, True.intro⟩, Nat.le_of_ble_eq_true rfl, belowH_rp5 ⟨0, pn, true, true, zt, zb, L, 0, 0, 0, 0, 0⟩⟩, True.intro, [], .tup [.agg (rpR (rwV L) ⟨0, pn, true, true, zt, zb, L, 0, 0, 0, 0, 0⟩), i64 4], ⟨⟨_, rfl, ?_⟩, True.intro, Nat.zero_le _, rfl⟩, rfl, ⟨0, pn, true, true, zt, zb, L, 0, 0, 0, 0, 0⟩, _, LeL_self _, rfl⟩
                                  exact frz_rp4 _ ⟨0, pn, true, true, zt, zb, L, 0, 0, 0, 0, 0⟩ 4 rfl
                          · have hj0 : j = 0 := by have : ¬ (L.length : Int) < (n : Int) := g; omega
                            subst hj0
                            have eq : ∀ u, tlP t = some u → u.size ≠ 0 := eq
                            unfold tlP at eq
                            have hw := spart_ok ⟨#[110, 110, 110, 110, 110]⟩ t (by decide) htz
                            rw [show byL ⟨#[110, 110, 110, 110, 110]⟩ = [110, 110, 110, 110, 110] from rfl] at hw
                            cases hbp : begP [110, 110, 110, 110, 110] t with
                            | err e =>
                              rw [hbp] at hw
                              refine callS hw [2] ⟨.inl rfl, True.intro⟩ rfl ?_
                              rintro E G ⟨rfl, rfl⟩ _
                              refine ⟨_, [.row (rpR (.slc 3 0 L.length 5) ⟨0, pn, true, true, zt, zb, [], 0, 0, 0, 0, 0⟩), .row [i64 0], .dead, .row (flat rwC L)], rfl, by simp only [renH, renO_rw]; rfl, ?_⟩
                              refine acallsD_of_rec hT mixed Try.func18 rfl (by kernel_rfl) (by kernel_rfl) rfl rfl rfl (splain) (Nat.le_of_ble_eq_true rfl) ?_
                              refine ⟨rfl, [.row (rpR (.slc 3 0 L.length 5) ⟨0, pn, true, true, zt, zb, L, 0, 0, 0, 0, 0⟩), .row [i64 4], .dead, .row (flat rwC L)], _, ⟨⟨_, rfl, rfl⟩, ⟨.inl rfl, .inl rfl, .inr rfl, .inl rfl, True.intro⟩, Nat.le_of_ble_eq_true rfl, belowH_rp ⟨0, pn, true, true, zt, zb, L, 0, 0, 0, 0, 0⟩⟩, True.intro, [], .tup [.agg (rpR (rwV L) ⟨0, pn, true, true, zt, zb, L, 0, 0, 0, 0, 0⟩), i64 4], ⟨⟨_, rfl, ?_⟩, True.intro, Nat.zero_le _, rfl⟩, rfl, ⟨0, pn, true, true, zt, zb, L, 0, 0, 0, 0, 0⟩, _, LeL_self _, rfl⟩
                              exact frz_rp4 _ ⟨0, pn, true, true, zt, zb, L, 0, 0, 0, 0, 0⟩ 4 rfl
                            | ok L1 j1 =>
                              rw [hbp] at hw eq
                              have hl2 := begP_length sh_n5 hbp
                              match L1, hl2, hbp, hw, eq with
                              | [.mk xa sa la ka, .mk xb sb lb kb, .mk xc sc lc kc, .mk xd sd ld kd, .mk xe se le ke], _, hbp, hw, eq =>
                                dsimp only at eq
                                have i0 : (0 : Int) ≤ 0 ∧ (0 : Int) < ((5 : Nat) : Int) := by omega
                                have i1 : (0 : Int) ≤ 1 ∧ (1 : Int) < ((5 : Nat) : Int) := by omega
                                have i2 : (0 : Int) ≤ 2 ∧ (2 : Int) < ((5 : Nat) : Int) := by omega
                                have i3 : (0 : Int) ≤ 3 ∧ (3 : Int) < ((5 : Nat) : Int) := by omega
                                have i4 : (0 : Int) ≤ 4 ∧ (4 : Int) < ((5 : Nat) : Int) := by omega
                                by_cases hxa : xa ≤ 2147483647
                                · rw [if_pos hxa] at eq
                                  have hne := eq _ rfl
                                  have hsa := ssmall_ok xa sa la ka hxa
                                  have hr := strEq_nilS (rest t j1)
                                  rw [decide_eq_false hne] at hr
                                  refine callS hw [2] ⟨.inl rfl, True.intro⟩ rfl ?_
                                  rintro E G ⟨rfl, rfl⟩ _
                                  refine ⟨_, [.row (rpR (.slc 3 0 L.length 5) ⟨0, pn, true, true, zt, zb, [], 0, 0, 0, 0, 0⟩), .row [i64 0], .row [str (rest t j1)], .row (flat rwC L)], rfl, by simp only [renH, renO_rw]; rfl, ?_⟩
                                  refine ⟨[0, 0, 0, 1, 0, 0, 0, 0, 0, 0, 0, 0, 0, 0, 0, 0, 0, 0, 0, 0, 1, 1, 2], [[], [0], [0, 1], [0, 1, 2], [], [4], [4, 5], [4, 5, 6], [], [8], [8, 9], [8, 9, 10], [], [12], [12, 13], [12, 13, 14], [], [16], [16, 17], [16, 17, 18], [0, 1, 2, 3, 4, 5, 6, 7, 8, 9, 10, 11, 12, 13, 14, 15, 16, 17, 18, 19], [0, 1, 2, 3, 4, 5, 6, 7, 8, 9, 10, 11, 12, 13, 14, 15, 16, 17, 18, 19, 20], [0, 1, 2, 3, 4, 5, 6, 7, 8, 9, 10, 11, 12, 13, 14, 15, 16, 17, 18, 19, 20, 21]], [0, 0, 0, 0, 0, 0, 0, 0, 0, 0, 0, 0, 0, 0, 0, 0, 0, 0, 0, 0, 0, 0, 0], [3, 22], [[8], [81], [82], [83], [8], [85], [86], [87], [8], [89], [90], [91], [8], [93], [94], [95], [8], [97], [98], [99], [84, 88, 92, 96, 100], [2], [102, 101]], Ob.intro (by kernel_rfl) ?_⟩
                                  repeat first | refine same ?_ | refine Ob.intro i0 ?_ | refine Ob.intro i1 ?_ | refine Ob.intro i2 ?_ | refine Ob.intro i3 ?_ | refine Ob.intro i4 ?_
                                  refine callP hsa rfl rfl ?_
                                  repeat first | refine same ?_ | refine Ob.intro i0 ?_ | refine Ob.intro i1 ?_ | refine Ob.intro i2 ?_ | refine Ob.intro i3 ?_ | refine Ob.intro i4 ?_
                                  generalize rest t j1 = t9 at hr ⊢
                                  refine fork (fun g => absurd hr (by rw [g]; decide)) (fun _ => ?_)
                                  refine callBad smust_no rfl ?_
                                  refine acallsD_of_rec hT mixed Try.func18 rfl (by kernel_rfl) (by kernel_rfl) rfl rfl rfl (splain) (Nat.le_of_ble_eq_true rfl) ?_
                                  refine ⟨rfl, [.row (rpR (.slc 3 0 L.length 5) ⟨0, pn, true, true, zt, zb, L, (xa : Nat), xb, xc, xd, xe⟩), .row [i64 4], .dead, .row (flat rwC L)], _, ⟨⟨_, rfl, rfl⟩, ⟨.inl rfl, .inl rfl, .inr rfl, .inl rfl, True.intro⟩, Nat.le_of_ble_eq_true rfl, belowH_rp ⟨0, pn, true, true, zt, zb, L, (xa : Nat), xb, xc, xd, xe⟩⟩, True.intro, [], .tup [.agg (rpR (rwV L) ⟨0, pn, true, true, zt, zb, L, (xa : Nat), xb, xc, xd, xe⟩), i64 4], ⟨⟨_, rfl, ?_⟩, True.intro, Nat.zero_le _, rfl⟩, rfl, ⟨0, pn, true, true, zt, zb, L, (xa : Nat), xb, xc, xd, xe⟩, _, LeL_self _, rfl⟩
                                  exact frz_rp4 _ ⟨0, pn, true, true, zt, zb, L, (xa : Nat), xb, xc, xd, xe⟩ 4 rfl
                                · have hsa := ssmall_no xa sa la ka hxa
                                  refine callS hw [2] ⟨.inl rfl, True.intro⟩ rfl ?_
                                  rintro E G ⟨rfl, rfl⟩ _
                                  refine ⟨_, [.row (rpR (.slc 3 0 L.length 5) ⟨0, pn, true, true, zt, zb, [], 0, 0, 0, 0, 0⟩), .row [i64 0], .row [str (rest t j1)], .row (flat rwC L)], rfl, by simp only [renH, renO_rw]; rfl, ?_⟩
                                  refine ⟨[0, 0, 0, 1, 0, 0, 0, 0, 0, 0, 0, 0, 0, 0, 0, 0, 0, 0, 0, 0, 1, 1, 2], [[], [0], [0, 1], [0, 1, 2], [], [4], [4, 5], [4, 5, 6], [], [8], [8, 9], [8, 9, 10], [], [12], [12, 13], [12, 13, 14], [], [16], [16, 17], [16, 17, 18], [0, 1, 2, 3, 4, 5, 6, 7, 8, 9, 10, 11, 12, 13, 14, 15, 16, 17, 18, 19], [0, 1, 2, 3, 4, 5, 6, 7, 8, 9, 10, 11, 12, 13, 14, 15, 16, 17, 18, 19, 20], [0, 1, 2, 3, 4, 5, 6, 7, 8, 9, 10, 11, 12, 13, 14, 15, 16, 17, 18, 19, 20, 21]], [0, 0, 0, 0, 0, 0, 0, 0, 0, 0, 0, 0, 0, 0, 0, 0, 0, 0, 0, 0, 0, 0, 0], [3, 22], [[8], [81], [82], [83], [8], [85], [86], [87], [8], [89], [90], [91], [8], [93], [94], [95], [8], [97], [98], [99], [84, 88, 92, 96, 100], [2], [102, 101]], Ob.intro (by kernel_rfl) ?_⟩
                                  repeat first | refine same ?_ | refine Ob.intro i0 ?_ | refine Ob.intro i1 ?_ | refine Ob.intro i2 ?_ | refine Ob.intro i3 ?_ | refine Ob.intro i4 ?_
                                  refine callBad hsa rfl ?_
                                  refine acallsD_of_rec hT mixed Try.func18 rfl (by kernel_rfl) (by kernel_rfl) rfl rfl rfl (splain) (Nat.le_of_ble_eq_true rfl) ?_
                                  refine ⟨rfl, [.row (rpR (.slc 3 0 L.length 5) ⟨0, pn, true, true, zt, zb, L, 0, 0, 0, 0, 0⟩), .row [i64 4], .dead, .row (flat rwC L)], _, ⟨⟨_, rfl, rfl⟩, ⟨.inl rfl, .inl rfl, .inr rfl, .inl rfl, True.intro⟩, Nat.le_of_ble_eq_true rfl, belowH_rp ⟨0, pn, true, true, zt, zb, L, 0, 0, 0, 0, 0⟩⟩, True.intro, [], .tup [.agg (rpR (rwV L) ⟨0, pn, true, true, zt, zb, L, 0, 0, 0, 0, 0⟩), i64 4], ⟨⟨_, rfl, ?_⟩, True.intro, Nat.zero_le _, rfl⟩, rfl, ⟨0, pn, true, true, zt, zb, L, 0, 0, 0, 0, 0⟩, _, LeL_self _, rfl⟩
                                  exact frz_rp4 _ ⟨0, pn, true, true, zt, zb, L, 0, 0, 0, 0, 0⟩ 4 rfl
                        · refine callS hwn [2] ⟨.inl rfl, True.intro⟩ rfl ?_
                          rintro E G ⟨rfl, rfl⟩ _
                          refine ⟨_, _, rfl, rfl, ?_⟩
                          refine Ob.intro iz ?_
                          refine callP hsn rfl rfl ?_
                          refine forkD (fun g => absurd (show ((n : Nat) : Int) ≤ 64 from g) (by omega)) (fun _ => ?_)
                          refine callBad smust_no rfl ?_
                          refine acallsD_of_rec hT mixed Try.func18 rfl (by kernel_rfl) (by kernel_rfl) rfl rfl rfl (splain) (Nat.le_of_ble_eq_true rfl) ?_
                          exact ⟨rfl, [.row (rpR nilS ⟨0, pn, true, true, zt, zb, [], 0, 0, 0, 0, 0⟩), .row [i64 4], .dead], _, ⟨⟨_, rfl, rfl⟩, ⟨.inl rfl, .inl rfl, .inr rfl, True.intro⟩, Nat.le_of_ble_eq_true rfl, rfl⟩, True.intro, [], .tup [.agg (rpR nilS ⟨0, pn, true, true, zt, zb, [], 0, 0, 0, 0, 0⟩), i64 4], ⟨⟨_, rfl, rfl⟩, True.intro, Nat.zero_le _, rfl⟩, rfl, ⟨0, pn, true, true, zt, zb, [], 0, 0, 0, 0, 0⟩, _, le_rp rfl, rfl⟩
                      · have hsn := ssmall_no n sn ln kn hn
                        refine callS hwn [2] ⟨.inl rfl, True.intro⟩ rfl ?_
                        rintro E G ⟨rfl, rfl⟩ _
                        refine ⟨_, _, rfl, rfl, ?_⟩
                        refine Ob.intro iz ?_
                        refine callBad hsn rfl ?_
                        refine acallsD_of_rec hT mixed Try.func18 rfl (by kernel_rfl) (by kernel_rfl) rfl rfl rfl (splain) (Nat.le_of_ble_eq_true rfl) ?_
                        exact ⟨rfl, [.row (rpR nilS ⟨0, pn, true, true, zt, zb, [], 0, 0, 0, 0, 0⟩), .row [i64 4], .dead], _, ⟨⟨_, rfl, rfl⟩, ⟨.inl rfl, .inl rfl, .inr rfl, True.intro⟩, Nat.le_of_ble_eq_true rfl, rfl⟩, True.intro, [], .tup [.agg (rpR nilS ⟨0, pn, true, true, zt, zb, [], 0, 0, 0, 0, 0⟩), i64 4], ⟨⟨_, rfl, rfl⟩, True.intro, Nat.zero_le _, rfl⟩, rfl, ⟨0, pn, true, true, zt, zb, [], 0, 0, 0, 0, 0⟩, _, le_rp rfl, rfl⟩
            · rw [decide_eq_false h1] at his
              rw [if_neg h1] at hrs
              have hfin : ∀ u, nrP t2 = some u → u.size ≠ 0 := hrs
              clear hrs
              refine acalls_of_awpU [] hT mixed Try.func48 rfl (by kernel_rfl) (by kernel_rfl) (Nat.le_of_ble_eq_true rfl) ?_
              refine callS hcc [2] ⟨.inl rfl, True.intro⟩ rfl ?_
              rintro E G ⟨rfl, rfl⟩ _
              refine ⟨_, _, rfl, rfl, ?_⟩
              refine Ob.intro h0 ?_
              refine callP hsm rfl rfl ?_
              refine callS hw2 [2] ⟨.inl rfl, True.intro⟩ rfl ?_
              rintro E G ⟨rfl, rfl⟩ _
              refine ⟨_, _, rfl, rfl, ?_⟩
              refine ⟨[0, 0, 0, 0, 0, 0, 0, 1, 0, 2, 2, 3], [[], [0], [0, 1], [0, 1, 2], [], [4], [4, 5], [4, 5, 6], [0, 1, 2, 3], [0, 1, 2, 3, 4, 5, 6, 7, 8], [0, 1, 2, 3, 4, 5, 6, 7, 8, 9], [0, 1, 2, 3, 4, 5, 6, 7, 8, 9, 10]], [0, 0, 0, 0, 0, 0, 0, 0, 0, 0, 0, 0], [7, 9, 11], [[5], [34], [35], [36], [5], [38], [39], [40], [2], [42, 37], [2], [43, 41]], Ob.intro (by kernel_rfl) ?_⟩
              repeat first | refine same ?_ | refine Ob.intro i0 ?_ | refine Ob.intro i1 ?_
              refine callP his rfl rfl ?_
              repeat first | refine same ?_ | refine Ob.intro i0 ?_ | refine Ob.intro i1 ?_
              have hwn := spart_ok ⟨#[110]⟩ t2 (by decide) (htz2)
              rw [show byL ⟨#[110]⟩ = [110] from rfl] at hwn
              unfold nrP smP at hfin
              cases hbn : begP [110] t2 with
              | err e =>
                rw [hbn] at hwn
                refine callS hwn [2] ⟨.inl rfl, True.intro⟩ rfl ?_
                rintro E G ⟨rfl, rfl⟩ _
                refine ⟨_, _, rfl, rfl, ?_⟩
                refine acallsD_of_rec hT mixed Try.func18 rfl (by kernel_rfl) (by kernel_rfl) rfl rfl rfl (splain) (Nat.le_of_ble_eq_true rfl) ?_
                exact ⟨rfl, [.row (rpR nilS ⟨0, pn, false, false, ⟨#[]⟩, 0, [], 0, 0, 0, 0, 0⟩), .row [i64 4], .dead], _, ⟨⟨_, rfl, rfl⟩, ⟨.inl rfl, .inl rfl, .inr rfl, True.intro⟩, Nat.le_of_ble_eq_true rfl, rfl⟩, True.intro, [], .tup [.agg (rpR nilS ⟨0, pn, false, false, ⟨#[]⟩, 0, [], 0, 0, 0, 0, 0⟩), i64 4], ⟨⟨_, rfl, rfl⟩, True.intro, Nat.zero_le _, rfl⟩, rfl, ⟨0, pn, false, false, ⟨#[]⟩, 0, [], 0, 0, 0, 0, 0⟩, _, le_rp rfl, rfl⟩
              | ok L3 j3 =>
                rw [hbn] at hwn hfin
                have hl3 := begP_length sh_1n hbn
                match L3, hl3, hbn, hwn, hfin with
                | [.mk n sn ln kn], _, hbn, hwn, hfin =>
                  dsimp only at hfin
                  have iz : (0 : Int) ≤ 0 ∧ (0 : Int) < ((1 : Nat) : Int) := by omega
                  by_cases hn : n ≤ 2147483647
                  · rw [if_pos hn] at hfin
                    dsimp only at hfin
                    have hsn := ssmall_ok n sn ln kn hn
                    by_cases hn64 : n ≤ 64
                    · rw [if_pos hn64] at hfin
                      refine callS hwn [2] ⟨.inl rfl, True.intro⟩ rfl ?_
                      rintro E G ⟨rfl, rfl⟩ _
                      refine ⟨_, _, rfl, rfl, ?_⟩
                      refine Ob.intro iz ?_
                      refine callP hsn rfl rfl ?_
                      refine forkD (fun _ => ?_) (fun g => absurd (show ((n : Nat) : Int) ≤ 64 by omega) g)
                      refine callP smust_yes rfl rfl ?_
                      refine loopG (α := RdSt n) (fun z => [(2, .ptr 0 0), (3, .ptr 1 0), (4, .ptr 2 0), (57, i64 n), (58, i64 (z.L.length : Nat))]) (fun z => [.row (rpR (.slc 3 0 z.L.length 5) ⟨0, pn, false, false, ⟨#[]⟩, 0, [], 0, 0, 0, 0, 0⟩), .row [i64 0], .row [str z.t], .row (flat rwC z.L)]) [⟨18, [], [.ptr 1 0, i64 4]⟩] (fun z => z.j) ⟨n, [], rest t2 j3, rfl, by rw [rest_size]; omega, hfin⟩ [.cell 0 6 5] [0, 1, 2, 3] ⟨⟨rfl, rfl, rfl, rfl, rfl, True.intro⟩, ⟨.inl rfl, .inl rfl, .inl rfl, .inl rfl, True.intro⟩, rfl, rfl, rfl⟩ ?_
                      clear hfin
                      rintro ⟨j, L, t, hj, htz, eq⟩ K hK
                      dsimp only at hj htz eq ⊢
                      refine forkD (fun g => ?_) (fun g => ?_)
                      · obtain ⟨j, rfl⟩ : ∃ i, j = i + 1 := ⟨j - 1, by have : (L.length : Int) < (n : Int) := g; omega⟩
                        have hw := spart_ok ⟨#[110, 116]⟩ t (by decide) htz
                        rw [show byL ⟨#[110, 116]⟩ = [110, 116] from rfl] at hw
                        unfold rowsP rwP at eq
                        cases hbp : begP [110, 116] t with
                        | err e =>
                          rw [hbp] at hw
                          refine callS hw [2] ⟨.inl rfl, True.intro⟩ rfl ?_
                          rintro E G ⟨rfl, rfl⟩ _
                          refine ⟨_, [.row (rpR (.slc 3 0 L.length 5) ⟨0, pn, false, false, ⟨#[]⟩, 0, [], 0, 0, 0, 0, 0⟩), .row [i64 0], .dead, .row (flat rwC L)], rfl, by simp only [renH, renO_rw]; rfl, ?_⟩
                          refine acallsD_of_rec hT mixed Try.func18 rfl (by kernel_rfl) (by kernel_rfl) rfl rfl rfl (splain) (Nat.le_of_ble_eq_true rfl) ?_
                          refine ⟨rfl, [.row (rpR (.slc 3 0 L.length 5) ⟨0, pn, false, false, ⟨#[]⟩, 0, L, 0, 0, 0, 0, 0⟩), .row [i64 4], .dead, .row (flat rwC L)], _, ⟨⟨_, rfl, rfl⟩, ⟨.inl rfl, .inl rfl, .inr rfl, .inl rfl, True.intro⟩, Nat.le_of_ble_eq_true rfl, belowH_rp ⟨0, pn, false, false, ⟨#[]⟩, 0, L, 0, 0, 0, 0, 0⟩⟩, True.intro, [], .tup [.agg (rpR (rwV L) ⟨0, pn, false, false, ⟨#[]⟩, 0, L, 0, 0, 0, 0, 0⟩), i64 4], ⟨⟨_, rfl, ?_⟩, True.intro, Nat.zero_le _, rfl⟩, rfl, ⟨0, pn, false, false, ⟨#[]⟩, 0, L, 0, 0, 0, 0, 0⟩, _, LeL_self _, rfl⟩
                          exact frz_rp4 _ ⟨0, pn, false, false, ⟨#[]⟩, 0, L, 0, 0, 0, 0, 0⟩ 4 rfl
                        | ok L1 j1 =>
                          rw [hbp] at hw eq
                          have hl2 := begP_length sh_nt hbp
                          match L1, hl2, hbp, hw, eq with
                          | [.mk xa sa la ka, .mk xb sb lb kb], _, hbp, hw, eq =>
                            dsimp only at eq
                            have i0 : (0 : Int) ≤ 0 ∧ (0 : Int) < ((2 : Nat) : Int) := by omega
                            have i1 : (0 : Int) ≤ 1 ∧ (1 : Int) < ((2 : Nat) : Int) := by omega
                            have hll : L.length < 64 := by omega
                            have hob : (L.length + 1) * 56 ≤ 140737488355328 ∧ L.length + 1 ≤ 9223372036854775807 := by omega
                            by_cases hxa : xa ≤ 2147483647
                            · rw [if_pos hxa] at eq
                              have hsa := ssmall_ok xa sa la ka hxa
                              have hv := svalue_ok (rest t j1) (by rw [rest_size]; omega)
                              cases hva : vaP (rest t j1) with
                              | none =>
                                rw [hva] at hv
                                refine callS hw [2] ⟨.inl rfl, True.intro⟩ rfl ?_
                                rintro E G ⟨rfl, rfl⟩ _
                                refine ⟨_, [.row (rpR (.slc 3 0 L.length 5) ⟨0, pn, false, false, ⟨#[]⟩, 0, [], 0, 0, 0, 0, 0⟩), .row [i64 0], .row [str (rest t j1)], .row (flat rwC L)], rfl, by simp only [renH, renO_rw]; rfl, ?_⟩
                                refine ⟨[0, 0, 0, 0, 0, 1, 0, 0, 0, 0, 0, 2, 2, 2, 3, 3, 4], [[], [0], [], [2], [2, 3], [2, 3, 4], [], [6], [6, 7], [6, 7, 8], [], [2, 3, 4, 5, 10], [2, 3, 4, 5, 6, 7, 8, 9, 10, 11], [2, 3, 4, 5, 6, 7, 8, 9, 10, 11, 12], [0, 1, 2, 3, 4, 5, 6, 7, 8, 9, 10, 11, 12, 13], [0, 1, 2, 3, 4, 5, 6, 7, 8, 9, 10, 11, 12, 13, 14], [0, 1, 2, 3, 4, 5, 6, 7, 8, 9, 10, 11, 12, 13, 14, 15]], [0, 0, 0, 0, 0, 0, 0, 0, 0, 0, 0, 0, 0, 0, 1, 1, 1], [5, 11, 14, 16], [[2], [62], [7], [64], [65], [66], [7], [68], [69], [70], [4], [72], [67, 71, 73], [74], [63, 75], [2], [77, 76]], Ob.intro (by kernel_rfl) ?_⟩
                                repeat first | refine same ?_ | refine Ob.intro i0 ?_ | refine Ob.intro i1 ?_
                                refine callP hsa rfl rfl ?_
                                repeat first | refine same ?_ | refine Ob.intro i0 ?_ | refine Ob.intro i1 ?_
                                refine callS hv [2] ⟨.inl rfl, True.intro⟩ rfl ?_
                                rintro E G ⟨rfl, rfl⟩ _
                                refine ⟨_, [.row (rpR (.slc 3 0 L.length 5) ⟨0, pn, false, false, ⟨#[]⟩, 0, [], 0, 0, 0, 0, 0⟩), .row [i64 0], .dead, .row (flat rwC L), .dead], rfl, by simp only [renH, renO_rw]; rfl, ?_⟩
                                refine acallsD_of_rec hT mixed Try.func18 rfl (by kernel_rfl) (by kernel_rfl) rfl rfl rfl (splain) (Nat.le_of_ble_eq_true rfl) ?_
                                refine ⟨rfl, [.row (rpR (.slc 3 0 L.length 5) ⟨0, pn, false, false, ⟨#[]⟩, 0, L, 0, 0, 0, 0, 0⟩), .row [i64 4], .dead, .row (flat rwC L), .dead], _, ⟨⟨_, rfl, rfl⟩, ⟨.inl rfl, .inl rfl, .inr rfl, .inl rfl, .inr rfl, True.intro⟩, Nat.le_of_ble_eq_true rfl, belowH_rp5 ⟨0, pn, false, false, ⟨#[]⟩, 0, L, 0, 0, 0, 0, 0⟩⟩, True.intro, [], .tup [.agg (rpR (rwV L) ⟨0, pn, false, false, ⟨#[]⟩, 0, L, 0, 0, 0, 0, 0⟩), i64 4], ⟨⟨_, rfl, ?_⟩, True.intro, Nat.zero_le _, rfl⟩, rfl, ⟨0, pn, false, false, ⟨#[]⟩, 0, L, 0, 0, 0, 0, 0⟩, _, LeL_self _, rfl⟩
                                exact frz_rp4 _ ⟨0, pn, false, false, ⟨#[]⟩, 0, L, 0, 0, 0, 0, 0⟩ 4 rfl
                              | some xv =>
                                obtain ⟨⟨xn, xt, xb2⟩, j2⟩ := xv
                                rw [hva] at hv eq
                                dsimp only [Option.map] at eq
                                obtain ⟨w, hw9⟩ : ∃ w : Rw, w = ⟨(xa : Int), sb, xn, xt, xb2⟩ := ⟨_, rfl⟩
                                cases xn <;>
                                · refine callS hw [2] ⟨.inl rfl, True.intro⟩ rfl ?_
                                  rintro E G ⟨rfl, rfl⟩ _
                                  refine ⟨_, [.row (rpR (.slc 3 0 L.length 5) ⟨0, pn, false, false, ⟨#[]⟩, 0, [], 0, 0, 0, 0, 0⟩), .row [i64 0], .row [str (rest t j1)], .row (flat rwC L)], rfl, by simp only [renH, renO_rw]; rfl, ?_⟩
                                  refine ⟨[0, 0, 0, 0, 0, 1, 0, 0, 0, 0, 0, 2, 2, 2, 3, 3, 4], [[], [0], [], [2], [2, 3], [2, 3, 4], [], [6], [6, 7], [6, 7, 8], [], [2, 3, 4, 5, 10], [2, 3, 4, 5, 6, 7, 8, 9, 10, 11], [2, 3, 4, 5, 6, 7, 8, 9, 10, 11, 12], [0, 1, 2, 3, 4, 5, 6, 7, 8, 9, 10, 11, 12, 13], [0, 1, 2, 3, 4, 5, 6, 7, 8, 9, 10, 11, 12, 13, 14], [0, 1, 2, 3, 4, 5, 6, 7, 8, 9, 10, 11, 12, 13, 14, 15]], [0, 0, 0, 0, 0, 0, 0, 0, 0, 0, 0, 0, 0, 0, 1, 1, 1], [5, 11, 14, 16], [[2], [62], [7], [64], [65], [66], [7], [68], [69], [70], [4], [72], [67, 71, 73], [74], [63, 75], [2], [77, 76]], Ob.intro (by kernel_rfl) ?_⟩
                                  repeat first | refine same ?_ | refine Ob.intro i0 ?_ | refine Ob.intro i1 ?_
                                  refine callP hsa rfl rfl ?_
                                  repeat first | refine same ?_ | refine Ob.intro i0 ?_ | refine Ob.intro i1 ?_
                                  refine callS hv [2] ⟨.inl rfl, True.intro⟩ rfl ?_
                                  rintro E G ⟨rfl, rfl⟩ _
                                  refine ⟨_, [.row (rpR (.slc 3 0 L.length 5) ⟨0, pn, false, false, ⟨#[]⟩, 0, [], 0, 0, 0, 0, 0⟩), .row [i64 0], .row [str (rest (rest t j1) j2)], .row (flat rwC L), .dead], rfl, by simp only [renH, renO_rw]; rfl, ?_⟩
                                  repeat first | refine same ?_ | refine Ob.intro i0 ?_ | refine Ob.intro i1 ?_
                                  refine Ob.intro rfl ?_
                                  refine optK_intro (rdN_all (cs := flat rwC L) rfl (by rw [flat_len rwC_len])) ?_
                                  refine Ob.intro hob ?_
                                  repeat first | refine same ?_ | refine Ob.intro i0 ?_ | refine Ob.intro i1 ?_
                                  have hinc : wrp .i64 ((L.length : Int) + 1) = ((L.length + 1 : Nat) : Int) := by rw [wrpE, wi64]; omega
                                  refine hK ⟨j, L ++ [w], rest (rest t j1) j2, by rw [List.length_append]; simp only [List.length_cons, List.length_nil]; omega, by rw [rest_size, rest_size]; omega, eq⟩ [] [0, 1, 2, 5] _ rfl ⟨⟨rfl, rfl, rfl, rfl, ?_, True.intro⟩, ⟨.inl ?_, .inl rfl, .inl rfl, .inl ?_, True.intro⟩, rfl, rfl, rfl⟩
                                  · rw [show (L ++ [w]).length = L.length + 1 by simp]
                                    exact congrArg i64 hinc
                                  · rw [show (L ++ [w]).length = L.length + 1 by simp]
                                    rfl
                                  · show some (AObj.row (flat rwC L ++ [i64 (xa : Int), str sb, bo _, str xt, u64n xb2])) = some (renO _ (.row (flat rwC (L ++ [w]))))
                                    rw [renO_rw, flat_append, hw9]
                                    rfl
                            · have hsa := ssmall_no xa sa la ka hxa
                              refine callS hw [2] ⟨.inl rfl, True.intro⟩ rfl ?_
                              rintro E G ⟨rfl, rfl⟩ _
                              refine ⟨_, [.row (rpR (.slc 3 0 L.length 5) ⟨0, pn, false, false, ⟨#[]⟩, 0, [], 0, 0, 0, 0, 0⟩), .row [i64 0], .row [str (rest t j1)], .row (flat rwC L)], rfl, by simp only [renH, renO_rw]; rfl, ?_⟩
                              refine ⟨[0, 0, 0, 0, 0, 1, 0, 0, 0, 0, 0, 2, 2, 2, 3, 3, 4], [[], [0], [], [2], [2, 3], [2, 3, 4], [], [6], [6, 7], [6, 7, 8], [], [2, 3, 4, 5, 10], [2, 3, 4, 5, 6, 7, 8, 9, 10, 11], [2, 3, 4, 5, 6, 7, 8, 9, 10, 11, 12], [0, 1, 2, 3, 4, 5, 6, 7, 8, 9, 10, 11, 12, 13], [0, 1, 2, 3, 4, 5, 6, 7, 8, 9, 10, 11, 12, 13, 14], [0, 1, 2, 3, 4, 5, 6, 7, 8, 9, 10, 11, 12, 13, 14, 15]], [0, 0, 0, 0, 0, 0, 0, 0, 0, 0, 0, 0, 0, 0, 1, 1, 1], [5, 11, 14, 16], [[2], [62], [7], [64], [65], [66], [7], [68], [69], [70], [4], [72], [67, 71, 73], [74], [63, 75], [2], [77, 76]], Ob.intro (by kernel_rfl) ?_⟩
                              repeat first | refine same ?_ | refine Ob.intro i0 ?_ | refine Ob.intro i1 ?_
                              refine callBad hsa rfl ?_
                              refine acallsD_of_rec hT mixed Try.func18 rfl (by kernel_rfl) (by kernel_rfl) rfl rfl rfl (splain) (Nat.le_of_ble_eq_true rfl) ?_
                              refine ⟨rfl, [.row (rpR (.slc 3 0 L.length 5) ⟨0, pn, false, false, ⟨#[]⟩, 0, L, 0, 0, 0, 0, 0⟩), .row [i64 4], .dead, .row (flat rwC L), .dead], _, ⟨⟨_, rfl, rfl⟩, ⟨.inl rfl, .inl rfl, .inr rfl, .inl rfl, .inr rfl, True.intro⟩, Nat.le_of_ble_eq_true rfl, belowH_rp5 ⟨0, pn, false, false, ⟨#[]⟩, 0, L, 0, 0, 0, 0, 0⟩⟩, True.intro, [], .tup [.agg (rpR (rwV L) ⟨0, pn, false, false, ⟨#[]⟩, 0, L, 0, 0, 0, 0, 0⟩), i64 4], ⟨⟨_, rfl, ?_⟩, True.intro, Nat.zero_le _, rfl⟩, rfl, ⟨0, pn, false, false, ⟨#[]⟩, 0, L, 0, 0, 0, 0, 0⟩, _, LeL_self _, rfl⟩
                              exact frz_rp4 _ ⟨0, pn, false, false, ⟨#[]⟩, 0, L, 0, 0, 0, 0, 0⟩ 4 rfl
                      · have hj0 : j = 0 := by have : ¬ (L.length : Int) < (n : Int) := g; omega
                        subst hj0
                        have eq : ∀ u, tlP t = some u → u.size ≠ 0 := eq
                        unfold tlP at eq
                        have hw := spart_ok ⟨#[110, 110, 110, 110, 110]⟩ t (by decide) htz
                        rw [show byL ⟨#[110, 110, 110, 110, 110]⟩ = [110, 110, 110, 110, 110] from rfl] at hw
                        cases hbp : begP [110, 110, 110, 110, 110] t with
                        | err e =>
                          rw [hbp] at hw
                          refine callS hw [2] ⟨.inl rfl, True.intro⟩ rfl ?_
                          rintro E G ⟨rfl, rfl⟩ _
                          refine ⟨_, [.row (rpR (.slc 3 0 L.length 5) ⟨0, pn, false, false, ⟨#[]⟩, 0, [], 0, 0, 0, 0, 0⟩), .row [i64 0], .dead, .row (flat rwC L)], rfl, by simp only [renH, renO_rw]; rfl, ?_⟩
                          refine acallsD_of_rec hT mixed Try.func18 rfl (by kernel_rfl) (by kernel_rfl) rfl rfl rfl (splain) (Nat.le_of_ble_eq_true rfl) ?_
                          refine ⟨rfl, [.row (rpR (.slc 3 0 L.length 5) ⟨0, pn, false, false, ⟨#[]⟩, 0, L, 0, 0, 0, 0, 0⟩), .row [i64 4], .dead, .row (flat rwC L)], _, ⟨⟨_, rfl, rfl⟩, ⟨.inl rfl, .inl rfl, .inr rfl, .inl rfl, True.intro⟩, Nat.le_of_ble_eq_true rfl, belowH_rp ⟨0, pn, false, false, ⟨#[]⟩, 0, L, 0, 0, 0, 0, 0⟩⟩, True.intro, [], .tup [.agg (rpR (rwV L) ⟨0, pn, false, false, ⟨#[]⟩, 0, L, 0, 0, 0, 0, 0⟩), i64 4], ⟨⟨_, rfl, ?_⟩, True.intro, Nat.zero_le _, rfl⟩, rfl, ⟨0, pn, false, false, ⟨#[]⟩, 0, L, 0, 0, 0, 0, 0⟩, _, LeL_self _, rfl⟩
                          exact frz_rp4 _ ⟨0, pn, false, false, ⟨#[]⟩, 0, L, 0, 0, 0, 0, 0⟩ 4 rfl
                        | ok L1 j1 =>
                          rw [hbp] at hw eq
                          have hl2 := begP_length sh_n5 hbp
                          match L1, hl2, hbp, hw, eq with
                          | [.mk xa sa la ka, .mk xb sb lb kb, .mk xc sc lc kc, .mk xd sd ld kd, .mk xe se le ke], _, hbp, hw, eq =>
                            dsimp only at eq
                            have i0 : (0 : Int) ≤ 0 ∧ (0 : Int) < ((5 : Nat) : Int) := by omega
                            have i1 : (0 : Int) ≤ 1 ∧ (1 : Int) < ((5 : Nat) : Int) := by omega
                            have i2 : (0 : Int) ≤ 2 ∧ (2 : Int) < ((5 : Nat) : Int) := by omega
                            have i3 : (0 : Int) ≤ 3 ∧ (3 : Int) < ((5 : Nat) : Int) := by omega
                            have i4 : (0 : Int) ≤ 4 ∧ (4 : Int) < ((5 : Nat) : Int) := by omega
                            by_cases hxa : xa ≤ 2147483647
                            · rw [if_pos hxa] at eq
                              have hne := eq _ rfl
                              have hsa := ssmall_ok xa sa la ka hxa
                              have hr := strEq_nilS (rest t j1)
                              rw [decide_eq_false hne] at hr
                              refine callS hw [2] ⟨.inl rfl, True.intro⟩ rfl ?_
                              rintro E G ⟨rfl, rfl⟩ _
                              refine ⟨_, [.row (rpR (.slc 3 0 L.length 5) ⟨0, pn, false, false, ⟨#[]⟩, 0, [], 0, 0, 0, 0, 0⟩), .row [i64 0], .row [str (rest t j1)], .row (flat rwC L)], rfl, by simp only [renH, renO_rw]; rfl, ?_⟩
                              refine ⟨[0, 0, 0, 1, 0, 0, 0, 0, 0, 0, 0, 0, 0, 0, 0, 0, 0, 0, 0, 0, 1, 1, 2], [[], [0], [0, 1], [0, 1, 2], [], [4], [4, 5], [4, 5, 6], [], [8], [8, 9], [8, 9, 10], [], [12], [12, 13], [12, 13, 14], [], [16], [16, 17], [16, 17, 18], [0, 1, 2, 3, 4, 5, 6, 7, 8, 9, 10, 11, 12, 13, 14, 15, 16, 17, 18, 19], [0, 1, 2, 3, 4, 5, 6, 7, 8, 9, 10, 11, 12, 13, 14, 15, 16, 17, 18, 19, 20], [0, 1, 2, 3, 4, 5, 6, 7, 8, 9, 10, 11, 12, 13, 14, 15, 16, 17, 18, 19, 20, 21]], [0, 0, 0, 0, 0, 0, 0, 0, 0, 0, 0, 0, 0, 0, 0, 0, 0, 0, 0, 0, 0, 0, 0], [3, 22], [[8], [81], [82], [83], [8], [85], [86], [87], [8], [89], [90], [91], [8], [93], [94], [95], [8], [97], [98], [99], [84, 88, 92, 96, 100], [2], [102, 101]], Ob.intro (by kernel_rfl) ?_⟩
                              repeat first | refine same ?_ | refine Ob.intro i0 ?_ | refine Ob.intro i1 ?_ | refine Ob.intro i2 ?_ | refine Ob.intro i3 ?_ | refine Ob.intro i4 ?_
                              refine callP hsa rfl rfl ?_
                              repeat first | refine same ?_ | refine Ob.intro i0 ?_ | refine Ob.intro i1 ?_ | refine Ob.intro i2 ?_ | refine Ob.intro i3 ?_ | refine Ob.intro i4 ?_
                              generalize rest t j1 = t9 at hr ⊢
                              refine fork (fun g => absurd hr (by rw [g]; decide)) (fun _ => ?_)
                              refine callBad smust_no rfl ?_
                              refine acallsD_of_rec hT mixed Try.func18 rfl (by kernel_rfl) (by kernel_rfl) rfl rfl rfl (splain) (Nat.le_of_ble_eq_true rfl) ?_
                              refine ⟨rfl, [.row (rpR (.slc 3 0 L.length 5) ⟨0, pn, false, false, ⟨#[]⟩, 0, L, (xa : Nat), xb, xc, xd, xe⟩), .row [i64 4], .dead, .row (flat rwC L)], _, ⟨⟨_, rfl, rfl⟩, ⟨.inl rfl, .inl rfl, .inr rfl, .inl rfl, True.intro⟩, Nat.le_of_ble_eq_true rfl, belowH_rp ⟨0, pn, false, false, ⟨#[]⟩, 0, L, (xa : Nat), xb, xc, xd, xe⟩⟩, True.intro, [], .tup [.agg (rpR (rwV L) ⟨0, pn, false, false, ⟨#[]⟩, 0, L, (xa : Nat), xb, xc, xd, xe⟩), i64 4], ⟨⟨_, rfl, ?_⟩, True.intro, Nat.zero_le _, rfl⟩, rfl, ⟨0, pn, false, false, ⟨#[]⟩, 0, L, (xa : Nat), xb, xc, xd, xe⟩, _, LeL_self _, rfl⟩
                              exact frz_rp4 _ ⟨0, pn, false, false, ⟨#[]⟩, 0, L, (xa : Nat), xb, xc, xd, xe⟩ 4 rfl
                            · have hsa := ssmall_no xa sa la ka hxa
                              refine callS hw [2] ⟨.inl rfl, True.intro⟩ rfl ?_
                              rintro E G ⟨rfl, rfl⟩ _
                              refine ⟨_, [.row (rpR (.slc 3 0 L.length 5) ⟨0, pn, false, false, ⟨#[]⟩, 0, [], 0, 0, 0, 0, 0⟩), .row [i64 0], .row [str (rest t j1)], .row (flat rwC L)], rfl, by simp only [renH, renO_rw]; rfl, ?_⟩
                              refine ⟨[0, 0, 0, 1, 0, 0, 0, 0, 0, 0, 0, 0, 0, 0, 0, 0, 0, 0, 0, 0, 1, 1, 2], [[], [0], [0, 1], [0, 1, 2], [], [4], [4, 5], [4, 5, 6], [], [8], [8, 9], [8, 9, 10], [], [12], [12, 13], [12, 13, 14], [], [16], [16, 17], [16, 17, 18], [0, 1, 2, 3, 4, 5, 6, 7, 8, 9, 10, 11, 12, 13, 14, 15, 16, 17, 18, 19], [0, 1, 2, 3, 4, 5, 6, 7, 8, 9, 10, 11, 12, 13, 14, 15, 16, 17, 18, 19, 20], [0, 1, 2, 3, 4, 5, 6, 7, 8, 9, 10, 11, 12, 13, 14, 15, 16, 17, 18, 19, 20, 21]], [0, 0, 0, 0, 0, 0, 0, 0, 0, 0, 0, 0, 0, 0, 0, 0, 0, 0, 0, 0, 0, 0, 0], [3, 22], [[8], [81], [82], [83], [8], [85], [86], [87], [8], [89], [90], [91], [8], [93], [94], [95], [8], [97], [98], [99], [84, 88, 92, 96, 100], [2], [102, 101]], Ob.intro (by kernel_rfl) ?_⟩
                              repeat first | refine same ?_ | refine Ob.intro i0 ?_ | refine Ob.intro i1 ?_ | refine Ob.intro i2 ?_ | refine Ob.intro i3 ?_ | refine Ob.intro i4 ?_
                              refine callBad hsa rfl ?_
                              refine acallsD_of_rec hT mixed Try.func18 rfl (by kernel_rfl) (by kernel_rfl) rfl rfl rfl (splain) (Nat.le_of_ble_eq_true rfl) ?_
                              refine ⟨rfl, [.row (rpR (.slc 3 0 L.length 5) ⟨0, pn, false, false, ⟨#[]⟩, 0, L, 0, 0, 0, 0, 0⟩), .row [i64 4], .dead, .row (flat rwC L)], _, ⟨⟨_, rfl, rfl⟩, ⟨.inl rfl, .inl rfl, .inr rfl, .inl rfl, True.intro⟩, Nat.le_of_ble_eq_true rfl, belowH_rp ⟨0, pn, false, false, ⟨#[]⟩, 0, L, 0, 0, 0, 0, 0⟩⟩, True.intro, [], .tup [.agg (rpR (rwV L) ⟨0, pn, false, false, ⟨#[]⟩, 0, L, 0, 0, 0, 0, 0⟩), i64 4], ⟨⟨_, rfl, ?_⟩, True.intro, Nat.zero_le _, rfl⟩, rfl, ⟨0, pn, false, false, ⟨#[]⟩, 0, L, 0, 0, 0, 0, 0⟩, _, LeL_self _, rfl⟩
                              exact frz_rp4 _ ⟨0, pn, false, false, ⟨#[]⟩, 0, L, 0, 0, 0, 0, 0⟩ 4 rfl
                    · refine callS hwn [2] ⟨.inl rfl, True.intro⟩ rfl ?_
                      rintro E G ⟨rfl, rfl⟩ _
                      refine ⟨_, _, rfl, rfl, ?_⟩
                      refine Ob.intro iz ?_
                      refine callP hsn rfl rfl ?_
                      refine forkD (fun g => absurd (show ((n : Nat) : Int) ≤ 64 from g) (by omega)) (fun _ => ?_)
                      refine callBad smust_no rfl ?_
                      refine acallsD_of_rec hT mixed Try.func18 rfl (by kernel_rfl) (by kernel_rfl) rfl rfl rfl (splain) (Nat.le_of_ble_eq_true rfl) ?_
                      exact ⟨rfl, [.row (rpR nilS ⟨0, pn, false, false, ⟨#[]⟩, 0, [], 0, 0, 0, 0, 0⟩), .row [i64 4], .dead], _, ⟨⟨_, rfl, rfl⟩, ⟨.inl rfl, .inl rfl, .inr rfl, True.intro⟩, Nat.le_of_ble_eq_true rfl, rfl⟩, True.intro, [], .tup [.agg (rpR nilS ⟨0, pn, false, false, ⟨#[]⟩, 0, [], 0, 0, 0, 0, 0⟩), i64 4], ⟨⟨_, rfl, rfl⟩, True.intro, Nat.zero_le _, rfl⟩, rfl, ⟨0, pn, false, false, ⟨#[]⟩, 0, [], 0, 0, 0, 0, 0⟩, _, le_rp rfl, rfl⟩
                  · have hsn := ssmall_no n sn ln kn hn
                    refine callS hwn [2] ⟨.inl rfl, True.intro⟩ rfl ?_
                    rintro E G ⟨rfl, rfl⟩ _
                    refine ⟨_, _, rfl, rfl, ?_⟩
                    refine Ob.intro iz ?_
                    refine callBad hsn rfl ?_
                    refine acallsD_of_rec hT mixed Try.func18 rfl (by kernel_rfl) (by kernel_rfl) rfl rfl rfl (splain) (Nat.le_of_ble_eq_true rfl) ?_
                    exact ⟨rfl, [.row (rpR nilS ⟨0, pn, false, false, ⟨#[]⟩, 0, [], 0, 0, 0, 0, 0⟩), .row [i64 4], .dead], _, ⟨⟨_, rfl, rfl⟩, ⟨.inl rfl, .inl rfl, .inr rfl, True.intro⟩, Nat.le_of_ble_eq_true rfl, rfl⟩, True.intro, [], .tup [.agg (rpR nilS ⟨0, pn, false, false, ⟨#[]⟩, 0, [], 0, 0, 0, 0, 0⟩), i64 4], ⟨⟨_, rfl, rfl⟩, True.intro, Nat.zero_le _, rfl⟩, rfl, ⟨0, pn, false, false, ⟨#[]⟩, 0, [], 0, 0, 0, 0, 0⟩, _, le_rp rfl, rfl⟩
          · have his := sis_no hh sb lb kb hh1
            refine acalls_of_awpU [] hT mixed Try.func48 rfl (by kernel_rfl) (by kernel_rfl) (Nat.le_of_ble_eq_true rfl) ?_
            refine callS hcc [2] ⟨.inl rfl, True.intro⟩ rfl ?_
            rintro E G ⟨rfl, rfl⟩ _
            refine ⟨_, _, rfl, rfl, ?_⟩
            refine Ob.intro h0 ?_
            refine callP hsm rfl rfl ?_
            refine callS hw2 [2] ⟨.inl rfl, True.intro⟩ rfl ?_
            rintro E G ⟨rfl, rfl⟩ _
            refine ⟨_, _, rfl, rfl, ?_⟩
            refine ⟨[0, 0, 0, 0, 0, 0, 0, 1, 0, 2, 2, 3], [[], [0], [0, 1], [0, 1, 2], [], [4], [4, 5], [4, 5, 6], [0, 1, 2, 3], [0, 1, 2, 3, 4, 5, 6, 7, 8], [0, 1, 2, 3, 4, 5, 6, 7, 8, 9], [0, 1, 2, 3, 4, 5, 6, 7, 8, 9, 10]], [0, 0, 0, 0, 0, 0, 0, 0, 0, 0, 0, 0], [7, 9, 11], [[5], [34], [35], [36], [5], [38], [39], [40], [2], [42, 37], [2], [43, 41]], Ob.intro (by kernel_rfl) ?_⟩
            repeat first | refine same ?_ | refine Ob.intro i0 ?_ | refine Ob.intro i1 ?_
            refine callBad his rfl ?_
            refine acallsD_of_rec hT mixed Try.func18 rfl (by kernel_rfl) (by kernel_rfl) rfl rfl rfl (splain) (Nat.le_of_ble_eq_true rfl) ?_
            exact ⟨rfl, [.row (rpR nilS ⟨0, 0, false, false, ⟨#[]⟩, 0, [], 0, 0, 0, 0, 0⟩), .row [i64 4], .dead], _, ⟨⟨_, rfl, rfl⟩, ⟨.inl rfl, .inl rfl, .inr rfl, True.intro⟩, Nat.le_of_ble_eq_true rfl, rfl⟩, True.intro, [], .tup [.agg (rpR nilS ⟨0, 0, false, false, ⟨#[]⟩, 0, [], 0, 0, 0, 0, 0⟩), i64 4], ⟨⟨_, rfl, rfl⟩, True.intro, Nat.zero_le _, rfl⟩, rfl, ⟨0, 0, false, false, ⟨#[]⟩, 0, [], 0, 0, 0, 0, 0⟩, _, le_rp rfl, rfl⟩
    · rw [if_neg hc0] at hrs
      have hne := hrs _ rfl
      have hr := strEq_nilS (rest s i)
      rw [decide_eq_false hne] at hr
      refine acalls_of_awpU [] hT mixed Try.func48 rfl (by kernel_rfl) (by kernel_rfl) (Nat.le_of_ble_eq_true rfl) ?_
      refine callS hc [2] ⟨.inl rfl, True.intro⟩ rfl ?_
      rintro E G ⟨rfl, rfl⟩ _
      refine ⟨_, _, rfl, rfl, ?_⟩
      refine Ob.intro h0 ?_
      refine callP hsm rfl rfl ?_
      refine fork (fun _ => ?_) (fun g => absurd (show ((c : Nat) : Int) = 0 from bne_eq_false_iff_eq.1 g) (by omega))
      refine fork (fun g => absurd hr (by rw [g]; decide)) (fun _ => ?_)
      refine callBad smust_no rfl ?_
      refine acallsD_of_rec hT mixed Try.func18 rfl (by kernel_rfl) (by kernel_rfl) rfl rfl rfl (splain) (Nat.le_of_ble_eq_true rfl) ?_
      exact ⟨rfl, [.row (rpR nilS ⟨(c : Nat), 0, false, false, ⟨#[]⟩, 0, [], 0, 0, 0, 0, 0⟩), .row [i64 4], .dead], _, ⟨⟨_, rfl, rfl⟩, ⟨.inl rfl, .inl rfl, .inr rfl, True.intro⟩, Nat.le_of_ble_eq_true rfl, rfl⟩, True.intro, [], .tup [.agg (rpR nilS ⟨(c : Nat), 0, false, false, ⟨#[]⟩, 0, [], 0, 0, 0, 0, 0⟩), i64 4], ⟨⟨_, rfl, rfl⟩, True.intro, Nat.zero_le _, rfl⟩, rfl, ⟨(c : Nat), 0, false, false, ⟨#[]⟩, 0, [], 0, 0, 0, 0, 0⟩, _, le_rp rfl, rfl⟩
end Go.Proofs.Ytgchhmfobkcnfaa.A
