/- sector: Pack by the document. No condition. -/
import Derived.Test.YtipinhlfajmghaaDoorYm
namespace Go.Proofs.YtipinhlfajmghaaDoor.A
open Go
set_option linter.unusedVariables false
set_option maxRecDepth 100000
set_option pp.maxSteps 1500

theorem byte256 (x : Nat) : wrp .u8 (hd ((x : Int).tmod 256)) = ((x % 256 : Nat) : Int) := by
  rw [hd_eq]
  show wrp .u8 ((x % 256 : Nat) : Int) = _
  rw [wrpE, wu8]
  omega
theorem div256 (g j : Nat) (h : g ≤ 2147483647) : wrp .i64 (((g / 256 ^ j : Nat) : Int).tdiv 256) = ((g / 256 ^ (j + 1) : Nat) : Int) := by
  have hx : g / 256 ^ j ≤ g := Nat.div_le_self ..
  rw [Nat.pow_succ, ← Nat.div_div_eq_div_mul]
  generalize g / 256 ^ j = x at *
  show wrp .i64 ((x / 256 : Nat) : Int) = _
  rw [wrpE, wi64]
  omega
theorem bq (ix : Nat) (h : ix ≤ 127) : wrp .u8 (wrp .i64 ((ix : Int).tdiv 256)) = ((ix / 256 % 256 : Nat) : Int) := by
  show wrp .u8 (wrp .i64 ((ix / 256 : Nat) : Int)) = _
  rw [wrpE, wrpE, wu8, wi64]
  omega
theorem br (ix : Nat) (h : ix ≤ 127) : wrp .u8 (hd ((ix : Int).tmod 256)) = ((ix / 1 % 256 : Nat) : Int) := by
  rw [byte256, Nat.div_one]
theorem b8 (x : Nat) (h : x < 256) : wrp .u8 (x : Int) = ((x : Nat) : Int) := by
  rw [wrpE, wu8]
  omega
theorem wr_u8 {K : Heap → Prop} {H : Heap} {p off k : Nat} {l : List AV} {R : List Nat} {z : Int} {x : Nat} (h : nth H p = some (.row (R.map u8))) (hx : l = [.sc (.int .u8 z)]) (hz : z = (x : Int)) (hk : off = k) (hl : k < R.length) (q : K (H.set p (.row ((R.set k x).map u8)))) : optK (wr H p off l) K := by
  subst hx hk
  refine optK_intro (wr_eq h (by rw [List.length_map]; exact hl)) ?_
  have e : setAll (R.map u8) off [.sc (.int .u8 z)] = (R.set off x).map u8 := by
    rw [List.map_set, show u8 x = AV.sc (.int .u8 z) by rw [hz]; rfl]
    rfl
  rw [e]
  exact q
structure J1 (g l : Nat) where
  j : Nat
  R : List Nat
  hj : j ≤ 4
  hR : R = rowJ g l j
structure J2 (g ix l p n k : Nat) (d : List Nat) where
  i : Nat
  R : List Nat
  hi : i ≤ d.length
  hR : R = rowK g ix l p n k d i
theorem byL_at (d : ByteArray) {i : Nat} (h : i < d.size) : (byL d)[i]? = some (atL d i) := by
  unfold byL atL
  rw [List.getElem?_map, List.getD_eq_getElem?_getD, List.getElem?_eq_getElem (by rw [lenB]; exact h)]
  rfl
theorem src_all {H : Heap} {p n : Nat} {cs : List AV} (h : nth H p = some (.row cs)) (hn : n = cs.length) : srcA H 1 (.slc p 0 n 1) = some cs := by
  show rdN H p 0 (n * 1) = some cs
  exact rdN_all h (by omega)
theorem rPack_ok (g ix l p n : Nat) (d : ByteArray) (h : okS ⟨g, ix, l, p, n⟩) (hds : d.size ≤ 50) : ACalls Tryd.prog 11 [.agg [i64 (g : Nat), i64 (ix : Nat), i64 (l : Nat), i64 (p : Nat), i64 (n : Nat)], str d] [] (Ret (str (packS g ix l p n d))) := by
  obtain ⟨⟨_, hg⟩, ⟨_, hll⟩, ⟨_, hix⟩, ⟨_, hn⟩, _, hp⟩ := h
  dsimp only at hg hll hix hn hp
  refine acalls_of_awp hT mixed Tryd.func11 rfl (by kernel_rfl) (by kernel_rfl) (Nat.le_of_ble_eq_true rfl) ?_
  repeat refine Ob.intro (by decide) ?_
  refine ⟨[0, 0, 0, 0, 0, 0], [[], [0], [], [2], [0, 1], [0, 1, 2, 3, 4]], [0, 0, 0, 0, 0, 0], [], [[2], [13], [2], [15], [14], [16]], Ob.intro (by kernel_rfl) ?_⟩
  repeat refine same ?_
  refine loopI (α := J1 g l) (fun j => [(1, str d), (2, .ptr 0 0), (5, .slc 1 0 64 1), (6, i64 (g / 256 ^ j.j : Nat)), (7, i64 (l / 256 ^ j.j : Nat)), (8, i64 (j.j : Nat))]) (fun j => [.row [i64 (g : Nat), i64 (ix : Nat), i64 (l : Nat), i64 (p : Nat), i64 (n : Nat)], .row (j.R.map u8)]) (fun j => 4 - j.j) ⟨0, _, Nat.zero_le _, rfl⟩ [0, 1]
    ⟨⟨rfl, rfl, rfl, congrArg i64 (by show (g : Int) = ((g / 256 ^ 0 : Nat) : Int); rw [Nat.pow_zero, Nat.div_one]), congrArg i64 (by show (l : Int) = ((l / 256 ^ 0 : Nat) : Int); rw [Nat.pow_zero, Nat.div_one]), rfl, True.intro⟩, ⟨.inl rfl, .inl rfl, True.intro⟩, rfl, rfl, rfl⟩ ?_
  rintro ⟨j, R, hj, hR⟩ K hK
  have hl : R.length = 64 := by rw [hR]; exact rowJ_len g l j
  have hinc : wrp .i64 ((j : Int) + 1) = ((j + 1 : Nat) : Int) := by rw [wrpE, wi64]; omega
  have w4 : j < 4 → wrp .i64 (4 - (j : Int)) = ((4 - j : Nat) : Int) := fun h => by rw [wrpE, wi64]; omega
  have w10 : j < 4 → wrp .i64 (10 - (j : Int)) = ((10 - j : Nat) : Int) := fun h => by rw [wrpE, wi64]; omega
  refine forkD (fun q => ?_) (fun q => ?_)
  · have q' : j < 4 := by have : (j : Int) < 4 := q; omega
    refine Ob.intro (by decide) ?_
    refine Ob.intro (show (0 : Int) ≤ wrp .i64 (4 - (j : Int)) ∧ wrp .i64 (4 - (j : Int)) < ((64 : Nat) : Int) by rw [w4 q']; omega) ?_
    refine wr_u8 (k := 4 - j) (x := g / 256 ^ j % 256) rfl rfl (byte256 _) (by show 0 + (wrp .i64 (4 - (j : Int))).toNat * 1 = _; rw [w4 q', Int.toNat_natCast]; omega) (by rw [hl]; omega) ?_
    refine Ob.intro (by decide) ?_
    refine Ob.intro (show (0 : Int) ≤ wrp .i64 (10 - (j : Int)) ∧ wrp .i64 (10 - (j : Int)) < ((64 : Nat) : Int) by rw [w10 q']; omega) ?_
    refine wr_u8 (k := 10 - j) (x := l / 256 ^ j % 256) rfl rfl (byte256 _) (by show 0 + (wrp .i64 (10 - (j : Int))).toNat * 1 = _; rw [w10 q', Int.toNat_natCast]; omega) (by rw [List.length_set, hl]; omega) ?_
    refine Ob.intro (by decide) ?_
    refine Ob.intro (by decide) ?_
    refine hK ⟨j + 1, (R.set (4 - j) (g / 256 ^ j % 256)).set (10 - j) (l / 256 ^ j % 256), q', by rw [hR]; rfl⟩ [0, 1] _ (show 4 - j = 4 - (j + 1) + 1 by omega) ⟨⟨rfl, rfl, rfl, congrArg i64 (div256 g j (by omega)), congrArg i64 (div256 l j (by omega)), congrArg i64 hinc, True.intro⟩, ⟨.inl rfl, .inl ?_, True.intro⟩, rfl, rfl, rfl⟩
    show some (AObj.row _) = some (renO _ (.row (_ : List AV)))
    rw [renO_u8]
  · have h4 : j = 4 := by have : ¬ (j : Int) < 4 := q; omega
    subst h4
    refine Ob.intro (by decide) ?_
    refine Ob.intro (show (0 : Int) ≤ 5 ∧ 5 < ((64 : Nat) : Int) by decide) ?_
    refine wr_u8 (k := 5) (x := ix / 256 % 256) rfl rfl (bq ix (by omega)) rfl (by rw [hl]; decide) ?_
    refine Ob.intro (by decide) ?_
    refine Ob.intro (show (0 : Int) ≤ 6 ∧ 6 < ((64 : Nat) : Int) by decide) ?_
    refine wr_u8 (k := 6) (x := ix / 1 % 256) rfl rfl (br ix (by omega)) rfl (by simp only [List.length_set, hl]; decide) ?_
    refine Ob.intro (show (0 : Int) ≤ 11 ∧ 11 < ((64 : Nat) : Int) by decide) ?_
    refine wr_u8 (k := 11) (x := p) rfl rfl (b8 p (by omega)) rfl (by simp only [List.length_set, hl]; decide) ?_
    refine Ob.intro (show (0 : Int) ≤ 12 ∧ 12 < ((64 : Nat) : Int) by decide) ?_
    refine wr_u8 (k := 12) (x := n) rfl rfl (b8 n (by omega)) rfl (by simp only [List.length_set, hl]; decide) ?_
    refine Ob.intro (show (0 : Int) ≤ 13 ∧ 13 < ((64 : Nat) : Int) by decide) ?_
    refine wr_u8 (k := 13) (x := d.size) rfl rfl (b8 d.size (by omega)) rfl (by simp only [List.length_set, hl]; decide) ?_
    refine loopI (α := J2 g ix l p n d.size (byL d)) (fun z => [(1, str d), (5, .slc 1 0 64 1), (9, i64 (z.i : Nat))]) (fun z => [.row [i64 (g : Nat), i64 (ix : Nat), i64 (l : Nat), i64 (p : Nat), i64 (n : Nat)], .row (z.R.map u8)]) (fun z => d.size - z.i)
      ⟨0, ((((R.set 5 (ix / 256 % 256)).set 6 (ix / 1 % 256)).set 11 p).set 12 n).set 13 d.size, Nat.zero_le _, by rw [hR]; exact head_eq ..⟩ [0, 1]
      ⟨⟨rfl, rfl, rfl, True.intro⟩, ⟨.inl rfl, .inl (by show some (AObj.row _) = some (renO _ (.row (_ : List AV))); rw [renO_u8]), True.intro⟩, rfl, rfl, rfl⟩ ?_
    rintro ⟨i, R2, hi, hR2⟩ K2 hK2
    have hi2 : i ≤ d.size := by rw [byL_len] at hi; exact hi
    have hl2 : R2.length = 64 := by rw [hR2]; exact rowK_len _ _ _ _ _ _ _ _ hi (by rw [byL_len]; exact hds)
    have hinc : wrp .i64 ((i : Int) + 1) = ((i + 1 : Nat) : Int) := by rw [wrpE, wi64]; omega
    have h14 : wrp .i64 (14 + (i : Int)) = ((14 + i : Nat) : Int) := by rw [wrpE, wi64]; omega
    refine forkD (fun q2 => ?_) (fun q2 => ?_)
    · have q3 : i < d.size := by have : (i : Int) < (d.size : Int) := q2; omega
      refine Ob.intro (show (0 : Int) ≤ (i : Int) ∧ (i : Int) < (d.size : Int) by omega) ?_
      refine Ob.intro (show (0 : Int) ≤ wrp .i64 (14 + (i : Int)) ∧ wrp .i64 (14 + (i : Int)) < ((64 : Nat) : Int) by rw [h14]; omega) ?_
      refine wr_u8 (k := 14 + i) (x := atL d i) rfl rfl rfl (by show 0 + (wrp .i64 (14 + (i : Int))).toNat * 1 = _; rw [h14, Int.toNat_natCast]; omega) (by rw [hl2]; omega) ?_
      refine hK2 ⟨i + 1, R2.set (14 + i) (atL d i), by rw [byL_len]; exact q3, by rw [hR2]; exact rowK_succ _ _ _ _ _ _ _ _ _ (byL_at d q3) (by rw [byL_len]; exact hds)⟩ [0, 1] _ (show d.size - i = d.size - (i + 1) + 1 by omega) ⟨⟨rfl, rfl, congrArg i64 hinc, True.intro⟩, ⟨.inl rfl, .inl ?_, True.intro⟩, rfl, rfl, rfl⟩
      show some (AObj.row _) = some (renO _ (.row (_ : List AV)))
      rw [renO_u8]
    · have h4 : i = d.size := by have : ¬ (i : Int) < (d.size : Int) := q2; omega
      subst h4
      have hpk : R2 = packL g ix l p n d := by rw [hR2]; exact rowK_all g ix l p n d
      refine optK_intro (a := R2.map u8) (src_all rfl (by rw [List.length_map, hl2])) ?_
      refine optK_intro (a := R2.map UInt8.ofNat) (textA_u8 R2) ?_
      refine end0 rfl rfl rfl ?_
      show str ⟨(R2.map UInt8.ofNat).toArray⟩ = _
      rw [hpk]
      rfl
end Go.Proofs.YtipinhlfajmghaaDoor.A
