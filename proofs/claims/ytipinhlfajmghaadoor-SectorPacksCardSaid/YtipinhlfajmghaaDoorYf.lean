/- sector: Pack. No condition. -/
import Derived.Test.YtipinhlfajmghaaDoorYe
namespace Go.Proofs.YtipinhlfajmghaaDoor.A
open Go
set_option linter.unusedVariables false
set_option maxRecDepth 100000
set_option pp.maxSteps 1500

theorem textA_u8 : ∀ l : List Nat, textA (l.map u8) = some (l.map UInt8.ofNat)
  | [] => rfl
  | x :: l => by
    show (textA (l.map u8)).map (UInt8.ofNat ((x : Int)).toNat :: ·) = _
    rw [textA_u8 l, Int.toNat_natCast]
    rfl
def byL (d : ByteArray) : List Nat := d.data.toList.map UInt8.toNat
theorem bytesA_u8 (d : ByteArray) : bytesA d = (byL d).map u8 := by
  unfold bytesA byL
  rw [List.map_map]
  rfl
theorem byL_len (d : ByteArray) : (byL d).length = d.size := by unfold byL; rw [List.length_map, lenB]
def headL (g ix l p n k : Nat) : List Nat := ((([193] ++ beL g 4 4) ++ beL ix 2 2) ++ beL l 4 4) ++ [p, n, k]
def packL (g ix l p n : Nat) (d : ByteArray) : List Nat := (headL g ix l p n d.size ++ byL d) ++ List.replicate (50 - d.size) 0
def packS (g ix l p n : Nat) (d : ByteArray) : ByteArray := ⟨((packL g ix l p n d).map UInt8.ofNat).toArray⟩
theorem put2_ok (l : List Nat) (len n size : Nat) (hlen : len = l.length) (hn : n < 4294967296) (h1 : 1 ≤ size) (h4 : size ≤ 4) (hl : l.length ≤ 64) :
    ACalls Tryd.prog 14 [.slc 0 0 len 1, i64 n, i64 size] [.row (l.map u8)] (RetH (.slc 1 0 (len + size) 1) [.dead, .row ((l ++ beL n size size).map u8)]) := by
  subst hlen
  exact put_ok l n size hn h1 h4 hl
theorem zeros_u8 (k : Nat) : zerosA ti5.zero k = (List.replicate k 0).map u8 := by
  unfold zerosA
  rw [List.map_replicate]
  induction k with
  | zero => rfl
  | succ k ih => rw [List.replicate_succ, List.replicate_succ, List.flatten_cons, ih]; rfl
theorem pack_bad (x : Stp) (d : ByteArray) (h : ¬ okS x) : ACalls Tryd.prog 7 [stA x, str d] [] (Ret (.tup [str emp, i64 1])) := by
  have hR := sRight_ok x
  rw [decide_eq_false h] at hR
  obtain ⟨g, ix, l, p, n⟩ := x
  refine acalls_of_awp hT mixed Tryd.func7 rfl (by kernel_rfl) (by kernel_rfl) (Nat.le_of_ble_eq_true rfl) ?_
  refine callP hR rfl rfl ?_
  refine endG rfl rfl rfl (G := []) True.intro (Nat.zero_le _) rfl ⟨rfl, rfl⟩
theorem pack_long (x : Stp) (d : ByteArray) (h : okS x) (hd : 50 < d.size) : ACalls Tryd.prog 7 [stA x, str d] [] (Ret (.tup [str emp, i64 5])) := by
  have hR := sRight_ok x
  rw [decide_eq_true h] at hR
  obtain ⟨g, ix, l, p, n⟩ := x
  refine acalls_of_awp hT mixed Tryd.func7 rfl (by kernel_rfl) (by kernel_rfl) (Nat.le_of_ble_eq_true rfl) ?_
  refine callP hR rfl rfl ?_
  refine forkD (fun q => ?_) (fun q => absurd (show (50 : Int) < (d.size : Int) by omega) q)
  refine endG rfl rfl rfl (G := []) True.intro (Nat.zero_le _) rfl ⟨rfl, rfl⟩
theorem pack_ok (g ix l p n : Nat) (d : ByteArray) (h : okS ⟨g, ix, l, p, n⟩) (hd : d.size ≤ 50) : ACalls Tryd.prog 7 [.agg [i64 (g : Nat), i64 (ix : Nat), i64 (l : Nat), i64 (p : Nat), i64 (n : Nat)], str d] [] (Ret (.tup [str (packS g ix l p n d), i64 0])) := by
  have hR := sRight_ok ⟨g, ix, l, p, n⟩
  rw [decide_eq_true h] at hR
  obtain ⟨⟨_, hg⟩, ⟨_, hll⟩, ⟨_, hix⟩, ⟨_, hn⟩, _, hp⟩ := h
  dsimp only at hg hll hix hn hp
  have b1 : ([193] ++ beL g 4 4).length = 5 := by rw [List.length_append, beL_len]; rfl
  have b2 : (([193] ++ beL g 4 4) ++ beL ix 2 2).length = 7 := by rw [List.length_append, b1, beL_len]
  have b3 : ((([193] ++ beL g 4 4) ++ beL ix 2 2) ++ beL l 4 4).length = 11 := by rw [List.length_append, b2, beL_len]
  have p1 := put2_ok [193] 1 g 4 rfl (by omega) (by decide) (by decide) (by decide)
  have p2 := put2_ok ([193] ++ beL g 4 4) 5 ix 2 b1.symm (by omega) (by decide) (by decide) (by omega)
  have p3 := put2_ok (([193] ++ beL g 4 4) ++ beL ix 2 2) 7 l 4 b2.symm (by omega) (by decide) (by decide) (by omega)
  have hh : headL g ix l p n d.size = ((([193] ++ beL g 4 4) ++ beL ix 2 2) ++ beL l 4 4) ++ [p, n, d.size] := rfl
  have hpk : packS g ix l p n d = ⟨(((headL g ix l p n d.size ++ byL d) ++ List.replicate (50 - d.size) 0).map UInt8.ofNat).toArray⟩ := rfl
  rw [hpk, hh]
  generalize ([193] ++ beL g 4 4) = r1 at *
  generalize r1 ++ beL ix 2 2 = r2 at *
  generalize r2 ++ beL l 4 4 = r3 at *
  have w1 : wrp .u8 (p : Int) = (p : Int) := by rw [wrpE, wu8]; omega
  have w2 : wrp .u8 (n : Int) = (n : Int) := by rw [wrpE, wu8]; omega
  have w3 : wrp .u8 (d.size : Int) = (d.size : Int) := by rw [wrpE, wu8]; omega
  refine acalls_of_awp hT mixed Tryd.func7 rfl (by kernel_rfl) (by kernel_rfl) (Nat.le_of_ble_eq_true rfl) ?_
  refine callP hR rfl rfl ?_
  refine forkD (fun q => absurd (show (50 : Int) < (d.size : Int) from q) (by omega)) (fun q => ?_)
  refine callH (H' := [.row [i64 (g : Nat), i64 (ix : Nat), i64 (l : Nat), i64 (p : Nat), i64 (n : Nat)], .dead, .row (r1.map u8)]) p1 [1] rfl ⟨.inl rfl, True.intro⟩ rfl rfl (by simp only [renH, renO_u8]; rfl) ?_
  refine callH (H' := [.row [i64 (g : Nat), i64 (ix : Nat), i64 (l : Nat), i64 (p : Nat), i64 (n : Nat)], .dead, .dead, .row (r2.map u8)]) p2 [2] rfl ⟨.inl (by rw [renO_u8]; rfl), True.intro⟩ rfl rfl (by simp only [renH, renO_u8]; rfl) ?_
  refine callH (H' := [.row [i64 (g : Nat), i64 (ix : Nat), i64 (l : Nat), i64 (p : Nat), i64 (n : Nat)], .dead, .dead, .dead, .row (r3.map u8)]) p3 [3] rfl ⟨.inl (by rw [renO_u8]; rfl), True.intro⟩ rfl rfl (by simp only [renH, renO_u8]; rfl) ?_
  refine Ob.intro (show allC [.sc _, .sc _, .sc _] = true from rfl) ?_
  have l3 : (r3.map u8).length = 11 := by rw [List.length_map, b3]
  refine optK_intro (rdN_all rfl (show (7 + 4) * 1 = (r3.map u8).length by rw [l3])) ?_
  refine Ob.intro (show (7 + 4 + 3) * 1 ≤ 140737488355328 ∧ 7 + 4 + 3 ≤ 9223372036854775807 by decide) ?_
  have hC : ∀ a b c : Int, (r3.map u8 ++ [AV.sc (.int .u8 a), .sc (.int .u8 b), .sc (.int .u8 c)]).length = 14 := fun a b c => by rw [List.length_append, l3]; rfl
  have hB : allC (bytesA d) = true := by rw [bytesA_u8]; exact allC_u8 _
  refine Ob.intro hB ?_
  refine optK_intro (rdN_all rfl (show (7 + 4 + 3) * 1 = (r3.map u8 ++ [AV.sc (.int .u8 (wrp .u8 (p : Int))), .sc (.int .u8 (wrp .u8 (n : Int))), .sc (.int .u8 (wrp .u8 (d.size : Int)))]).length by rw [hC])) ?_
  refine Ob.intro (show (7 + 4 + 3 + d.size) * 1 ≤ 140737488355328 ∧ 7 + 4 + 3 + d.size ≤ 9223372036854775807 by omega) ?_
  have hw : wrp .i64 (64 - ((7 + 4 + 3 + d.size : Nat) : Int)) = ((50 - d.size : Nat) : Int) := by rw [wrpE, wi64]; omega
  refine Ob.intro (show (0 : Int) ≤ wrp .i64 (64 - ((7 + 4 + 3 + d.size : Nat) : Int)) ∧ wrp .i64 (64 - ((7 + 4 + 3 + d.size : Nat) : Int)) ≤ 140737488355328 ∧ wrp .i64 (64 - ((7 + 4 + 3 + d.size : Nat) : Int)) * (1 : Nat) ≤ 140737488355328 by rw [hw]; omega) ?_
  have hD : ∀ a b c : Int, ((r3.map u8 ++ [AV.sc (.int .u8 a), .sc (.int .u8 b), .sc (.int .u8 c)]) ++ bytesA d).length = 14 + d.size := fun a b c => by rw [List.length_append, hC, bytesA_u8, List.length_map, byL_len]
  refine optK_intro (rdN_all rfl (show (7 + 4 + 3 + d.size) * 1 = ((r3.map u8 ++ [AV.sc (.int .u8 (wrp .u8 (p : Int))), .sc (.int .u8 (wrp .u8 (n : Int))), .sc (.int .u8 (wrp .u8 (d.size : Int)))]) ++ bytesA d).length by rw [hD]; omega)) ?_
  refine Ob.intro (show (7 + 4 + 3 + d.size + (wrp .i64 (64 - ((7 + 4 + 3 + d.size : Nat) : Int))).toNat) * 1 ≤ 140737488355328 ∧ 7 + 4 + 3 + d.size + (wrp .i64 (64 - ((7 + 4 + 3 + d.size : Nat) : Int))).toNat ≤ 9223372036854775807 by rw [hw]; omega) ?_
  have hE : ((r3.map u8 ++ [AV.sc (.int .u8 (wrp .u8 (p : Int))), .sc (.int .u8 (wrp .u8 (n : Int))), .sc (.int .u8 (wrp .u8 (d.size : Int)))]) ++ bytesA d) ++ zerosA ti5.zero (wrp .i64 (64 - ((7 + 4 + 3 + d.size : Nat) : Int))).toNat = ((headL g ix l p n d.size ++ byL d) ++ List.replicate (50 - d.size) 0).map u8 := by
    rw [hw, Int.toNat_natCast, zeros_u8, bytesA_u8, w1, w2, w3, hh, List.map_append, List.map_append, List.map_append]
    rfl
  have hF : (((r3.map u8 ++ [AV.sc (.int .u8 (wrp .u8 (p : Int))), .sc (.int .u8 (wrp .u8 (n : Int))), .sc (.int .u8 (wrp .u8 (d.size : Int)))]) ++ bytesA d) ++ zerosA ti5.zero (wrp .i64 (64 - ((7 + 4 + 3 + d.size : Nat) : Int))).toNat).length = 64 := by
    rw [hE, List.length_map, List.length_append, List.length_append, List.length_replicate, byL_len, hh, List.length_append, b3]
    show 11 + 3 + d.size + (50 - d.size) = 64
    omega
  have hG : rdN [.row [i64 (g : Nat), i64 (ix : Nat), i64 (l : Nat), i64 (p : Nat), i64 (n : Nat)], .dead, .dead, .dead, .dead, .row [AV.sc (.int .u8 (wrp .u8 (p : Int))), .sc (.int .u8 (wrp .u8 (n : Int))), .sc (.int .u8 (wrp .u8 (d.size : Int)))], .dead, .dead, .row (((r3.map u8 ++ [AV.sc (.int .u8 (wrp .u8 (p : Int))), .sc (.int .u8 (wrp .u8 (n : Int))), .sc (.int .u8 (wrp .u8 (d.size : Int)))]) ++ bytesA d) ++ zerosA ti5.zero (wrp .i64 (64 - ((7 + 4 + 3 + d.size : Nat) : Int))).toNat)] 8 0 ((7 + 4 + 3 + d.size + (wrp .i64 (64 - ((7 + 4 + 3 + d.size : Nat) : Int))).toNat) * 1) = some (((r3.map u8 ++ [AV.sc (.int .u8 (wrp .u8 (p : Int))), .sc (.int .u8 (wrp .u8 (n : Int))), .sc (.int .u8 (wrp .u8 (d.size : Int)))]) ++ bytesA d) ++ zerosA ti5.zero (wrp .i64 (64 - ((7 + 4 + 3 + d.size : Nat) : Int))).toNat) := rdN_all rfl (by rw [hF, hw]; omega)
  refine optK_intro (a := ((r3.map u8 ++ [AV.sc (.int .u8 (wrp .u8 (p : Int))), .sc (.int .u8 (wrp .u8 (n : Int))), .sc (.int .u8 (wrp .u8 (d.size : Int)))]) ++ bytesA d) ++ zerosA ti5.zero (wrp .i64 (64 - ((7 + 4 + 3 + d.size : Nat) : Int))).toNat) hG ?_
  refine optK_intro (a := ((headL g ix l p n d.size ++ byL d) ++ List.replicate (50 - d.size) 0).map UInt8.ofNat) (by rw [hE]; exact textA_u8 _) ?_
  rw [hh]
  refine endG rfl rfl rfl (G := []) True.intro (Nat.zero_le _) rfl ⟨rfl, rfl⟩
end Go.Proofs.YtipinhlfajmghaaDoor.A
