/- sector: put. No condition. -/
import Derived.Test.YthbncljlclcecaaDoorYd
namespace Go.Proofs.YthbncljlclcecaaDoor.A
open Go
set_option linter.unusedVariables false
set_option maxRecDepth 100000
set_option pp.maxSteps 1500

/-- The first j of so many bytes of a number, the highest first. -/
def beL (n size j : Nat) : List Nat := (List.range j).map fun t => n / 256 ^ (size - 1 - t) % 256
theorem beL_succ (n size j : Nat) : beL n size (j + 1) = beL n size j ++ [n / 256 ^ (size - 1 - j) % 256] := by
  unfold beL
  rw [List.range_succ, List.map_append]
  rfl
theorem beL_len (n size j : Nat) : (beL n size j).length = j := by simp [beL]
def pRow (l : List Nat) (n size : Nat) : Nat → Heap
  | 0 => [.row (l.map u8)]
  | j + 1 => [.dead, .row ((l ++ beL n size (j + 1)).map u8)]
def pSl (l : List Nat) : Nat → AV
  | 0 => .slc 0 0 l.length 1
  | j + 1 => .slc 1 0 (l.length + (j + 1)) 1
theorem renL_y8 (r : Nat → Nat) (l : List Nat) : renL r (l.map u8) = l.map u8 := renL_map (fun _ _ => rfl) r l
theorem renO_y8 (r : Nat → Nat) (l : List Nat) : renO r (.row (l.map u8)) = .row (l.map u8) := by simp only [renO, renL_y8]
theorem allC_y8 : ∀ l : List Nat, allC (l.map u8) = true
  | [] => rfl
  | x :: l => by
    show (bif isC (u8 x) then allC (l.map u8) else false) = true
    rw [allC_y8 l]
    rfl
theorem belowL_y8 (m : Nat) : ∀ l : List Nat, belowL m (l.map u8) = true
  | [] => rfl
  | x :: l => belowL_y8 m l
theorem put_ok (l : List Nat) (n size : Nat) (hn : n < 4294967296) (h1 : 1 ≤ size) (h4 : size ≤ 4) (hl : l.length ≤ 64) :
    ACalls Tryd.prog 67 [.slc 0 0 l.length 1, i64 n, i64 size] [.row (l.map u8)] (RetH (.slc 1 0 (l.length + size) 1) [.dead, .row ((l ++ beL n size size).map u8)]) := by
  have hw0 : wrp .i64 ((size : Int) - 1) = ((size - 1 : Nat) : Int) := by rw [wrpE, wi64]; omega
  refine acalls_of_awp hT mixed Tryd.func67 rfl (by kernel_rfl) (by kernel_rfl) (Nat.le_of_ble_eq_true rfl) ?_
  refine loopI (α := { x : Nat × Int // x.1 ≤ size ∧ x.2 = (size : Int) - 1 - (x.1 : Int) }) (fun x => [(0, pSl l x.val.1), (1, i64 n), (7, i64 x.val.2)]) (fun x => pRow l n size x.val.1) (fun x => size - x.val.1) ⟨(0, wrp .i64 ((size : Int) - 1)), Nat.zero_le _, by rw [hw0]; show _ = (size : Int) - 1 - ((0 : Nat) : Int); omega⟩ [0] ⟨⟨rfl, rfl, rfl, True.intro⟩, ⟨.inl (by show _ = some (renO _ (.row (l.map u8))); rw [renO_y8]; rfl), True.intro⟩, rfl, rfl, rfl⟩ ?_
  rintro ⟨⟨j, w⟩, hj, hw⟩ K hK
  have hj2 : j ≤ size := hj
  have hw2 : w = (size : Int) - 1 - (j : Int) := hw
  have hdec : wrp .i64 (w - 1) = (size : Int) - 1 - ((j + 1 : Nat) : Int) := by rw [wrpE, wi64]; omega
  have hv : 0 ≤ w → wrp .u8 (hd ((n : Int).fdiv (2 ^ min (wrp .i64 (8 * w)).toNat IntKind.i64.bits))) = ((n / 256 ^ (size - 1 - j) % 256 : Nat) : Int) := fun g' => by
    have hm : wrp .i64 (8 * w) = ((8 * (size - 1 - j) : Nat) : Int) := by rw [wrpE, wi64]; omega
    have hb : IntKind.i64.bits = 64 := rfl
    rw [hm, Int.toNat_natCast, hb, Nat.min_eq_left (by omega), hd_eq]
    have hp : (2 : Int) ^ (8 * (size - 1 - j)) = ((256 ^ (size - 1 - j) : Nat) : Int) := by
      rw [show (256 : Nat) = 2 ^ 8 from rfl, ← Nat.pow_mul, Int.natCast_pow]
      rfl
    rw [hp, Int.fdiv_eq_ediv_of_nonneg _ (Int.natCast_nonneg _)]
    show wrp .u8 ((n / 256 ^ (size - 1 - j) : Nat) : Int) = _
    rw [wrpE, wu8]
    rfl
  have hsh : 0 ≤ w → (0 : Int) ≤ wrp .i64 (8 * w) := fun g' => by rw [wrpE, wi64]; omega
  have hbe := beL_succ n size j
  generalize n / 256 ^ (size - 1 - j) % 256 = z at *
  cases j with
  | zero =>
    refine forkD (fun g => ?_) (fun g => absurd (show (0 : Int) ≤ w by omega) g)
    have g' : (0 : Int) ≤ w := g
    refine Ob.intro (hsh g') ?_
    refine Ob.intro (show allC [.sc _] = true from rfl) ?_
    refine optK_intro (rdN_all rfl (show l.length * 1 = (l.map u8).length by rw [List.length_map]; omega)) ?_
    refine Ob.intro (show (l.length + 1) * 1 ≤ 140737488355328 ∧ l.length + 1 ≤ 9223372036854775807 by omega) ?_
    refine hK ⟨(1, wrp .i64 (w - 1)), by show 1 ≤ size; omega, hdec⟩ [0, 2] _ (show size - 0 = size - 1 + 1 by omega) ⟨⟨rfl, rfl, rfl, True.intro⟩, ⟨.inr ⟨rfl, (show 0 < 3 by decide)⟩, .inl ?_, True.intro⟩, rfl, rfl, rfl⟩
    show some (AObj.row (l.map u8 ++ [.sc (.int .u8 (wrp .u8 (hd ((n : Int).fdiv (2 ^ min (wrp .i64 (8 * w)).toNat IntKind.i64.bits)))))])) = some (renO _ (.row ((l ++ beL n size 1).map u8)))
    rw [hv g', renO_y8, hbe, List.map_append, List.map_append]
    rfl
  | succ j =>
    refine forkD (fun g => ?_) (fun g => ?_)
    · have g' : (0 : Int) ≤ w := g
      refine Ob.intro (hsh g') ?_
      refine Ob.intro (show allC [.sc _] = true from rfl) ?_
      refine optK_intro (rdN_all rfl (show (l.length + (j + 1)) * 1 = ((l ++ beL n size (j + 1)).map u8).length by rw [List.length_map, List.length_append, beL_len]; omega)) ?_
      refine Ob.intro (show (l.length + (j + 1) + 1) * 1 ≤ 140737488355328 ∧ l.length + (j + 1) + 1 ≤ 9223372036854775807 by omega) ?_
      refine hK ⟨(j + 1 + 1, wrp .i64 (w - 1)), by show j + 1 + 1 ≤ size; omega, hdec⟩ [0, 3] _ (show size - (j + 1) = size - (j + 1 + 1) + 1 by omega) ⟨⟨rfl, rfl, rfl, True.intro⟩, ⟨.inr ⟨rfl, (show 0 < 4 by decide)⟩, .inl ?_, True.intro⟩, rfl, rfl, rfl⟩
      show some (AObj.row ((l ++ beL n size (j + 1)).map u8 ++ [.sc (.int .u8 (wrp .u8 (hd ((n : Int).fdiv (2 ^ min (wrp .i64 (8 * w)).toNat IntKind.i64.bits)))))])) = some (renO _ (.row ((l ++ beL n size (j + 1 + 1)).map u8)))
      rw [hv g', renO_y8, hbe, ← List.append_assoc, List.map_append, List.map_append, List.map_append]
      rfl
    · have g' : ¬ (0 : Int) ≤ w := g
      have hjs : j + 1 = size := by omega
      subst hjs
      refine endH rfl rfl rfl ⟨.inl rfl, .inl rfl, True.intro⟩ (show 1 ≤ 2 by decide) ?_ rfl
      simp only [List.length_cons, List.length_nil, belowH, belowO, belowL_y8]
      rfl
end Go.Proofs.YthbncljlclcecaaDoor.A

namespace Go.Proofs.YthbncljlclcecaaDoor.A
open Go
set_option linter.unusedVariables false
set_option maxRecDepth 100000
set_option pp.maxSteps 1500

theorem textA_y8 : ∀ l : List Nat, textA (l.map u8) = some (l.map UInt8.ofNat)
  | [] => rfl
  | x :: l => by
    show (textA (l.map u8)).map (UInt8.ofNat ((x : Int)).toNat :: ·) = _
    rw [textA_y8 l, Int.toNat_natCast]
    rfl
def byLy (d : ByteArray) : List Nat := d.data.toList.map UInt8.toNat
theorem bytesA_y8 (d : ByteArray) : bytesA d = (byLy d).map u8 := by
  unfold bytesA byLy
  rw [List.map_map]
  rfl
theorem byL_leny (d : ByteArray) : (byLy d).length = d.size := by unfold byLy; rw [List.length_map, lenB]
def headL (g ix l p n k : Nat) : List Nat := ((([193] ++ beL g 4 4) ++ beL ix 2 2) ++ beL l 4 4) ++ [p, n, k]
def packL (g ix l p n : Nat) (d : ByteArray) : List Nat := (headL g ix l p n d.size ++ byLy d) ++ List.replicate (50 - d.size) 0
def packS (g ix l p n : Nat) (d : ByteArray) : ByteArray := ⟨((packL g ix l p n d).map UInt8.ofNat).toArray⟩
theorem put2_ok (l : List Nat) (len n size : Nat) (hlen : len = l.length) (hn : n < 4294967296) (h1 : 1 ≤ size) (h4 : size ≤ 4) (hl : l.length ≤ 64) :
    ACalls Tryd.prog 67 [.slc 0 0 len 1, i64 n, i64 size] [.row (l.map u8)] (RetH (.slc 1 0 (len + size) 1) [.dead, .row ((l ++ beL n size size).map u8)]) := by
  subst hlen
  exact put_ok l n size hn h1 h4 hl
theorem zeros_y8 (k : Nat) : zerosA ti5.zero k = (List.replicate k 0).map u8 := by
  unfold zerosA
  rw [List.map_replicate]
  induction k with
  | zero => rfl
  | succ k ih => rw [List.replicate_succ, List.replicate_succ, List.flatten_cons, ih]; rfl
theorem pack_ok (g ix l p n : Nat) (d : ByteArray) (h : okS ⟨g, ix, l, p, n⟩) (hd : d.size ≤ 50) : ACalls Tryd.prog 55 [.agg [i64 (g : Nat), i64 (ix : Nat), i64 (l : Nat), i64 (p : Nat), i64 (n : Nat)], str d] [] (Ret (.tup [str (packS g ix l p n d), i64 0])) := by
  have hR := sRight_ok ⟨g, ix, l, p, n⟩
  rw [decide_eq_true h] at hR
  obtain ⟨⟨_, hg⟩, ⟨_, hll⟩, ⟨_, hix⟩, ⟨_, hn⟩, _, hp⟩ := h
  dsimp only at hg hll hix hn hp
  have b1 : ([193] ++ beL g 4 4).length = 5 := by rw [List.length_append, beL_len]; rfl
  have b2 : (([193] ++ beL g 4 4) ++ beL ix 2 2).length = 7 := by rw [List.length_append, b1, beL_len]
  have b3 : ((([193] ++ beL g 4 4) ++ beL ix 2 2) ++ beL l 4 4).length = 11 := by rw [List.length_append, b2, beL_len]
  have p1 := put2_ok [193] 1 g 4 rfl (by omega) (by decide) (by decide) (by decide)
  have p2 := put2_ok ([193] ++ beL g 4 4) 5 ix 2 b1.symm (by omega) (by decide) (by decide) (by omega)
  have p3 := put2_ok (([193] ++ beL g 4 4) ++ beL ix 2 2) 7 l 4 b2.symm (by omega) (by decide) (by decide) (by omega)
  have hh : headL g ix l p n d.size = ((([193] ++ beL g 4 4) ++ beL ix 2 2) ++ beL l 4 4) ++ [p, n, d.size] := rfl
  have hpk : packS g ix l p n d = ⟨(((headL g ix l p n d.size ++ byLy d) ++ List.replicate (50 - d.size) 0).map UInt8.ofNat).toArray⟩ := rfl
  rw [hpk, hh]
  generalize ([193] ++ beL g 4 4) = r1 at *
  generalize r1 ++ beL ix 2 2 = r2 at *
  generalize r2 ++ beL l 4 4 = r3 at *
  have w1 : wrp .u8 (p : Int) = (p : Int) := by rw [wrpE, wu8]; omega
  have w2 : wrp .u8 (n : Int) = (n : Int) := by rw [wrpE, wu8]; omega
  have w3 : wrp .u8 (d.size : Int) = (d.size : Int) := by rw [wrpE, wu8]; omega
  refine acalls_of_awp hT mixed Tryd.func55 rfl (by kernel_rfl) (by kernel_rfl) (Nat.le_of_ble_eq_true rfl) ?_
  refine callP hR rfl rfl ?_
  refine forkD (fun q => absurd (show (50 : Int) < (d.size : Int) from q) (by omega)) (fun q => ?_)
  refine callH (H' := [.row [i64 (g : Nat), i64 (ix : Nat), i64 (l : Nat), i64 (p : Nat), i64 (n : Nat)], .dead, .row (r1.map u8)]) p1 [1] rfl ⟨.inl rfl, True.intro⟩ rfl rfl (by simp only [renH, renO_y8]; rfl) ?_
  refine callH (H' := [.row [i64 (g : Nat), i64 (ix : Nat), i64 (l : Nat), i64 (p : Nat), i64 (n : Nat)], .dead, .dead, .row (r2.map u8)]) p2 [2] rfl ⟨.inl (by rw [renO_y8]; rfl), True.intro⟩ rfl rfl (by simp only [renH, renO_y8]; rfl) ?_
  refine callH (H' := [.row [i64 (g : Nat), i64 (ix : Nat), i64 (l : Nat), i64 (p : Nat), i64 (n : Nat)], .dead, .dead, .dead, .row (r3.map u8)]) p3 [3] rfl ⟨.inl (by rw [renO_y8]; rfl), True.intro⟩ rfl rfl (by simp only [renH, renO_y8]; rfl) ?_
  refine Ob.intro (show allC [.sc _, .sc _, .sc _] = true from rfl) ?_
  have l3 : (r3.map u8).length = 11 := by rw [List.length_map, b3]
  refine optK_intro (rdN_all rfl (show (7 + 4) * 1 = (r3.map u8).length by rw [l3])) ?_
  refine Ob.intro (show (7 + 4 + 3) * 1 ≤ 140737488355328 ∧ 7 + 4 + 3 ≤ 9223372036854775807 by decide) ?_
  have hC : ∀ a b c : Int, (r3.map u8 ++ [AV.sc (.int .u8 a), .sc (.int .u8 b), .sc (.int .u8 c)]).length = 14 := fun a b c => by rw [List.length_append, l3]; rfl
  have hB : allC (bytesA d) = true := by rw [bytesA_y8]; exact allC_y8 _
  refine Ob.intro hB ?_
  refine optK_intro (rdN_all rfl (show (7 + 4 + 3) * 1 = (r3.map u8 ++ [AV.sc (.int .u8 (wrp .u8 (p : Int))), .sc (.int .u8 (wrp .u8 (n : Int))), .sc (.int .u8 (wrp .u8 (d.size : Int)))]).length by rw [hC])) ?_
  refine Ob.intro (show (7 + 4 + 3 + d.size) * 1 ≤ 140737488355328 ∧ 7 + 4 + 3 + d.size ≤ 9223372036854775807 by omega) ?_
  have hw : wrp .i64 (64 - ((7 + 4 + 3 + d.size : Nat) : Int)) = ((50 - d.size : Nat) : Int) := by rw [wrpE, wi64]; omega
  refine Ob.intro (show (0 : Int) ≤ wrp .i64 (64 - ((7 + 4 + 3 + d.size : Nat) : Int)) ∧ wrp .i64 (64 - ((7 + 4 + 3 + d.size : Nat) : Int)) ≤ 140737488355328 ∧ wrp .i64 (64 - ((7 + 4 + 3 + d.size : Nat) : Int)) * (1 : Nat) ≤ 140737488355328 by rw [hw]; omega) ?_
  have hD : ∀ a b c : Int, ((r3.map u8 ++ [AV.sc (.int .u8 a), .sc (.int .u8 b), .sc (.int .u8 c)]) ++ bytesA d).length = 14 + d.size := fun a b c => by rw [List.length_append, hC, bytesA_y8, List.length_map, byL_leny]
  refine optK_intro (rdN_all rfl (show (7 + 4 + 3 + d.size) * 1 = ((r3.map u8 ++ [AV.sc (.int .u8 (wrp .u8 (p : Int))), .sc (.int .u8 (wrp .u8 (n : Int))), .sc (.int .u8 (wrp .u8 (d.size : Int)))]) ++ bytesA d).length by rw [hD]; omega)) ?_
  refine Ob.intro (show (7 + 4 + 3 + d.size + (wrp .i64 (64 - ((7 + 4 + 3 + d.size : Nat) : Int))).toNat) * 1 ≤ 140737488355328 ∧ 7 + 4 + 3 + d.size + (wrp .i64 (64 - ((7 + 4 + 3 + d.size : Nat) : Int))).toNat ≤ 9223372036854775807 by rw [hw]; omega) ?_
  have hE : ((r3.map u8 ++ [AV.sc (.int .u8 (wrp .u8 (p : Int))), .sc (.int .u8 (wrp .u8 (n : Int))), .sc (.int .u8 (wrp .u8 (d.size : Int)))]) ++ bytesA d) ++ zerosA ti5.zero (wrp .i64 (64 - ((7 + 4 + 3 + d.size : Nat) : Int))).toNat = ((headL g ix l p n d.size ++ byLy d) ++ List.replicate (50 - d.size) 0).map u8 := by
    rw [hw, Int.toNat_natCast, zeros_y8, bytesA_y8, w1, w2, w3, hh, List.map_append, List.map_append, List.map_append]
    rfl
  have hF : (((r3.map u8 ++ [AV.sc (.int .u8 (wrp .u8 (p : Int))), .sc (.int .u8 (wrp .u8 (n : Int))), .sc (.int .u8 (wrp .u8 (d.size : Int)))]) ++ bytesA d) ++ zerosA ti5.zero (wrp .i64 (64 - ((7 + 4 + 3 + d.size : Nat) : Int))).toNat).length = 64 := by
    rw [hE, List.length_map, List.length_append, List.length_append, List.length_replicate, byL_leny, hh, List.length_append, b3]
    show 11 + 3 + d.size + (50 - d.size) = 64
    omega
  have hG : rdN [.row [i64 (g : Nat), i64 (ix : Nat), i64 (l : Nat), i64 (p : Nat), i64 (n : Nat)], .dead, .dead, .dead, .dead, .row [AV.sc (.int .u8 (wrp .u8 (p : Int))), .sc (.int .u8 (wrp .u8 (n : Int))), .sc (.int .u8 (wrp .u8 (d.size : Int)))], .dead, .dead, .row (((r3.map u8 ++ [AV.sc (.int .u8 (wrp .u8 (p : Int))), .sc (.int .u8 (wrp .u8 (n : Int))), .sc (.int .u8 (wrp .u8 (d.size : Int)))]) ++ bytesA d) ++ zerosA ti5.zero (wrp .i64 (64 - ((7 + 4 + 3 + d.size : Nat) : Int))).toNat)] 8 0 ((7 + 4 + 3 + d.size + (wrp .i64 (64 - ((7 + 4 + 3 + d.size : Nat) : Int))).toNat) * 1) = some (((r3.map u8 ++ [AV.sc (.int .u8 (wrp .u8 (p : Int))), .sc (.int .u8 (wrp .u8 (n : Int))), .sc (.int .u8 (wrp .u8 (d.size : Int)))]) ++ bytesA d) ++ zerosA ti5.zero (wrp .i64 (64 - ((7 + 4 + 3 + d.size : Nat) : Int))).toNat) := rdN_all rfl (by rw [hF, hw]; omega)
  refine optK_intro (a := ((r3.map u8 ++ [AV.sc (.int .u8 (wrp .u8 (p : Int))), .sc (.int .u8 (wrp .u8 (n : Int))), .sc (.int .u8 (wrp .u8 (d.size : Int)))]) ++ bytesA d) ++ zerosA ti5.zero (wrp .i64 (64 - ((7 + 4 + 3 + d.size : Nat) : Int))).toNat) hG ?_
  refine optK_intro (a := ((headL g ix l p n d.size ++ byLy d) ++ List.replicate (50 - d.size) 0).map UInt8.ofNat) (by rw [hE]; exact textA_y8 _) ?_
  rw [hh]
  refine endG rfl rfl rfl (G := []) True.intro (Nat.zero_le _) rfl ⟨rfl, rfl⟩
end Go.Proofs.YthbncljlclcecaaDoor.A

namespace Go.Proofs.YthbncljlclcecaaDoor.A
open Go
set_option linter.unusedVariables false
set_option maxRecDepth 100000
set_option pp.maxSteps 1500

def countP (n : Int) : Int := if n < 0 then 0 else if n ≤ 50 then 1 else (n - 1) / 50 + 1
theorem count_ok (n : Int) (h0 : -9223372036854775808 ≤ n) (h1 : n ≤ 9223372036854775807) : ACalls Tryd.prog 54 [i64 n] [] (Ret (i64 (countP n))) := by
  refine acalls_of_awp hT mixed Tryd.func54 rfl (by kernel_rfl) (by kernel_rfl) (Nat.le_of_ble_eq_true rfl) ?_
  refine forkD (fun h => ?_) (fun h => ?_)
  · refine end0 rfl rfl rfl (congrArg i64 ?_)
    rw [countP, if_pos h]
  · refine Ob.intro (by decide) ?_
    refine end0 rfl rfl rfl (congrArg i64 ?_)
    show (if wrp .i64 (wrp .i64 ((wrp .i64 (n - 1)).tdiv 50) + 1) > 1 then wrp .i64 (wrp .i64 ((wrp .i64 (n - 1)).tdiv 50) + 1) else 1) = _
    rw [countP, if_neg h]
    have e1 : wrp .i64 (n - 1) = n - 1 := by rw [wrpE, wi64]; omega
    rw [e1]
    by_cases h2 : n ≤ 50
    · rw [if_pos h2]
      have e2 : (n - 1).tdiv 50 = 0 := by
        rcases Int.lt_or_le (n - 1) 0 with h3 | h3
        · have : n - 1 = -1 := by omega
          rw [this]
          rfl
        · rw [Int.tdiv_eq_ediv_of_nonneg h3]
          omega
      rw [e2]
      have e3 : wrp .i64 (0 : Int) = 0 := by rw [wrpE, wi64]; omega
      rw [e3]
      have e4 : wrp .i64 ((0 : Int) + 1) = 1 := by rw [wrpE, wi64]; omega
      rw [e4]
      rfl
    · rw [if_neg h2, Int.tdiv_eq_ediv_of_nonneg (by omega)]
      have e3 : wrp .i64 ((n - 1) / 50) = (n - 1) / 50 := by rw [wrpE, wi64]; omega
      rw [e3]
      have e4 : wrp .i64 ((n - 1) / 50 + 1) = (n - 1) / 50 + 1 := by rw [wrpE, wi64]; omega
      rw [e4, if_pos (by omega)]
theorem packS_size (g ix l p n : Nat) (d : ByteArray) (hd : d.size ≤ 50) : (packS g ix l p n d).size = 64 := by
  show ((packL g ix l p n d).map UInt8.ofNat).toArray.size = 64
  unfold packL headL
  simp only [List.size_toArray, List.length_map, List.length_append, beL_len, byL_leny, List.length_replicate, List.length_cons, List.length_nil]
  omega
end Go.Proofs.YthbncljlclcecaaDoor.A

namespace Go.Proofs.YthbncljlclcecaaDoor.A
open Go
set_option linter.unusedVariables false
set_option maxRecDepth 100000
set_option pp.maxSteps 1500

def gU (s : ByteArray) (i j : Nat) : Nat := valL (s.extract i j).data.toList
/-- A stamp's sector. -/
structure OkU (s : ByteArray) (m : Nat) : Prop where
  h64 : s.size = 64
  h0 : atL s 0 = 193
  hR : okS ⟨gU s 1 5, gU s 5 7, gU s 7 11, gU s 11 12, gU s 12 13⟩
  hm : m = gU s 13 14
  hn : m ≤ 50
  hz : ∀ i, i < (s.extract (14 + m) 64).size → atL (s.extract (14 + m) 64) i = 0
theorem get_at (s : ByteArray) (i j : Nat) (h64 : s.size = 64) (h : j ≤ i + 4) : ACalls Tryd.prog 60 [str (s.extract i j)] [] (Ret (i64 (gU s i j : Nat))) :=
  get_ok _ (by rw [ByteArray.size_extract]; omega)
theorem unpackU (s : ByteArray) : (∃ m, OkU s m ∧ ACalls Tryd.prog 50 [str s] [] (Ret (.tup [stA ⟨gU s 1 5, gU s 5 7, gU s 7 11, gU s 11 12, gU s 12 13⟩, str (s.extract 14 (14 + m)), i64 0]))) ∨ ((¬ ∃ m, OkU s m) ∧ ACalls Tryd.prog 50 [str s] [] (Ret (.tup [stA stpZ, str emp, i64 4]))) := by
  by_cases h64 : s.size = 64
  · by_cases h0 : atL s 0 = 193
    · have hr := sRight_ok ⟨gU s 1 5, gU s 5 7, gU s 7 11, gU s 11 12, gU s 12 13⟩
      have c1 := get_at s 1 5 h64 (by decide)
      have c2 := get_at s 5 7 h64 (by decide)
      have c3 := get_at s 7 11 h64 (by decide)
      have c4 := get_at s 11 12 h64 (by decide)
      have c5 := get_at s 12 13 h64 (by decide)
      have c6 := get_at s 13 14 h64 (by decide)
      by_cases hR : okS ⟨gU s 1 5, gU s 5 7, gU s 7 11, gU s 11 12, gU s 12 13⟩
      · rw [decide_eq_true hR] at hr
        by_cases hn : gU s 13 14 ≤ 50
        · by_cases hz : ∀ i, i < (s.extract (14 + gU s 13 14) 64).size → atL (s.extract (14 + gU s 13 14) 64) i = 0
          · exact .inl ⟨_, ⟨h64, h0, hR, rfl, hn, hz⟩, unpack_yes s h64 h0 _ _ _ _ _ _ c1 c2 c3 c4 c5 c6 hr hn hz⟩
          · exact .inr ⟨fun ⟨m, o⟩ => hz (o.hm ▸ o.hz), unpack_rest s h64 h0 _ _ _ _ _ _ c1 c2 c3 c4 c5 c6 hr hn hz⟩
        · exact .inr ⟨fun ⟨m, o⟩ => hn (o.hm ▸ o.hn), unpack_long s h64 h0 _ _ _ _ _ _ c1 c2 c3 c4 c5 c6 hr (by omega)⟩
      · rw [decide_eq_false hR] at hr
        exact .inr ⟨fun ⟨m, o⟩ => hR o.hR, unpack_bad s h64 h0 _ _ _ _ _ _ c1 c2 c3 c4 c5 c6 hr⟩
    · exact .inr ⟨fun ⟨m, o⟩ => h0 o.h0, unpack_mark s h64 h0⟩
  · exact .inr ⟨fun ⟨m, o⟩ => h64 o.h64, unpack_len s h64⟩
end Go.Proofs.YthbncljlclcecaaDoor.A
