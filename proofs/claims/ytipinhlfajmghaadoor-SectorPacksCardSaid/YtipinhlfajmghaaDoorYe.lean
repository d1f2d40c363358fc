/- sector: put. No condition. -/
import Derived.Test.YtipinhlfajmghaaDoorYd
namespace Go.Proofs.YtipinhlfajmghaaDoor.A
open Go
set_option linter.unusedVariables false
set_option maxRecDepth 100000
set_option pp.maxSteps 1500

/-- The first j of so many bytes of a number, the highest first. -/
def beL (n size j : Nat) : List Nat := (List.range j).map fun t => n / 256 ^ (size - 1 - t) % 256
theorem beL_succ (n size j : Nat) : beL n size (j + 1) = beL n size j ++ [n / 256 ^ (size - 1 - j) % 256] := by
  unfold beL
  rw [List.range_succ, List.map_append]
  rfl
theorem beL_len (n size j : Nat) : (beL n size j).length = j := by simp [beL]
def pRow (l : List Nat) (n size : Nat) : Nat → Heap
  | 0 => [.row (l.map u8)]
  | j + 1 => [.dead, .row ((l ++ beL n size (j + 1)).map u8)]
def pSl (l : List Nat) : Nat → AV
  | 0 => .slc 0 0 l.length 1
  | j + 1 => .slc 1 0 (l.length + (j + 1)) 1
theorem renL_u8 (r : Nat → Nat) (l : List Nat) : renL r (l.map u8) = l.map u8 := renL_map (fun _ _ => rfl) r l
theorem renO_u8 (r : Nat → Nat) (l : List Nat) : renO r (.row (l.map u8)) = .row (l.map u8) := by simp only [renO, renL_u8]
theorem allC_u8 : ∀ l : List Nat, allC (l.map u8) = true
  | [] => rfl
  | x :: l => by
    show (bif isC (u8 x) then allC (l.map u8) else false) = true
    rw [allC_u8 l]
    rfl
theorem belowL_u8 (m : Nat) : ∀ l : List Nat, belowL m (l.map u8) = true
  | [] => rfl
  | x :: l => belowL_u8 m l
theorem put_ok (l : List Nat) (n size : Nat) (hn : n < 4294967296) (h1 : 1 ≤ size) (h4 : size ≤ 4) (hl : l.length ≤ 64) :
    ACalls Tryd.prog 14 [.slc 0 0 l.length 1, i64 n, i64 size] [.row (l.map u8)] (RetH (.slc 1 0 (l.length + size) 1) [.dead, .row ((l ++ beL n size size).map u8)]) := by
  have hw0 : wrp .i64 ((size : Int) - 1) = ((size - 1 : Nat) : Int) := by rw [wrpE, wi64]; omega
  refine acalls_of_awp hT mixed Tryd.func14 rfl (by kernel_rfl) (by kernel_rfl) (Nat.le_of_ble_eq_true rfl) ?_
  refine loopI (α := { x : Nat × Int // x.1 ≤ size ∧ x.2 = (size : Int) - 1 - (x.1 : Int) }) (fun x => [(0, pSl l x.val.1), (1, i64 n), (7, i64 x.val.2)]) (fun x => pRow l n size x.val.1) (fun x => size - x.val.1) ⟨(0, wrp .i64 ((size : Int) - 1)), Nat.zero_le _, by rw [hw0]; show _ = (size : Int) - 1 - ((0 : Nat) : Int); omega⟩ [0] ⟨⟨rfl, rfl, rfl, True.intro⟩, ⟨.inl (by show _ = some (renO _ (.row (l.map u8))); rw [renO_u8]; rfl), True.intro⟩, rfl, rfl, rfl⟩ ?_
  rintro ⟨⟨j, w⟩, hj, hw⟩ K hK
  have hj2 : j ≤ size := hj
  have hw2 : w = (size : Int) - 1 - (j : Int) := hw
  have hdec : wrp .i64 (w - 1) = (size : Int) - 1 - ((j + 1 : Nat) : Int) := by rw [wrpE, wi64]; omega
  have hv : 0 ≤ w → wrp .u8 (hd ((n : Int).fdiv (2 ^ min (wrp .i64 (8 * w)).toNat IntKind.i64.bits))) = ((n / 256 ^ (size - 1 - j) % 256 : Nat) : Int) := fun g' => by
    have hm : wrp .i64 (8 * w) = ((8 * (size - 1 - j) : Nat) : Int) := by rw [wrpE, wi64]; omega
    have hb : IntKind.i64.bits = 64 := rfl
    rw [hm, Int.toNat_natCast, hb, Nat.min_eq_left (by omega), hd_eq]
    have hp : (2 : Int) ^ (8 * (size - 1 - j)) = ((256 ^ (size - 1 - j) : Nat) : Int) := by
      rw [show (256 : Nat) = 2 ^ 8 from rfl, ← Nat.pow_mul, Int.natCast_pow]
      rfl
    rw [hp, Int.fdiv_eq_ediv_of_nonneg _ (Int.natCast_nonneg _)]
    show wrp .u8 ((n / 256 ^ (size - 1 - j) : Nat) : Int) = _
    rw [wrpE, wu8]
    rfl
  have hsh : 0 ≤ w → (0 : Int) ≤ wrp .i64 (8 * w) := fun g' => by rw [wrpE, wi64]; omega
  have hbe := beL_succ n size j
  generalize n / 256 ^ (size - 1 - j) % 256 = z at *
  cases j with
  | zero =>
    refine forkD (fun g => ?_) (fun g => absurd (show (0 : Int) ≤ w by omega) g)
    have g' : (0 : Int) ≤ w := g
    refine Ob.intro (hsh g') ?_
    refine Ob.intro (show allC [.sc _] = true from rfl) ?_
    refine optK_intro (rdN_all rfl (show l.length * 1 = (l.map u8).length by rw [List.length_map]; omega)) ?_
    refine Ob.intro (show (l.length + 1) * 1 ≤ 140737488355328 ∧ l.length + 1 ≤ 9223372036854775807 by omega) ?_
    refine hK ⟨(1, wrp .i64 (w - 1)), by show 1 ≤ size; omega, hdec⟩ [0, 2] _ (show size - 0 = size - 1 + 1 by omega) ⟨⟨rfl, rfl, rfl, True.intro⟩, ⟨.inr ⟨rfl, (show 0 < 3 by decide)⟩, .inl ?_, True.intro⟩, rfl, rfl, rfl⟩
    show some (AObj.row (l.map u8 ++ [.sc (.int .u8 (wrp .u8 (hd ((n : Int).fdiv (2 ^ min (wrp .i64 (8 * w)).toNat IntKind.i64.bits)))))])) = some (renO _ (.row ((l ++ beL n size 1).map u8)))
    rw [hv g', renO_u8, hbe, List.map_append, List.map_append]
    rfl
  | succ j =>
    refine forkD (fun g => ?_) (fun g => ?_)
    · have g' : (0 : Int) ≤ w := g
      refine Ob.intro (hsh g') ?_
      refine Ob.intro (show allC [.sc _] = true from rfl) ?_
      refine optK_intro (rdN_all rfl (show (l.length + (j + 1)) * 1 = ((l ++ beL n size (j + 1)).map u8).length by rw [List.length_map, List.length_append, beL_len]; omega)) ?_
      refine Ob.intro (show (l.length + (j + 1) + 1) * 1 ≤ 140737488355328 ∧ l.length + (j + 1) + 1 ≤ 9223372036854775807 by omega) ?_
      refine hK ⟨(j + 1 + 1, wrp .i64 (w - 1)), by show j + 1 + 1 ≤ size; omega, hdec⟩ [0, 3] _ (show size - (j + 1) = size - (j + 1 + 1) + 1 by omega) ⟨⟨rfl, rfl, rfl, True.intro⟩, ⟨.inr ⟨rfl, (show 0 < 4 by decide)⟩, .inl ?_, True.intro⟩, rfl, rfl, rfl⟩
      show some (AObj.row ((l ++ beL n size (j + 1)).map u8 ++ [.sc (.int .u8 (wrp .u8 (hd ((n : Int).fdiv (2 ^ min (wrp .i64 (8 * w)).toNat IntKind.i64.bits)))))])) = some (renO _ (.row ((l ++ beL n size (j + 1 + 1)).map u8)))
      rw [hv g', renO_u8, hbe, ← List.append_assoc, List.map_append, List.map_append, List.map_append]
      rfl
    · have g' : ¬ (0 : Int) ≤ w := g
      have hjs : j + 1 = size := by omega
      subst hjs
      refine endH rfl rfl rfl ⟨.inl rfl, .inl rfl, True.intro⟩ (show 1 ≤ 2 by decide) ?_ rfl
      simp only [List.length_cons, List.length_nil, belowH, belowO, belowL_u8]
      rfl
end Go.Proofs.YtipinhlfajmghaaDoor.A
