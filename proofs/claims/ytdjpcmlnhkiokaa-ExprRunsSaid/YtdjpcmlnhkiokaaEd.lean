/- expr: a step that may go wrong. No condition. -/
import Derived.Test.YtdjpcmlnhkiokaaEc
namespace Go.Proofs.Ytdjpcmlnhkiokaa.A
open Go
set_option linter.unusedVariables false
set_option maxRecDepth 100000
set_option pp.maxSteps 1500

/-- A stack, its row the object k. -/
def stP (k n : Nat) (l : List Nat) : Heap := .row [.slc k 0 n 1] :: (List.replicate (k - 1) .dead ++ [.row (l.map fl)])
def TryR (o : Option (List Nat)) (s : List Nat) : AEnd → Heap → Prop := fun E G => match o with
  | some L => E = .ret (bo true) ∧ ∃ l n, n ≤ l.length ∧ l.take n = L ∧ (G = stP 1 n l ∨ G = stP 10 n l ∨ G = stP 12 n l)
  | none => E = .ret (bo false) ∧ G = stP 6 s.length s
theorem plain_odd : ∀ u b, AM.pan oddV false = .pan u b → plain u = true := fun u b h => by cases h; rfl
theorem renH_st4 (r : Nat → Nat) (n : Nat) (l : List Nat) : renH r (stS4 n l) = [.row [.slc (r 4) 0 n 1], .dead, .dead, .dead, .row (l.map fl)] := by simp only [stS4, renH, renO_fl]; rfl
theorem renH_st6 (r : Nat → Nat) (n : Nat) (l : List Nat) : renH r (stS6 n l) = [.row [.slc (r 6) 0 n 1], .dead, .dead, .dead, .dead, .dead, .row (l.map fl)] := by simp only [stS6, renH, renO_fl]; rfl
theorem try_ok (op : Int) (own x n : Nat) (l : List Nat) (h8 : n ≤ 8) (hn : n ≤ l.length) (hc : ∀ b ∈ l.take n, b < 18446744073709551616 ∧ bitsB b = b) (hop : 1 ≤ op ∧ op ≤ 16) :
    ACalls Try.prog 28 [.ptr 0 0, .agg [i64 op, u64 own], fl x] (stH n l) (TryR (stepS op own x (l.take n)) (l.take n)) := by
  have hs := step_ok op own x n l h8 hn hc hop
  have hr : ∀ G : Heap, rdN (.row [.slc 1 0 n 1] :: .row (l.map fl) :: G) 1 0 (n * 1) = some ((l.take n).map fl) := fun G => by
    rw [rdN_eq (cs := l.map fl) rfl (by rw [List.length_map]; omega), List.drop_zero, Nat.mul_one, List.map_take]
  refine acalls_of_awpU [] hT mixed Try.func28 rfl (by kernel_rfl) (by kernel_rfl) (Nat.le_of_ble_eq_true rfl) ?_
  refine optK_intro (hr [.row [.ptr 0 0], .row [i64 op, u64 own], .row [bo false], .row []]) ?_
  refine Ob.intro (allC_fl _) ?_
  refine Ob.intro (show (0 + n) * 8 ≤ 140737488355328 ∧ 0 + n ≤ 9223372036854775807 by omega) ?_
  refine callS hs [0, 1] ⟨.inl rfl, .inl (by rw [renO_fl]; rfl), True.intro⟩ rfl ?_
  intro E G hR _
  have hlen : (l.take n).length = n := by rw [List.length_take]; omega
  have hz : (0 + n) = n := Nat.zero_add n
  cases hq : stepS op own x (l.take n) with
  | none =>
    rw [hq] at hR
    have key : TryR none (l.take n) (.ret (bo false)) [.row [.slc 6 0 (0 + n) 1], .dead, .dead, .dead, .dead, .dead, .row ((l.take n).map fl)] := ⟨rfl, by rw [hlen, hz]; rfl⟩
    have hb : belowH 8 [.row [.slc 6 0 (0 + n) 1], .dead, .dead, .dead, .row [bo false], .dead, .row ((l.take n).map fl), .dead] = true := by
      simp only [belowH, belowO, belowL_fl]
      rfl
    have hb' : belowH 11 [.row [.slc 6 0 (0 + n) 1], .dead, .dead, .dead, .row [bo false], .dead, .row ((l.take n).map fl), .dead, .dead, .dead, .dead] = true := by
      simp only [belowH, belowO, belowL_fl]
      rfl
    have hb2 : belowH 7 [.row [.slc 6 0 (0 + n) 1], .dead, .dead, .dead, .dead, .dead, .row ((l.take n).map fl)] = true := by
      simp only [belowH, belowO, belowL_fl]
      rfl
    obtain ⟨rfl, k, rfl | rfl⟩ := hR
    · refine ⟨_, _, rfl, rfl, ?_⟩
      refine acallsD_of_rec hT mixed Try.func33 rfl (by kernel_rfl) (by kernel_rfl) rfl rfl rfl plain_odd (Nat.le_of_ble_eq_true rfl) ?_
      refine ⟨rfl, [.row [.slc 6 0 (0 + n) 1], .dead, .dead, .dead, .row [bo false], .dead, .row ((l.take n).map fl), .dead], _, ⟨⟨_, rfl, rfl⟩, ⟨.inl rfl, .inl rfl, .inr rfl, .inr rfl, .inl rfl, .inl rfl, .inl rfl, .inr rfl, True.intro⟩, (show 8 ≤ 8 by decide), hb⟩, True.intro, [.row [.slc 6 0 (0 + n) 1], .dead, .dead, .dead, .dead, .dead, .row ((l.take n).map fl)], _, ⟨⟨_, rfl, rfl⟩, ⟨.inl rfl, .inl rfl, .inl rfl, .inl rfl, .inr rfl, .inl rfl, .inl rfl, True.intro⟩, (show 2 ≤ 7 by decide), hb2⟩, key⟩
    · refine ⟨_, _, rfl, rfl, ?_⟩
      refine acallsD_of_rec hT mixed Try.func33 rfl (by kernel_rfl) (by kernel_rfl) rfl rfl rfl plain_odd (Nat.le_of_ble_eq_true rfl) ?_
      refine ⟨rfl, [.row [.slc 6 0 (0 + n) 1], .dead, .dead, .dead, .row [bo false], .dead, .row ((l.take n).map fl), .dead, .dead, .dead, .dead], _, ⟨⟨_, rfl, rfl⟩, ⟨.inl rfl, .inl rfl, .inr rfl, .inr rfl, .inl rfl, .inl rfl, .inl rfl, .inr rfl, .inl rfl, .inl rfl, .inl rfl, True.intro⟩, (show 11 ≤ 11 by decide), hb'⟩, True.intro, [.row [.slc 6 0 (0 + n) 1], .dead, .dead, .dead, .dead, .dead, .row ((l.take n).map fl)], _, ⟨⟨_, rfl, rfl⟩, ⟨.inl rfl, .inl rfl, .inl rfl, .inl rfl, .inr rfl, .inl rfl, .inl rfl, True.intro⟩, (show 2 ≤ 7 by decide), hb2⟩, key⟩
  | some L =>
    rw [hq] at hR
    obtain ⟨rfl, l', n', h1, h2, rfl | rfl | rfl⟩ := hR
    · have hb : belowH 8 [.row [.slc 1 0 n' 1], .row (l'.map fl), .dead, .dead, .row [bo true], .dead, .dead, .dead] = true := by
        simp only [belowH, belowO, belowL_fl]
        rfl
      have hb2 : belowH 2 [.row [.slc 1 0 n' 1], .row (l'.map fl)] = true := by
        simp only [belowH, belowO, belowL_fl]
        rfl
      refine ⟨_, [.row [.slc 1 0 n' 1], .row (l'.map fl), .row [.ptr 0 0], .row [i64 op, u64 own], .row [bo false], .dead, .row ((l.take n).map fl), .row [.slc 6 0 (0 + n) 1]], rfl, by rw [renH_st]; rfl, ?_⟩
      refine acallsD_of_rec hT mixed Try.func33 rfl (by kernel_rfl) (by kernel_rfl) rfl rfl rfl (fun u b h => by cases h) (Nat.le_of_ble_eq_true rfl) ?_
      refine ⟨rfl, [.row [.slc 1 0 n' 1], .row (l'.map fl), .dead, .dead, .row [bo true], .dead, .dead, .dead], _, ⟨⟨_, rfl, rfl⟩, ⟨.inl rfl, .inl rfl, .inr rfl, .inr rfl, .inl rfl, .inl rfl, .inr rfl, .inr rfl, True.intro⟩, (show 8 ≤ 8 by decide), hb⟩, True.intro, [.row [.slc 1 0 n' 1], .row (l'.map fl)], _, ⟨⟨_, rfl, rfl⟩, ⟨.inl rfl, .inl rfl, True.intro⟩, (show 2 ≤ 2 by decide), hb2⟩, rfl, l', n', h1, h2, .inl rfl⟩
    · have hb : belowH 11 [.row [.slc 10 0 n' 1], .dead, .dead, .dead, .row [bo true], .dead, .dead, .dead, .dead, .dead, .row (l'.map fl)] = true := by
        simp only [belowH, belowO, belowL_fl]
        rfl
      have hb2 : belowH 11 [.row [.slc 10 0 n' 1], .dead, .dead, .dead, .dead, .dead, .dead, .dead, .dead, .dead, .row (l'.map fl)] = true := by
        simp only [belowH, belowO, belowL_fl]
        rfl
      refine ⟨_, [.row [.slc 10 0 n' 1], .dead, .row [.ptr 0 0], .row [i64 op, u64 own], .row [bo false], .dead, .row ((l.take n).map fl), .row [.slc 6 0 (0 + n) 1], .dead, .dead, .row (l'.map fl)], rfl, by rw [renH_st4]; rfl, ?_⟩
      refine acallsD_of_rec hT mixed Try.func33 rfl (by kernel_rfl) (by kernel_rfl) rfl rfl rfl (fun u b h => by cases h) (Nat.le_of_ble_eq_true rfl) ?_
      refine ⟨rfl, [.row [.slc 10 0 n' 1], .dead, .dead, .dead, .row [bo true], .dead, .dead, .dead, .dead, .dead, .row (l'.map fl)], _, ⟨⟨_, rfl, rfl⟩, ⟨.inl rfl, .inl rfl, .inr rfl, .inr rfl, .inl rfl, .inl rfl, .inr rfl, .inr rfl, .inl rfl, .inl rfl, .inl rfl, True.intro⟩, (show 11 ≤ 11 by decide), hb⟩, True.intro, [.row [.slc 10 0 n' 1], .dead, .dead, .dead, .dead, .dead, .dead, .dead, .dead, .dead, .row (l'.map fl)], _, ⟨⟨_, rfl, rfl⟩, ⟨.inl rfl, .inl rfl, .inl rfl, .inl rfl, .inr rfl, .inl rfl, .inl rfl, .inl rfl, .inl rfl, .inl rfl, .inl rfl, True.intro⟩, (show 2 ≤ 11 by decide), hb2⟩, rfl, l', n', h1, h2, .inr (.inl rfl)⟩
    · have hb : belowH 13 [.row [.slc 12 0 n' 1], .dead, .dead, .dead, .row [bo true], .dead, .dead, .dead, .dead, .dead, .dead, .dead, .row (l'.map fl)] = true := by
        simp only [belowH, belowO, belowL_fl]
        rfl
      have hb2 : belowH 13 [.row [.slc 12 0 n' 1], .dead, .dead, .dead, .dead, .dead, .dead, .dead, .dead, .dead, .dead, .dead, .row (l'.map fl)] = true := by
        simp only [belowH, belowO, belowL_fl]
        rfl
      refine ⟨_, [.row [.slc 12 0 n' 1], .dead, .row [.ptr 0 0], .row [i64 op, u64 own], .row [bo false], .dead, .row ((l.take n).map fl), .row [.slc 6 0 (0 + n) 1], .dead, .dead, .dead, .dead, .row (l'.map fl)], rfl, by rw [renH_st6]; rfl, ?_⟩
      refine acallsD_of_rec hT mixed Try.func33 rfl (by kernel_rfl) (by kernel_rfl) rfl rfl rfl (fun u b h => by cases h) (Nat.le_of_ble_eq_true rfl) ?_
      refine ⟨rfl, [.row [.slc 12 0 n' 1], .dead, .dead, .dead, .row [bo true], .dead, .dead, .dead, .dead, .dead, .dead, .dead, .row (l'.map fl)], _, ⟨⟨_, rfl, rfl⟩, ⟨.inl rfl, .inl rfl, .inr rfl, .inr rfl, .inl rfl, .inl rfl, .inr rfl, .inr rfl, .inl rfl, .inl rfl, .inl rfl, .inl rfl, .inl rfl, True.intro⟩, (show 13 ≤ 13 by decide), hb⟩, True.intro, [.row [.slc 12 0 n' 1], .dead, .dead, .dead, .dead, .dead, .dead, .dead, .dead, .dead, .dead, .dead, .row (l'.map fl)], _, ⟨⟨_, rfl, rfl⟩, ⟨.inl rfl, .inl rfl, .inl rfl, .inl rfl, .inr rfl, .inl rfl, .inl rfl, .inl rfl, .inl rfl, .inl rfl, .inl rfl, .inl rfl, .inl rfl, True.intro⟩, (show 2 ≤ 13 by decide), hb2⟩, rfl, l', n', h1, h2, .inr (.inr rfl)⟩
end Go.Proofs.Ytdjpcmlnhkiokaa.A
