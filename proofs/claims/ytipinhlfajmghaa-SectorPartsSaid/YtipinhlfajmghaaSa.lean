/- The functions of sector. No condition. -/
import Derived.Test.YtipinhlfajmghaaAmT
import Derived.Test.YtipinhlfajmghaaAm18
namespace Go.Proofs.Ytipinhlfajmghaa.A
open Go
set_option linter.unusedVariables false
set_option maxRecDepth 100000
set_option pp.maxSteps 1500

def i64 (n : Int) : AV := .sc (.int .i64 n)
def bo (b : Bool) : AV := .sc (.bool b)
def str (s : ByteArray) : AV := .sc (.string s)
def u8s (l : List Int) : List AV := l.map fun n => .sc (.int .u8 n)
theorem renL_u8s (r : Nat → Nat) : ∀ l : List Int, renL r (u8s l) = u8s l
  | [] => rfl
  | n :: l => by simp only [u8s, List.map_cons, renL, ren]; exact congrArg _ (renL_u8s r l)
theorem allC_u8s : ∀ l : List Int, allC (u8s l) = true
  | [] => rfl
  | n :: l => allC_u8s l
theorem u8s_append (l m : List Int) : u8s l ++ u8s m = u8s (l ++ m) := by simp [u8s]
theorem u8s_length (l : List Int) : (u8s l).length = l.length := by simp [u8s]

theorem within_ok (n a b : Int) : ACalls Try.prog 11 [i64 n, i64 a, i64 b] [] (Ret (bo (decide (a ≤ n ∧ n ≤ b)))) := by
  refine acalls_of_awp hT mixed Try.func11 rfl (by kernel_rfl) (by kernel_rfl) (Nat.le_of_ble_eq_true rfl) ?_
  refine forkD (fun h => ?_) (fun h => ?_)
  · refine forkD (fun h1 => ?_) (fun h1 => ?_)
    · refine end0 rfl rfl rfl (congrArg bo (decide_eq_true ⟨h, h1⟩).symm)
    · refine end0 rfl rfl rfl (congrArg bo (decide_eq_false fun g => h1 g.2).symm)
  · refine end0 rfl rfl rfl (congrArg bo (decide_eq_false fun g => h g.1).symm)
def countP (n : Int) : Int := if n < 0 then 0 else if n ≤ 50 then 1 else (n - 1) / 50 + 1
theorem count_ok (n : Int) (h0 : -9223372036854775808 ≤ n) (h1 : n ≤ 9223372036854775807) : ACalls Try.prog 7 [i64 n] [] (Ret (i64 (countP n))) := by
  refine acalls_of_awp hT mixed Try.func7 rfl (by kernel_rfl) (by kernel_rfl) (Nat.le_of_ble_eq_true rfl) ?_
  refine forkD (fun h => ?_) (fun h => ?_)
  · refine end0 rfl rfl rfl (congrArg i64 ?_)
    rw [countP, if_pos h]
  · refine Ob.intro (by decide) ?_
    refine end0 rfl rfl rfl (congrArg i64 ?_)
    show (if wrp .i64 (wrp .i64 ((wrp .i64 (n - 1)).tdiv 50) + 1) > 1 then wrp .i64 (wrp .i64 ((wrp .i64 (n - 1)).tdiv 50) + 1) else 1) = _
    rw [countP, if_neg h]
    have e1 : wrp .i64 (n - 1) = n - 1 := by rw [wrpE, wi64]; omega
    rw [e1]
    by_cases h2 : n ≤ 50
    · rw [if_pos h2]
      have e2 : (n - 1).tdiv 50 = 0 := by
        rcases Int.lt_or_le (n - 1) 0 with h3 | h3
        · have : n - 1 = -1 := by omega
          rw [this]
          rfl
        · rw [Int.tdiv_eq_ediv_of_nonneg h3]
          omega
      rw [e2]
      have e3 : wrp .i64 (0 : Int) = 0 := by rw [wrpE, wi64]; omega
      rw [e3]
      have e4 : wrp .i64 ((0 : Int) + 1) = 1 := by rw [wrpE, wi64]; omega
      rw [e4]
      rfl
    · rw [if_neg h2, Int.tdiv_eq_ediv_of_nonneg (by omega)]
      have e3 : wrp .i64 ((n - 1) / 50) = (n - 1) / 50 := by rw [wrpE, wi64]; omega
      rw [e3]
      have e4 : wrp .i64 ((n - 1) / 50 + 1) = (n - 1) / 50 + 1 := by rw [wrpE, wi64]; omega
      rw [e4, if_pos (by omega)]
/-- So many bytes of a number, the highest first, down to byte j. -/
noncomputable def putL (n : Int) (s : Nat) : Nat → List Int
  | 0 => []
  | k + 1 => putL n s k ++ [wrp .u8 (hd (n.fdiv (2 ^ min (wrp .i64 (8 * ((s : Int) - 1 - k))).toNat IntKind.i64.bits)))]
theorem putL_length (n : Int) (s : Nat) : ∀ k, (putL n s k).length = k
  | 0 => rfl
  | k + 1 => by simp [putL, putL_length n s k]
theorem below_u8s (m : Nat) : ∀ l : List Int, belowL m (u8s l) = true
  | [] => by simp [u8s, belowL]
  | n :: l => by
    have := below_u8s m l
    simp only [u8s, List.map_cons, belowL, below, Bool.true_and] at this ⊢
    exact this
theorem row_eq (r : Nat → Nat) (cs ds : List Int) : some (AObj.row (((u8s cs).drop 0).take (cs.length * 1) ++ u8s ds)) = some (renO r (.row (u8s (cs ++ ds)))) := by
  have : ((u8s cs).drop 0).take (cs.length * 1) = u8s cs := by
    rw [List.drop_zero, Nat.mul_one]
    exact List.take_of_length_le (by rw [u8s_length]; exact Nat.le_refl _)
  rw [this, u8s_append]
  simp only [renO, renL_u8s]
theorem put_ok (cs : List Int) (n : Int) (s : Nat) (hs : 1 ≤ s) (hs2 : s ≤ 8) (hc : cs.length ≤ 1000) :
    ACalls Try.prog 10 [.slc 0 0 cs.length 1, i64 n, i64 s] [.row (u8s cs)] (fun E H => E = .ret (.slc 1 0 (cs.length + s) 1) ∧ H = [.dead, .row (u8s (cs ++ putL n s s))]) := by
  refine acalls_of_awp hT mixed Try.func10 rfl (by kernel_rfl) (by kernel_rfl) (Nat.le_of_ble_eq_true rfl) ?_
  refine loopI (fun k : Fin (s + 1) => [(0, match k.val with | 0 => AV.slc 0 0 cs.length 1 | k + 1 => .slc 1 0 (cs.length + (k + 1)) 1), (1, i64 n), (7, i64 ((s : Int) - 1 - (k.val : Int)))])
    (fun k => match k.val with | 0 => [.row (u8s cs)] | k + 1 => [.dead, .row (u8s (cs ++ putL n s (k + 1)))]) (fun k => s - k.val) ⟨0, by omega⟩ [0] ⟨⟨rfl, rfl, congrArg i64 (by rw [wrpE, wi64]; simp; omega), True.intro⟩, ⟨.inl ?_, True.intro⟩, rfl, rfl, rfl⟩ ?_
  · show some (AObj.row (u8s cs)) = some (AObj.row (renL _ (u8s cs)))
    rw [renL_u8s]
  intro k K hK
  obtain ⟨k, hk⟩ := k
  have hk' : k ≤ s := by omega
  cases k with
  | zero =>
    refine forkD (fun h => ?_) (fun h => ?_)
    · refine Ob.intro (by rw [wrpE, wi64]; simp only []; omega) ?_
      refine Ob.intro rfl ?_
      refine optK_intro (rdN_eq rfl (show 0 + cs.length * 1 ≤ (u8s cs).length by rw [u8s_length]; omega)) ?_
      refine Ob.intro (by show (cs.length + 1) * 1 ≤ _ ∧ cs.length + 1 ≤ _; omega) ?_
      refine hK ⟨1, by omega⟩ [0, 2] _ ?_ ?_
      · show s - 0 = s - 1 + 1
        omega
      · refine ⟨⟨rfl, rfl, congrArg i64 (?_ : wrp .i64 ((s : Int) - 1 - ((0 : Nat) : Int) - 1) = (s : Int) - 1 - ((1 : Nat) : Int)), True.intro⟩, ⟨.inl rfl, .inl (row_eq _ cs (putL n s 1)), True.intro⟩, rfl, rfl, rfl⟩
        rw [wrpE, wi64]
        omega
    · exfalso
      simp at h
      omega
  | succ k =>
    refine forkD (fun h => ?_) (fun h => ?_)
    · have h' : k + 1 < s := by
        have : (s : Int) - 1 - ((k + 1 : Nat) : Int) ≥ 0 := h
        omega
      refine Ob.intro (by rw [wrpE, wi64]; simp only []; omega) ?_
      refine Ob.intro rfl ?_
      have hl : (u8s (cs ++ putL n s (k + 1))).length = cs.length + (k + 1) := by rw [u8s_length, List.length_append, putL_length]
      refine optK_intro (rdN_eq rfl (show 0 + (cs.length + (k + 1)) * 1 ≤ (u8s (cs ++ putL n s (k + 1))).length by rw [hl]; omega)) ?_
      refine Ob.intro (by show (cs.length + (k + 1) + 1) * 1 ≤ _ ∧ cs.length + (k + 1) + 1 ≤ _; omega) ?_
      refine hK ⟨k + 1 + 1, by omega⟩ [0, 3] _ ?_ ?_
      · show s - (k + 1) = s - (k + 1 + 1) + 1
        omega
      · have hr := row_eq (rn [0, 3] 4) (cs ++ putL n s (k + 1)) [wrp .u8 (hd (n.fdiv (2 ^ min (wrp .i64 (8 * ((s : Int) - 1 - ((k + 1 : Nat) : Int)))).toNat IntKind.i64.bits)))]
        rw [List.length_append, putL_length, List.append_assoc] at hr
        refine ⟨⟨rfl, rfl, congrArg i64 (?_ : wrp .i64 ((s : Int) - 1 - ((k + 1 : Nat) : Int) - 1) = (s : Int) - 1 - ((k + 1 + 1 : Nat) : Int)), True.intro⟩, ⟨.inl rfl, .inl hr, True.intro⟩, rfl, rfl, rfl⟩
        rw [wrpE, wi64]
        omega
    · have h' : k + 1 = s := by
        have : ¬ (s : Int) - 1 - ((k + 1 : Nat) : Int) ≥ 0 := h
        omega
      subst h'
      refine endR [.dead, .row (u8s (cs ++ putL n (k + 1) (k + 1)))] rfl rfl rfl ?_ ?_ ?_ ?_
      · exact ⟨.inl rfl, .inl rfl, True.intro⟩
      · exact Nat.le_of_ble_eq_true rfl
      · show (belowL 2 (u8s _) && true) = true
        rw [below_u8s]
        rfl
      · exact ⟨rfl, rfl⟩
end Go.Proofs.Ytipinhlfajmghaa.A
