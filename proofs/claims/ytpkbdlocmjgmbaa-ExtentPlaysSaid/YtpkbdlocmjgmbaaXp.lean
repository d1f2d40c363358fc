/- extent: a world's methods, each whole. No condition. -/
import Derived.Test.YtpkbdlocmjgmbaaXn
import Derived.Test.YtpkbdlocmjgmbaaXo
namespace Go.Proofs.Ytpkbdlocmjgmbaa.A
open Go
set_option linter.unusedVariables false
set_option linter.unusedSimpArgs false
set_option maxRecDepth 100000
set_option pp.maxSteps 600

/-! ### Refusals -/
theorem write_ref (off : Bool) (sec : Int) (n : Nat) (e k : Int) (s : ByteArray) (h : off = true ∨ ¬ inS sec n e k ∨ 64 < s.size) :
    ACalls Try.prog 24 [.vp [bo off, i64 sec, .view n [], .view n []], i64 e, i64 k, str s] [] (Ret (i64 (if off = true then 6 else if inS sec n e k then 5 else 1))) := by
  have hp := power_ok off sec n e k
  cases off
  · rw [if_neg (by decide)] at hp ⊢
    by_cases hin : inS sec n e k
    · rw [if_pos hin] at hp ⊢
      refine acalls_of_awp hT mixed Try.func24 rfl (by kernel_rfl) (by kernel_rfl) (Nat.le_of_ble_eq_true rfl) ?_
      refine callP hp rfl rfl ?_
      refine forkD (fun _ => end0 rfl rfl rfl rfl) (fun h1 => ?_)
      refine absurd h (fun h => ?_)
      rcases h with h | h | h
      · cases h
      · exact h hin
      · exact h1 (show (64 : Int) < (s.size : Int) by omega)
    · rw [if_neg hin] at hp ⊢
      refine acalls_of_awp hT mixed Try.func24 rfl (by kernel_rfl) (by kernel_rfl) (Nat.le_of_ble_eq_true rfl) ?_
      refine callP hp rfl rfl ?_
      exact end0 rfl rfl rfl rfl
  · rw [if_pos rfl] at hp ⊢
    refine acalls_of_awp hT mixed Try.func24 rfl (by kernel_rfl) (by kernel_rfl) (Nat.le_of_ble_eq_true rfl) ?_
    refine callP hp rfl rfl ?_
    exact end0 rfl rfl rfl rfl
theorem lay_ref (off : Bool) (sec : Int) (n : Nat) (e k : Int) (s : ByteArray) (h : ¬ inS sec n e k ∨ 64 < s.size) :
    ACalls Try.prog 25 [.vp [bo off, i64 sec, .view n [], .view n []], i64 e, i64 k, str s] [] (Ret (i64 (if inS sec n e k then 5 else 1))) := by
  have hp := may_ok off sec n e k
  by_cases hin : inS sec n e k
  · rw [if_pos hin] at hp ⊢
    refine acalls_of_awp hT mixed Try.func25 rfl (by kernel_rfl) (by kernel_rfl) (Nat.le_of_ble_eq_true rfl) ?_
    refine callP hp rfl rfl ?_
    refine forkD (fun _ => end0 rfl rfl rfl rfl) (fun h1 => ?_)
    refine absurd h (fun h => ?_)
    rcases h with h | h
    · exact h hin
    · exact h1 (show (64 : Int) < (s.size : Int) by omega)
  · rw [if_neg hin] at hp ⊢
    refine acalls_of_awp hT mixed Try.func25 rfl (by kernel_rfl) (by kernel_rfl) (Nat.le_of_ble_eq_true rfl) ?_
    refine callP hp rfl rfl ?_
    exact end0 rfl rfl rfl rfl
theorem read_ref (off : Bool) (sec : Int) (n : Nat) (e k : Int) (h : off = true ∨ ¬ inS sec n e k) :
    ACalls Try.prog 12 [.vp [bo off, i64 sec, .view n [], .view n []], i64 e, i64 k] [] (Ret (.tup [str ByteArray.empty, i64 (if off = true then 6 else 1)])) := by
  have hp := power_ok off sec n e k
  cases off
  · rw [if_neg (by decide), if_neg (h.resolve_left (by decide))] at hp
    refine acalls_of_awp hT mixed Try.func12 rfl (by kernel_rfl) (by kernel_rfl) (Nat.le_of_ble_eq_true rfl) ?_
    refine callP hp rfl rfl ?_
    exact end0 rfl rfl rfl rfl
  · rw [if_pos rfl] at hp ⊢
    refine acalls_of_awp hT mixed Try.func12 rfl (by kernel_rfl) (by kernel_rfl) (Nat.le_of_ble_eq_true rfl) ?_
    refine callP hp rfl rfl ?_
    exact end0 rfl rfl rfl rfl
theorem dry_ref (off : Bool) (sec : Int) (n : Nat) (e k : Int) (h : ¬ inS sec n e k) :
    ACalls Try.prog 14 [.vp [bo off, i64 sec, .view n [], .view n []], i64 e, i64 k] [] (Ret (.tup [str ByteArray.empty, i64 1])) := by
  have hp := may_ok off sec n e k
  rw [if_neg h] at hp
  refine acalls_of_awp hT mixed Try.func14 rfl (by kernel_rfl) (by kernel_rfl) (Nat.le_of_ble_eq_true rfl) ?_
  refine callP hp rfl rfl ?_
  exact end0 rfl rfl rfl rfl
theorem flush_ref (off : Bool) (sec : Int) (n : Nat) (e : Int) (h : off = true ∨ ¬ inS sec n e 0) :
    ACalls Try.prog 11 [.vp [bo off, i64 sec, .view n [], .view n []], i64 e] [] (Ret (i64 (if off = true then 6 else 1))) := by
  have hp := power_ok off sec n e 0
  cases off
  · rw [if_neg (by decide), if_neg (h.resolve_left (by decide))] at hp
    refine acalls_of_awp hT mixed Try.func11 rfl (by kernel_rfl) (by kernel_rfl) (Nat.le_of_ble_eq_true rfl) ?_
    refine callP hp rfl rfl ?_
    exact end0 rfl rfl rfl rfl
  · rw [if_pos rfl] at hp ⊢
    refine acalls_of_awp hT mixed Try.func11 rfl (by kernel_rfl) (by kernel_rfl) (Nat.le_of_ble_eq_true rfl) ?_
    refine callP hp rfl rfl ?_
    exact end0 rfl rfl rfl rfl
theorem crash_ref (sec : Int) (n : Nat) (ps : List (Int × Int)) :
    ACalls Try.prog 13 [.vp [bo true, i64 sec, .view n [], .view n []], .view ps.length (flat pkC ps)] [] (Ret (i64 6)) := by
  refine acalls_of_awp hT mixed Try.func13 rfl (by kernel_rfl) (by kernel_rfl) (Nat.le_of_ble_eq_true rfl) ?_
  exact end0 rfl rfl rfl rfl
theorem wet_ref (off : Bool) (sec : Int) (n : Nat) (e : Int) (h : ¬ (0 ≤ e ∧ e < n)) :
    ACalls Try.prog 15 [.vp [bo off, i64 sec, .view n [], .view n []], i64 e] [] (Ret nilS) := by
  have hp := there_ok off sec n e
  rw [decide_eq_false h] at hp
  refine acalls_of_awp hT mixed Try.func15 rfl (by kernel_rfl) (by kernel_rfl) (Nat.le_of_ble_eq_true rfl) ?_
  refine callP hp rfl rfl ?_
  exact end0 rfl rfl rfl rfl
/-! ### A world that is not there -/
end Go.Proofs.Ytpkbdlocmjgmbaa.A
