/- The laws of value, over shapes. No condition. -/
import Derived.Test.YtnfimgnhfmlohaaVe
import Derived.Test.YtnfimgnhfmlohaaOs
import Derived.Test.YtnfimgnhfmlohaaAm19
namespace Go.Proofs.Ytnfimgnhfmlohaa.A
open Go
set_option linter.unusedVariables false
set_option maxRecDepth 100000
set_option pp.maxSteps 1500

theorem wf_val {l : List AV} (h : Wf (.strct (.cons .bool (.cons .str (.cons (.int .u64) .none)))) l) : ∃ (n : Bool) (t : ByteArray) (b : Nat), l = [bo n, str t, u64 b] ∧ b < 18446744073709551616 := by
  obtain ⟨x, y, rfl, ⟨n, rfl⟩, x2, y2, rfl, ⟨t, rfl, ht⟩, x3, y3, rfl, ⟨m, rfl, hm⟩, rfl⟩ := h
  have hm := wf_u64 hm
  refine ⟨n, t, m.toNat, ?_, by omega⟩
  have : ((m.toNat : Nat) : Int) = m := by omega
  rw [this]
  rfl
theorem wf_str {l : List AV} (h : Wf .str l) : ∃ t : ByteArray, l = [str t] := by
  obtain ⟨t, rfl, _⟩ := h
  exact ⟨t, rfl⟩
theorem wf_nat {l : List AV} (h : Wf (.int .u64) l) : ∃ m : Nat, l = [u64 m] ∧ m < 18446744073709551616 := by
  obtain ⟨m, rfl, hm⟩ := h
  have hm := wf_u64 hm
  refine ⟨m.toNat, ?_, by omega⟩
  have : ((m.toNat : Nat) : Int) = m := by omega
  rw [this]
  rfl
theorem valuePacks_big (n : Bool) (t : ByteArray) (b : Nat) (ht : ¬ t.size ≤ 300) : ACalls Try.prog 5 [val n t b] [] (Ret (bo true)) := by
  cases n <;>
  · refine acalls_of_awp hT mixed Try.func5 rfl (by kernel_rfl) (by kernel_rfl) (Nat.le_of_ble_eq_true rfl) ?_
    refine callP awakeV_ok rfl rfl ?_
    refine forkD (fun h => end0 rfl rfl rfl rfl) (fun h => by omega)
theorem valueOrders_big (n : Bool) (t : ByteArray) (b : Nat) (n' : Bool) (t' : ByteArray) (b' : Nat) (ht : ¬ (t.size ≤ 300 ∧ t'.size ≤ 300)) : ACalls Try.prog 4 [val n t b, val n' t' b'] [] (Ret (bo true)) := by
  cases n <;> cases n' <;>
  · refine acalls_of_awp hT mixed Try.func4 rfl (by kernel_rfl) (by kernel_rfl) (Nat.le_of_ble_eq_true rfl) ?_
    refine callP awakeV_ok rfl rfl ?_
    refine forkD (fun h => end0 rfl rfl rfl rfl) (fun h => ?_)
    refine forkD (fun h => end0 rfl rfl rfl rfl) (fun h => by omega)
theorem valuePacks_law (l0 : List AV) (w0 : Wf (.strct (.cons .bool (.cons .str (.cons (.int .u64) .none)))) l0) : ACalls Try.prog 5 [argA (.strct (.cons .bool (.cons .str (.cons (.int .u64) .none)))) l0] [] (Ret (.sc (.bool true))) := by
  obtain ⟨n, t, b, rfl, hb⟩ := wf_val w0
  by_cases h : t.size ≤ 300
  · exact valuePacks_ok n t b hb h
  · exact valuePacks_big n t b h
theorem valueReads_law (l0 : List AV) (w0 : Wf .str l0) : ACalls Try.prog 6 [argA .str l0] [] (Ret (.sc (.bool true))) := by
  obtain ⟨t, rfl⟩ := wf_str w0
  exact valueReads_ok t
theorem valueMakes_law (l0 : List AV) (w0 : Wf (.int .u64) l0) (l1 : List AV) (w1 : Wf .str l1) (l2 : List AV) (w2 : Wf (.strct (.cons .bool (.cons .str (.cons (.int .u64) .none)))) l2) : ACalls Try.prog 3 [argA (.int .u64) l0, argA .str l1, argA (.strct (.cons .bool (.cons .str (.cons (.int .u64) .none)))) l2] [] (Ret (.sc (.bool true))) := by
  obtain ⟨m, rfl, hm⟩ := wf_nat w0
  obtain ⟨s, rfl⟩ := wf_str w1
  obtain ⟨n, t, b, rfl, hb⟩ := wf_val w2
  exact valueMakes_ok m s n t b hm hb
theorem valueOrders_law (l0 : List AV) (w0 : Wf (.strct (.cons .bool (.cons .str (.cons (.int .u64) .none)))) l0) (l1 : List AV) (w1 : Wf (.strct (.cons .bool (.cons .str (.cons (.int .u64) .none)))) l1) : ACalls Try.prog 4 [argA (.strct (.cons .bool (.cons .str (.cons (.int .u64) .none)))) l0, argA (.strct (.cons .bool (.cons .str (.cons (.int .u64) .none)))) l1] [] (Ret (.sc (.bool true))) := by
  obtain ⟨n, t, b, rfl, hb⟩ := wf_val w0
  obtain ⟨n', t', b', rfl, hb'⟩ := wf_val w1
  by_cases h : t.size ≤ 300 ∧ t'.size ≤ 300
  · exact valueOrders_ok n t b n' t' b' hb h.1 hb' h.2
  · exact valueOrders_big n t b n' t' b' h
end Go.Proofs.Ytnfimgnhfmlohaa.A
