/- extent: calls that read a row alone; there, may, power. No condition. -/
import Derived.Test.YthbncljlclcecaaDoorXc
namespace Go.Proofs.YthbncljlclcecaaDoor.A
open Go
set_option linter.unusedVariables false
set_option linter.unusedSimpArgs false
set_option maxRecDepth 100000
set_option pp.maxSteps 600

/-- A cell, told without objects. -/
def weakC : AV → AV
  | .sc v => .sc v
  | .slc _ _ n _ => .view n []
  | _ => .junk
theorem weakC_ok {X Y : Ctx} : ∀ (a : AV) (v : Value), VR X a v → VR Y (weakC a) v
  | .sc s, v, h => by simpa [VR, weakC] using h
  | .slc i o n sz, v, h => by
    simp only [weakC, VR] at h ⊢
    rcases h with ⟨rfl, a, rfl⟩ | ⟨b, o, c, cells, e, _, rfl, h1, _⟩
    · exact ⟨a, 0, rfl, Nat.le_refl _, .inl rfl, by simp [VC]⟩
    · exact ⟨_, c, rfl, h1, .inr ⟨_, rfl, rfl⟩, by simp [VC]⟩
  | .junk, _, _ => by simp [VR, weakC]
  | .nan _, _, _ => by simp [VR, weakC]
  | .ptr _ _, _, _ => by simp [VR, weakC]
  | .vp _, _, _ => by simp [VR, weakC]
  | .view _ _, _, _ => by simp [VR, weakC]
  | .mapr _, _, _ => by simp [VR, weakC]
  | .fn _ _, _, _ => by simp [VR, weakC]
  | .agg _, _, _ => by simp [VR, weakC]
  | .tup _, _, _ => by simp [VR, weakC]
/-- A call that reads a row alone: the row told cell by cell. -/
theorem callW {P : Program} {g : FuncId} {cs rest : List AV} {v : AV} {H : Heap} {p : Nat} {K : AV → Heap → Prop} {Kp : Value → Heap → Prop} (h : ACalls P g (.vp (cs.map weakC) :: rest) [] (Ret v)) (hp : nth H p = some (.row cs)) (hr : belowL 0 rest = true) (hc : closedV v = true) (k : K v H) :
    ACalls P g (.ptr p 0 :: rest) H (panK K Kp) := by
  intro X vs hrX hv
  have hX : HR (X.frozen H 0) [] := HR.frozen hrX (H' := []) True.intro rfl
  rw [nth_eq] at hp
  have hva : VL (X.frozen H 0) (.vp (cs.map weakC) :: rest) vs.toList := by
    obtain ⟨l⟩ := vs
    match l, hv with
    | x :: xs, hv =>
      simp only [VL] at hv ⊢
      refine ⟨?_, VL.mono (Le.cut_frozen X H 0) _ _ (VL.cut rest xs hr hv.2)⟩
      have h1 := hv.1
      simp only [VR] at h1 ⊢
      obtain ⟨b, hb, rfl⟩ := h1
      refine ⟨_, rfl, rfl, VC.of_get rfl ?_ fun i c hcx => ?_⟩
      · exact Or.inr ⟨p, b, Nat.zero_le _, ⟨_, hp, rfl⟩, hb, rfl⟩
      · rw [List.getElem?_map] at hcx
        obtain ⟨c0, h3, rfl⟩ := Option.map_eq_some_iff.1 hcx
        obtain ⟨u, h4, h5⟩ := row_get hrX hp hb h3
        exact ⟨u, by simpa [Ctx.frozen] using h4, weakC_ok _ _ h5⟩
  refine (h (X.frozen H 0) vs hX hva).mono ?_
  rintro e w' ⟨E, H', Y, ⟨rfl, rfl⟩, rfl, hE, hrY, hext, hφ, hle⟩
  have hold : ∀ b, b < X.w.heap.size → Y.w.heap[b]? = X.w.heap[b]? := fun b hb => hext.keep b hb (fun ⟨i, a, hl, _⟩ => by
    obtain ⟨o, h1, _⟩ := hl
    simp at h1)
  have hleX : Le X ⟨X.φ, X.F, Y.w⟩ := ⟨fun _ _ h => h, fun _ h => h, fun b hb => hold b (hrX.fl b hb), hext.shape⟩
  refine ⟨.ret v, H, ⟨X.φ, X.F, Y.w⟩, k, rfl, ?_, ⟨?_, ?_, ?_, hrX.sep, hrX.fz, ?_⟩, ⟨hext.size, fun b hb _ => hold b hb, hext.shape, fun b ho => .inl ho, fun _ h => h, fun _ h => .inl h, hext.os, hext.tape, hext.output⟩, fun _ _ => rfl, Nat.le_refl _⟩
  · cases e with
    | returned u => exact VR.closed v u hc hE
    | panicked _ => exact hE.elim
    | outgrown => exact hE.elim
  · intro i b hb
    obtain ⟨h1, h2, h3⟩ := hrX.lt i b hb
    exact ⟨h1, h2, Nat.lt_of_lt_of_le h3 hext.size⟩
  · intro i cs b hi hb
    exact (hrX.row i cs b hi hb).mono hleX (hold _ (hrX.lt i b hb).2.2)
  · intro i es b hi hb
    exact (hrX.mp i es b hi hb).mono hleX (hold _ (hrX.lt i b hb).2.2)
  · intro b hb
    exact Nat.lt_of_lt_of_le (hrX.fl b hb) hext.size
/-- A world, told by its row alone. -/
theorem there_ok (off : Bool) (sec : Int) (n : Nat) (e : Int) : ACalls Tryd.prog 48 [.vp [bo off, i64 sec, .view n [], .view n []], i64 e] [] (Ret (bo (decide (0 ≤ e ∧ e < n)))) := by
  refine acalls_of_awp hT mixed Tryd.func48 rfl (by kernel_rfl) (by kernel_rfl) (Nat.le_of_ble_eq_true rfl) ?_
  refine forkD (fun h1 => ?_) (fun h1 => ?_)
  · refine forkD (fun h2 => ?_) (fun h2 => ?_)
    · rw [decide_eq_true (show 0 ≤ e ∧ e < (n : Int) from ⟨h1, h2⟩)]
      exact end0 rfl rfl rfl rfl
    · rw [decide_eq_false (show ¬ (0 ≤ e ∧ e < (n : Int)) from fun h => h2 h.2)]
      exact end0 rfl rfl rfl rfl
  · rw [decide_eq_false (show ¬ (0 ≤ e ∧ e < (n : Int)) from fun h => h1 h.1)]
    exact end0 rfl rfl rfl rfl
/-- Is there such a sector? -/
def inS (sec : Int) (n : Nat) (e k : Int) : Prop := (0 ≤ e ∧ e < n) ∧ 0 ≤ k ∧ k < sec
instance (sec : Int) (n : Nat) (e k : Int) : Decidable (inS sec n e k) := inferInstanceAs (Decidable (_ ∧ _))
theorem may_ok (off : Bool) (sec : Int) (n : Nat) (e k : Int) : ACalls Tryd.prog 29 [.vp [bo off, i64 sec, .view n [], .view n []], i64 e, i64 k] [] (Ret (i64 (if inS sec n e k then 0 else 1))) := by
  have ht := there_ok off sec n e
  by_cases h1 : 0 ≤ e ∧ e < (n : Int)
  · rw [decide_eq_true h1] at ht
    refine acalls_of_awp hT mixed Tryd.func29 rfl (by kernel_rfl) (by kernel_rfl) (Nat.le_of_ble_eq_true rfl) ?_
    refine callP ht rfl rfl ?_
    refine forkD (fun h2 => ?_) (fun h2 => ?_)
    · rw [if_neg (show ¬ inS sec n e k from fun h => by have := h.2.1; omega)]
      exact end0 rfl rfl rfl rfl
    · refine forkD (fun h3 => ?_) (fun h3 => ?_)
      · rw [if_neg (show ¬ inS sec n e k from fun h => by have := h.2.2; omega)]
        exact end0 rfl rfl rfl rfl
      · rw [if_pos (show inS sec n e k from ⟨h1, by omega, by omega⟩)]
        exact end0 rfl rfl rfl rfl
  · rw [decide_eq_false h1] at ht
    rw [if_neg (show ¬ inS sec n e k from fun h => h1 h.1)]
    refine acalls_of_awp hT mixed Tryd.func29 rfl (by kernel_rfl) (by kernel_rfl) (Nat.le_of_ble_eq_true rfl) ?_
    refine callP ht rfl rfl ?_
    exact end0 rfl rfl rfl rfl
theorem power_ok (off : Bool) (sec : Int) (n : Nat) (e k : Int) : ACalls Tryd.prog 47 [.vp [bo off, i64 sec, .view n [], .view n []], i64 e, i64 k] [] (Ret (i64 (if off = true then 6 else if inS sec n e k then 0 else 1))) := by
  have ht := may_ok off sec n e k
  cases off
  · rw [if_neg (by decide)]
    generalize (if inS sec n e k then (0 : Int) else 1) = r at *
    refine acalls_of_awp hT mixed Tryd.func47 rfl (by kernel_rfl) (by kernel_rfl) (Nat.le_of_ble_eq_true rfl) ?_
    refine callP ht rfl rfl ?_
    exact end0 rfl rfl rfl rfl
  · rw [if_pos rfl]
    refine acalls_of_awp hT mixed Tryd.func47 rfl (by kernel_rfl) (by kernel_rfl) (Nat.le_of_ble_eq_true rfl) ?_
    exact end0 rfl rfl rfl rfl
end Go.Proofs.YthbncljlclcecaaDoor.A
