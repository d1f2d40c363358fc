/- The functions of caps: new tables, rights looked up, what is clear. No condition. -/
import Derived.Test.YtofinmlloefocaaCb
namespace Go.Proofs.Ytofinmlloefocaa.A
open Go
set_option linter.unusedVariables false
set_option maxRecDepth 100000
set_option pp.maxSteps 1500

theorem newBad_ok (n : Int) (h : n < 1 ∨ 8 < n) : ACalls Try.prog 9 [i64 n] [] (Ret (.tup [.sc (.pointer none), i64 1])) := by
  refine acalls_of_awp hT mixed Try.func9 rfl (by kernel_rfl) (by kernel_rfl) (Nat.le_of_ble_eq_true rfl) ?_
  refine forkD (fun h1 => ?_) (fun h1 => ?_)
  · refine end0 rfl rfl rfl rfl
  · refine forkD (fun h2 => ?_) (fun h2 => by omega)
    refine end0 rfl rfl rfl rfl
def nobody (n : Nat) : Rg := List.replicate n (0, 0)
theorem nobody_len (n : Nat) : (nobody n).length = n := List.length_replicate
theorem zeros_rg (z : Value) (hz : z.cells.toList.map ofC = [u64 0, u64 0]) (n : Nat) : zerosA z n = rgC (nobody n) := by
  unfold zerosA rgC nobody
  rw [hz, List.map_replicate]
  rfl
theorem new_ok (n : Nat) (h1 : 1 ≤ n) (h8 : n ≤ 8) : ACalls Try.prog 9 [i64 n] [] (RetH (.tup [.ptr 1 0, i64 0]) (tabH 0 (nobody n))) := by
  refine acalls_of_awp hT mixed Try.func9 rfl (by kernel_rfl) (by kernel_rfl) (Nat.le_of_ble_eq_true rfl) ?_
  refine forkD (fun h => by omega) (fun h => ?_)
  refine forkD (fun h => by omega) (fun h => ?_)
  refine Ob.intro (show (0 : Int) ≤ (n : Nat) ∧ ((n : Nat) : Int) ≤ (n : Nat) ∧ ((n : Nat) : Int) ≤ 140737488355328 ∧ ((16 : Nat) : Int) * (n : Nat) ≤ 140737488355328 by omega) ?_
  refine endH rfl rfl rfl ⟨.inl ?_, .inl ?_, True.intro⟩ (Nat.zero_le 2) (belowH_tab 0 (nobody n)) rfl
  · exact congrArg AObj.row (zeros_rg _ rfl n).symm
  · show tabO 0 (nobody n) = AObj.row [i64 0, .slc 0 0 n 2]
    unfold tabO
    rw [nobody_len]
    rfl
theorem at_ok (tags : Nat) (l : Rg) (off : Nat) (m : Bool) : ACalls Try.prog 30 [.ptr 0 off, bo m] (tabH tags l) (RetH (.ptr 0 (off + (if m = true then 1 else 0))) (tabH tags l)) := by
  cases m
  · refine acalls_of_awp hT mixed Try.func30 rfl (by kernel_rfl) (by kernel_rfl) (Nat.le_of_ble_eq_true rfl) ?_
    refine endH rfl rfl rfl ⟨.inl rfl, .inl rfl, True.intro⟩ (Nat.le_refl 2) (belowH_tab tags l) rfl
  · refine acalls_of_awp hT mixed Try.func30 rfl (by kernel_rfl) (by kernel_rfl) (Nat.le_of_ble_eq_true rfl) ?_
    refine endH rfl rfl rfl ⟨.inl rfl, .inl rfl, True.intro⟩ (Nat.le_refl 2) (belowH_tab tags l) rfl
def RgOk (l : Rg) : Prop := l.length ≤ 8 ∧ ∀ r ∈ l, r.1 < 18446744073709551616 ∧ r.2 < 18446744073709551616
/-- What somebody may see, or drop. -/
def maskOf (l : Rg) (who : Int) (m : Bool) : Nat := ((l[who.toNat]?).map fun r => if m = true then r.2 else r.1).getD 0
theorem maskOf_lt {l : Rg} (h : RgOk l) (who : Int) (m : Bool) : maskOf l who m < 18446744073709551616 := by
  unfold maskOf
  cases hq : l[who.toNat]? with
  | none => exact (by decide : (0 : Nat) < 18446744073709551616)
  | some r =>
    have := h.2 r (List.mem_of_getElem? hq)
    show (if m = true then r.2 else r.1) < _
    split
    · exact this.2
    · exact this.1
theorem mask_rd {tags : Nat} {l : Rg} {who : Int} (h : oneT l who = true) (m : Bool) {G : Heap} : rd1 (.row (rgC l) :: G) 0 (0 + who.toNat * 2 + (if m = true then 1 else 0)) = some (u64 (maskOf l who m)) := by
  have h := of_decide_eq_true h
  obtain ⟨r, hr⟩ : ∃ r, l[who.toNat]? = some r := ⟨_, List.getElem?_eq_getElem (by omega)⟩
  have := rgC_get l _ r hr
  show nth (rgC l) (0 + who.toNat * 2 + (if m = true then 1 else 0)) = _
  rw [nth_eq, Nat.zero_add]
  unfold maskOf
  rw [hr]
  cases m
  · exact this.1
  · exact this.2
theorem mayDrop_ok (tags : Nat) (l : Rg) (who : Int) (x : Nat) (hl : RgOk l) (hx : x < 18446744073709551616) : ACalls Try.prog 18 [.ptr 1 0, i64 who, u64 x] (tabH tags l) (RetH (bo (oneT l who && hasS (maskOf l who true) x)) (tabH tags l)) := by
  have h1 := one_ok tags l who
  have hm := maskOf_lt hl who true
  have h2 := hasS_ok (maskOf l who true) x hm hx
  refine acalls_of_awp hT mixed Try.func18 rfl (by kernel_rfl) (by kernel_rfl) (Nat.le_of_ble_eq_true rfl) ?_
  refine callH h1 [0, 1] rfl ⟨.inl (by rw [renO_rg]; rfl), .inl rfl, True.intro⟩ rfl rfl (H' := tabH tags l) (by simp only [tabH, renH, renO_rg]; rfl) ?_
  refine fork (fun h => ?_) (fun h => ?_)
  · have ho := of_decide_eq_true h
    refine Ob.intro ho ?_
    refine optK_intro (mask_rd (tags := tags) h true) ?_
    refine callP h2 rfl rfl ?_
    refine fork (fun g => ?_) (fun g => ?_)
    · refine endH rfl rfl rfl ⟨.inl rfl, .inl rfl, True.intro⟩ (Nat.le_refl 2) (belowH_tab tags l) (congrArg bo ?_)
      rw [h, g]
      rfl
    · refine endH rfl rfl rfl ⟨.inl rfl, .inl rfl, True.intro⟩ (Nat.le_refl 2) (belowH_tab tags l) (congrArg bo ?_)
      rw [h, g]
      rfl
  · refine endH rfl rfl rfl ⟨.inl rfl, .inl rfl, True.intro⟩ (Nat.le_refl 2) (belowH_tab tags l) (congrArg bo ?_)
    rw [h]
    rfl
/-! ### What is clear -/
def capH (p : Nat) (at_ : List Nat) : Heap := [.row [u64 p], .row [us at_]]
def bad (p : Nat) (at_ : List Nat) (x : Nat) : Bool := !hasS p x && !decide (x ∈ at_)
theorem clear1_ok (p : Nat) (a : List Nat) (x : Nat) (hp : p < 18446744073709551616) (ha : a.length < 9223372036854775807) (hx : x < 18446744073709551616) :
    ACalls Try.prog 27 [u64 x, .ptr 0 0, .ptr 1 0] (capH p a) (RetH (bo (bad p a x)) (capH p a)) := by
  have h1 := hasS_ok p x hp hx
  have h2 := hasL_ok a x ha
  unfold bad
  refine acalls_of_awp hT mixed Try.func27 rfl (by kernel_rfl) (by kernel_rfl) (Nat.le_of_ble_eq_true rfl) ?_
  refine callP h1 rfl rfl ?_
  refine fork (fun h => ?_) (fun h => ?_)
  · refine endH rfl rfl rfl ⟨.inl rfl, .inl rfl, True.intro⟩ (Nat.le_refl 2) rfl (congrArg bo ?_)
    rw [h]
    rfl
  · refine callP h2 rfl rfl ?_
    refine fork (fun g => ?_) (fun g => ?_)
    · refine endH rfl rfl rfl ⟨.inl rfl, .inl rfl, True.intro⟩ (Nat.le_refl 2) rfl (congrArg bo ?_)
      rw [h, g]
      rfl
    · refine endH rfl rfl rfl ⟨.inl rfl, .inl rfl, True.intro⟩ (Nat.le_refl 2) rfl (congrArg bo ?_)
      rw [h, g]
      rfl
def fnC : AV := .fn (.func 27) [.ptr 0 0, .ptr 1 0]
theorem indexF_ok (p : Nat) (a l : List Nat) (hp : p < 18446744073709551616) (ha : a.length < 9223372036854775807) (hl : l.length < 9223372036854775807) (hx : ∀ x ∈ l, x < 18446744073709551616) :
    ACalls Try.prog 39 [us l, fnC] (capH p a) (fun E G => ∃ v, IdxR (∃ x ∈ l, bad p a x = true) v ∧ E = .ret v ∧ G = capH p a) := by
  refine acalls_of_awp hT mixed Try.func39 rfl (by kernel_rfl) (by kernel_rfl) (Nat.le_of_ble_eq_true rfl) ?_
  refine loopI (α := { k : Nat // k ≤ l.length ∧ ∀ x ∈ l.take k, bad p a x = false }) (fun k => [(0, us l), (1, fnC), (7, i64 l.length), (8, i64 (k.val : Nat))]) (fun _ => capH p a) (fun k => l.length - k.val) ⟨0, Nat.zero_le _, by simp⟩ [0, 1] ⟨⟨rfl, rfl, rfl, rfl, True.intro⟩, ⟨.inl rfl, .inl rfl, True.intro⟩, rfl, rfl, rfl⟩ ?_
  intro z K hK
  obtain ⟨k, hk, hnot⟩ := z
  have hinc : wrp .i64 ((k : Int) + 1) = ((k + 1 : Nat) : Int) := by rw [wrpE, wi64]; omega
  refine forkD (fun h => ?_) (fun h => ?_)
  · have h' : k < l.length := by have : (k : Int) < (l.length : Int) := h; omega
    obtain ⟨y, hy⟩ : ∃ y, l[k]? = some y := ⟨_, List.getElem?_eq_getElem h'⟩
    have hc := clear1_ok p a y hp ha (hx y (List.mem_of_getElem? hy))
    refine Ob.intro (show (0 : Int) ≤ (k : Nat) ∧ ((k : Nat) : Int) < (l.length : Nat) by omega) ?_
    refine optK_intro (nth_map hy) ?_
    refine callH hc [0, 1] rfl ⟨.inl rfl, .inl rfl, True.intro⟩ rfl rfl (H' := capH p a) rfl ?_
    refine fork (fun g => ?_) (fun g => ?_)
    · refine endQ rfl rfl rfl ⟨.inl rfl, .inl rfl, True.intro⟩ (Nat.le_refl 2) rfl ⟨k, rfl, ⟨fun _ => ⟨y, List.mem_of_getElem? hy, g⟩, fun _ => by omega⟩⟩
    · refine hK ⟨k + 1, h', ?_⟩ [0, 1] _ (show l.length - k = l.length - (k + 1) + 1 by omega) ⟨⟨rfl, rfl, rfl, congrArg i64 hinc, True.intro⟩, ⟨.inl rfl, .inl rfl, True.intro⟩, rfl, rfl, rfl⟩
      rw [take_snocN hy]
      intro x hxm
      rcases List.mem_append.1 hxm with hxm | hxm
      · exact hnot x hxm
      · rw [List.mem_singleton.1 hxm]; exact g
  · have h' : k = l.length := by have : ¬ (k : Int) < (l.length : Int) := h; omega
    rw [h', List.take_length] at hnot
    refine endQ rfl rfl rfl ⟨.inl rfl, .inl rfl, True.intro⟩ (Nat.le_refl 2) rfl ⟨-1, rfl, ⟨fun hh => by omega, fun ⟨x, hxm, hb⟩ => by rw [hnot x hxm] at hb; cases hb⟩⟩
theorem containsF_ok (p : Nat) (a l : List Nat) (hp : p < 18446744073709551616) (ha : a.length < 9223372036854775807) (hl : l.length < 9223372036854775807) (hx : ∀ x ∈ l, x < 18446744073709551616) :
    ACalls Try.prog 26 [us l, fnC] (capH p a) (RetH (bo (l.any (bad p a))) (capH p a)) := by
  refine acalls_of_awp hT mixed Try.func26 rfl (by kernel_rfl) (by kernel_rfl) (Nat.le_of_ble_eq_true rfl) ?_
  refine callQ (indexF_ok p a l hp ha hl hx) [0, 1] rfl ⟨.inl rfl, .inl rfl, True.intro⟩ rfl rfl (fun v hv => by obtain ⟨i, rfl, _⟩ := hv; rfl) ?_
  rintro v ⟨i, rfl, hi⟩
  have hany : l.any (bad p a) = true ↔ ∃ x ∈ l, bad p a x = true := List.any_eq_true
  refine forkD (fun h => ?_) (fun h => ?_)
  · refine endH rfl rfl rfl ⟨.inl rfl, .inl rfl, True.intro⟩ (Nat.le_refl 2) rfl (congrArg bo ?_)
    exact (hany.2 (hi.1 h)).symm
  · refine endH rfl rfl rfl ⟨.inl rfl, .inl rfl, True.intro⟩ (Nat.le_refl 2) rfl (congrArg bo ?_)
    cases hq : l.any (bad p a)
    · rfl
    · exact absurd (hi.2 (hany.1 hq)) h
end Go.Proofs.Ytofinmlloefocaa.A
