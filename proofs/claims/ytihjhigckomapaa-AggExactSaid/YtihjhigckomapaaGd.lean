/- The document's tallies; the law AggTells. No condition. -/
import Derived.Test.YtihjhigckomapaaGc
namespace Go.Proofs.Ytihjhigckomapaa.A
open Go
set_option linter.unusedVariables false
set_option maxRecDepth 100000
set_option pp.maxSteps 1500

def i64n (n : Nat) : AV := i64 n
def u64n (n : Nat) : AV := u64 n
theorem floats_ok (l : List Nat) (hn : l.length ≤ 1000) : ACalls Try.prog 8 [.view l.length (l.map u64n)] [] (Ret (.view l.length (l.map fl))) := by
  refine acalls_of_awp hT mixed Try.func8 rfl (by kernel_rfl) (by kernel_rfl) (Nat.le_of_ble_eq_true rfl) ?_
  refine loopI (α := { x : Nat × List Nat // x.1 ≤ l.length ∧ x.2 = l.take x.1 }) (fun x => [(0, .view l.length (l.map u64n)), (3, .slc 0 0 x.val.1 1), (4, i64 (x.val.1 : Nat))]) (fun x => [.row (x.val.2.map fl)]) (fun x => l.length - x.val.1)
    ⟨(0, []), Nat.zero_le _, rfl⟩ [0] ⟨⟨rfl, rfl, rfl, True.intro⟩, ⟨.inl rfl, True.intro⟩, rfl, rfl, rfl⟩ ?_
  intro x K hK
  obtain ⟨⟨k, m⟩, hst⟩ := x
  replace hst : k ≤ l.length ∧ m = l.take k := hst
  have hm : m.length = k := by rw [hst.2, List.length_take]; omega
  refine forkD (fun h => ?_) (fun h => ?_)
  · have h' : k < l.length := by have : (k : Int) < (l.length : Int) := h; omega
    obtain ⟨y, hy⟩ : ∃ y, l[k]? = some y := ⟨_, List.getElem?_eq_getElem h'⟩
    refine Ob.intro (show (0 : Int) ≤ (k : Nat) ∧ ((k : Nat) : Int) < (l.length : Nat) by omega) ?_
    refine optK_intro (nth_map hy) ?_
    refine callP (float64frombits_ok y) rfl rfl ?_
    refine Ob.intro rfl ?_
    refine optK_intro (rdN_all rfl (show k * 1 = (m.map fl).length by rw [List.length_map]; omega)) ?_
    refine Ob.intro (show (k + 1) * 8 ≤ 140737488355328 ∧ k + 1 ≤ 9223372036854775807 by omega) ?_
    refine hK ⟨(k + 1, m ++ [y]), h', by rw [take_snoc' hy, hst.2]⟩ [2] _ ?_ ?_
    · show l.length - k = l.length - (k + 1) + 1
      omega
    · refine ⟨⟨rfl, rfl, congrArg i64 (?_ : wrp .i64 ((k : Int) + 1) = ((k + 1 : Nat) : Int)), True.intro⟩, ⟨.inl ?_, True.intro⟩, rfl, rfl, rfl⟩
      · rw [wrpE, wi64]
        omega
      · show some (AObj.row (m.map fl ++ [fl y])) = some (AObj.row (renL _ ((m ++ [y]).map fl)))
        rw [renL_map (fun _ _ => rfl), List.map_append]
        rfl
  · have h' : k = l.length := by have : ¬ (k : Int) < (l.length : Int) := h; omega
    have hml : m = l := by rw [hst.2, h', List.take_length]
    subst hml
    subst h'
    refine end0 rfl rfl (frz_map (g := fl) (L := m) rfl rfl rfl (fun _ => rfl)) rfl
/-! ### By the document -/
theorem endE {T : Tab} {rs : List ResultVar} {R : AV → Prop} {s : St} {vs : List AV} {v : AV} (hd : s.ds = []) (hv : resV T s rs = some vs) (hf : frz s.H 0 8 (mkR vs) = some v) (hR : R v) : endK T rs 0 (fun E G => ∃ v, R v ∧ E = .ret v ∧ G = []) .ret s :=
  ⟨hd, [], v, ⟨⟨vs, hv, hf⟩, True.intro, Nat.zero_le _, rfl⟩, v, hR, rfl, rfl⟩
def NanW (v : AV) : Prop := ∃ b : Nat, nanB b = true ∧ v = u64 b
theorem fbits_nan : ACalls Try.prog 19 [.nan .f64] [] (fun E G => ∃ v, NanW v ∧ E = .ret v ∧ G = []) := by
  refine ext_calls (e := Extern.MathFloatBits.float64bits) (show Try.prog.funcs[19]? = some Try.f19 from Try.func19) (by kernel_rfl) rfl (by kernel_rfl) (by kernel_rfl) ?_
  intro X vs hr hv
  obtain ⟨v, rfl, hw⟩ := VL_one hv
  simp only [VR] at hw
  obtain ⟨b, rfl, hb⟩ := hw
  exact ⟨_, u64 b, rfl, VR_sc_int.2 rfl, _, ⟨b, nan_read hb, rfl⟩, rfl, rfl⟩
def PartW (v : AV) : Prop := ∃ b : Nat, nanB b = true ∧ v = .tup [bo (decide (9223372036854775808 ≤ b)), u64 (b / 4503599627370496 % 2048 : Nat), u64 (b % 4503599627370496 : Nat)]
theorem parts_nan : ACalls Try.prog 30 [.nan .f64] [] (fun E G => ∃ v, PartW v ∧ E = .ret v ∧ G = []) := by
  refine acalls_of_awp hT mixed Try.func30 rfl (by kernel_rfl) (by kernel_rfl) (Nat.le_of_ble_eq_true rfl) ?_
  refine callE fbits_nan rfl (fun v hv => by obtain ⟨b, _, rfl⟩ := hv; rfl) ?_
  rintro v ⟨b, hb, rfl⟩
  have e1 : hd ((wrp .u64 ((b : Int).tdiv 4503599627370496)).tmod 2048) = ((b / 4503599627370496 % 2048 : Nat) : Int) := by
    have : (b : Int).tdiv 4503599627370496 = ((b / 4503599627370496 : Nat) : Int) := rfl
    rw [this, wrpE, wu64, hd_eq]
    have h2 : ((b / 4503599627370496 : Nat) : Int) % 18446744073709551616 = ((b / 4503599627370496 % 18446744073709551616 : Nat) : Int) := rfl
    rw [h2]
    show ((b / 4503599627370496 % 18446744073709551616 % 2048 : Nat) : Int) = _
    omega
  have e2 : hd ((b : Int).tmod 4503599627370496) = ((b % 4503599627370496 : Nat) : Int) := tmod_u _ 4503599627370496
  refine forkD (fun h => ?_) (fun h => ?_)
  · refine Ob.intro (by decide) ?_
    refine Ob.intro (by decide) ?_
    refine Ob.intro (by decide) ?_
    refine endE rfl rfl rfl ⟨b, hb, ?_⟩
    rw [← e1, ← e2, show decide (9223372036854775808 ≤ b) = true from decide_eq_true (by omega)]
    rfl
  · refine Ob.intro (by decide) ?_
    refine Ob.intro (by decide) ?_
    refine Ob.intro (by decide) ?_
    refine endE rfl rfl rfl ⟨b, hb, ?_⟩
    rw [← e1, ← e2, show decide (9223372036854775808 ≤ b) = false from decide_eq_false (by omega)]
    rfl
theorem rNaN_nan : ACalls Try.prog 31 [.nan .f64] [] (Ret (bo true)) := by
  refine acalls_of_awp hT mixed Try.func31 rfl (by kernel_rfl) (by kernel_rfl) (Nat.le_of_ble_eq_true rfl) ?_
  refine callE parts_nan rfl (fun v hv => by obtain ⟨b, _, rfl⟩ := hv; rfl) ?_
  rintro v ⟨b, hb, rfl⟩
  have hn := of_decide_eq_true hb
  have h1 : b / 4503599627370496 % 2048 = 2047 := by omega
  have h2 : 0 < b % 4503599627370496 := by omega
  generalize b / 4503599627370496 % 2048 = e at *
  generalize b % 4503599627370496 = f at *
  refine fork (fun h0 => ?_) (fun h0 => ?_) <;>
  · refine fork (fun g => ?_) (fun g => by rw [h1] at g; cases g)
    refine forkD (fun g2 => ?_) (fun g2 => by omega)
    refine end0 rfl rfl rfl rfl
theorem parts_any (b : Nat) : ACalls Try.prog 30 [fl b] [] (Ret (.tup [bo (decide (9223372036854775808 ≤ b)), u64 (b / 4503599627370496 % 2048 : Nat), u64 (b % 4503599627370496 : Nat)])) := by
  refine acalls_of_awp hT mixed Try.func30 rfl (by kernel_rfl) (by kernel_rfl) (Nat.le_of_ble_eq_true rfl) ?_
  refine callP (float64bits_ok b) rfl rfl ?_
  have e1 : hd ((wrp .u64 ((b : Int).tdiv 4503599627370496)).tmod 2048) = ((b / 4503599627370496 % 2048 : Nat) : Int) := by
    have : (b : Int).tdiv 4503599627370496 = ((b / 4503599627370496 : Nat) : Int) := rfl
    rw [this, wrpE, wu64, hd_eq]
    have h2 : ((b / 4503599627370496 : Nat) : Int) % 18446744073709551616 = ((b / 4503599627370496 % 18446744073709551616 : Nat) : Int) := rfl
    rw [h2]
    show ((b / 4503599627370496 % 18446744073709551616 % 2048 : Nat) : Int) = _
    omega
  have e2 : hd ((b : Int).tmod 4503599627370496) = ((b % 4503599627370496 : Nat) : Int) := tmod_u _ 4503599627370496
  refine forkD (fun h => ?_) (fun h => ?_)
  · refine Ob.intro (by decide) ?_
    refine Ob.intro (by decide) ?_
    refine Ob.intro (by decide) ?_
    refine end0 rfl rfl rfl ?_
    rw [← e1, ← e2, show decide (9223372036854775808 ≤ b) = true from decide_eq_true (by omega)]
    rfl
  · refine Ob.intro (by decide) ?_
    refine Ob.intro (by decide) ?_
    refine Ob.intro (by decide) ?_
    refine end0 rfl rfl rfl ?_
    rw [← e1, ← e2, show decide (9223372036854775808 ≤ b) = false from decide_eq_false (by omega)]
    rfl
theorem rNaN_any (b : Nat) : ACalls Try.prog 31 [fl b] [] (Ret (bo (nanB b))) := by
  refine acalls_of_awp hT mixed Try.func31 rfl (by kernel_rfl) (by kernel_rfl) (Nat.le_of_ble_eq_true rfl) ?_
  refine callP (parts_any b) rfl rfl ?_
  have hn : nanB b = decide (b / 4503599627370496 % 2048 = 2047 ∧ 0 < b % 4503599627370496) := by
    unfold nanB
    rw [decide_eq_decide]
    omega
  rw [hn]
  generalize b / 4503599627370496 % 2048 = e at *
  generalize b % 4503599627370496 = f at *
  refine fork (fun h0 => ?_) (fun h0 => ?_) <;>
  · refine fork (fun g => ?_) (fun g => ?_)
    · have g1 : (e : Int) = 2047 := by simpa using g
      refine forkD (fun g2 => ?_) (fun g2 => ?_)
      · refine end0 rfl rfl rfl (congrArg bo (decide_eq_true ?_).symm)
        omega
      · refine end0 rfl rfl rfl (congrArg bo (decide_eq_false ?_).symm)
        omega
    · have g1 : ¬ (e : Int) = 2047 := by simpa using g
      refine end0 rfl rfl rfl (congrArg bo (decide_eq_false ?_).symm)
      omega
theorem rBits_any (b : Nat) : ACalls Try.prog 23 [fl b] [] (Ret (u64 (bitsB b))) := by
  refine acalls_of_awp hT mixed Try.func23 rfl (by kernel_rfl) (by kernel_rfl) (Nat.le_of_ble_eq_true rfl) ?_
  refine callP (rNaN_any b) rfl rfl ?_
  refine fork (fun h => ?_) (fun h => ?_)
  · refine end0 rfl rfl rfl (congrArg u64 ?_)
    simp [bitsB, h]
  · refine callP (float64bits_ok b) rfl rfl ?_
    refine end0 rfl rfl rfl (congrArg u64 ?_)
    rw [bitsB_eq h]
theorem rBits_nan : ACalls Try.prog 23 [.nan .f64] [] (Ret (u64 nanW)) := by
  refine acalls_of_awp hT mixed Try.func23 rfl (by kernel_rfl) (by kernel_rfl) (Nat.le_of_ble_eq_true rfl) ?_
  refine callP rNaN_nan rfl rfl ?_
  refine end0 rfl rfl rfl rfl
theorem rBitsO_ok (s : Option Nat) : ACalls Try.prog 23 [flo s] [] (Ret (u64 (bitsO s))) := by
  cases s with
  | none => exact rBits_nan
  | some b => exact rBits_any b
end Go.Proofs.Ytihjhigckomapaa.A
