/- sorting few numbers; copies; lists behind one another. No condition. -/
import Derived.Test.YtmfifbclldnpkaaLc
namespace Go.Proofs.Ytmfifbclldnpkaa.A
open Go
set_option linter.unusedVariables false
set_option maxRecDepth 100000
set_option pp.maxSteps 1500

def IntR (v : AV) : Prop := ∃ i : Int, v = i64 i
theorem len64_ok (n : Nat) (hn : n < 18446744073709551616) : ACalls Try.prog 59 [u64 (n : Nat)] [] (fun E G => ∃ v, IntR v ∧ E = .ret v ∧ G = []) := by
  refine acalls_of_awp hT mixed Try.func59 rfl (by kernel_rfl) (by kernel_rfl) (Nat.le_of_ble_eq_true rfl) ?_
  have key : ∀ w : Int, (0 : Int) ≤ wrp .u8 w ∧ wrp .u8 w < ((256 : Nat) : Int) := fun w => by rw [wrpE, wu8]; omega
  refine forkD (fun h => ?_) (fun h => ?_)
  · refine Ob.intro (by decide) ?_
    refine forkD (fun h => ?_) (fun h => ?_)
    · refine Ob.intro (by decide) ?_
      refine forkD (fun h => ?_) (fun h => ?_)
      · refine Ob.intro (by decide) ?_
        refine Ob.intro (key _) ?_
        refine endE rfl rfl rfl ⟨_, rfl⟩
      · refine Ob.intro (key _) ?_
        refine endE rfl rfl rfl ⟨_, rfl⟩
    · refine forkD (fun h => ?_) (fun h => ?_)
      · refine Ob.intro (by decide) ?_
        refine Ob.intro (key _) ?_
        refine endE rfl rfl rfl ⟨_, rfl⟩
      · refine Ob.intro (key _) ?_
        refine endE rfl rfl rfl ⟨_, rfl⟩
  · refine forkD (fun h => ?_) (fun h => ?_)
    · refine Ob.intro (by decide) ?_
      refine forkD (fun h => ?_) (fun h => ?_)
      · refine Ob.intro (by decide) ?_
        refine Ob.intro (key _) ?_
        refine endE rfl rfl rfl ⟨_, rfl⟩
      · refine Ob.intro (key _) ?_
        refine endE rfl rfl rfl ⟨_, rfl⟩
    · refine forkD (fun h => ?_) (fun h => ?_)
      · refine Ob.intro (by decide) ?_
        refine Ob.intro (key _) ?_
        refine endE rfl rfl rfl ⟨_, rfl⟩
      · refine Ob.intro (key _) ?_
        refine endE rfl rfl rfl ⟨_, rfl⟩
theorem len_ok (n : Nat) (hn : n < 18446744073709551616) : ACalls Try.prog 41 [u64 (n : Nat)] [] (fun E G => ∃ v, IntR v ∧ E = .ret v ∧ G = []) := by
  refine acalls_of_awp hT mixed Try.func41 rfl (by kernel_rfl) (by kernel_rfl) (Nat.le_of_ble_eq_true rfl) ?_
  refine callE (len64_ok n hn) rfl (fun v hv => by obtain ⟨i, rfl⟩ := hv; rfl) ?_
  rintro v ⟨i, rfl⟩
  refine endE rfl rfl rfl ⟨_, rfl⟩
theorem belowL_us (m : Nat) : ∀ l : List Nat, belowL m (l.map u64n) = true
  | [] => rfl
  | x :: l => by show (bif below m (u64n x) then belowL m (l.map u64n) else false) = true; rw [belowL_us m l]; rfl
theorem belowH_us1 (R : List Nat) : belowH 2 [.dead, .row (R.map u64n)] = true := by
  simp only [belowH, belowO, belowL_us]
  rfl
theorem renH_us (r : Nat → Nat) (R : List Nat) : renH r [.row (R.map u64n)] = [.row (R.map u64n)] := by
  simp only [renH, renO_us]
theorem insert_nil : ACalls Try.prog 49 [nilS, i64 0, i64 0] [] (Ret (.tup [])) := by
  refine acalls_of_awp hT mixed Try.func49 rfl (by kernel_rfl) (by kernel_rfl) (Nat.le_of_ble_eq_true rfl) ?_
  refine loopI (α := Unit) (fun z => [(2, i64 0), (6, i64 1)]) (fun z => []) (fun z => 0) () [] ⟨⟨rfl, congrArg i64 (by rw [wrpE, wi64]; rfl), True.intro⟩, True.intro, rfl, rfl, rfl⟩ ?_
  rintro ⟨⟩ K hK
  exact ⟨rfl, [], .tup [], ⟨⟨_, rfl, rfl⟩, True.intro, Nat.le_refl _, rfl⟩, rfl, rfl⟩
theorem pdq_nil (lim : Int) : ACalls Try.prog 40 [nilS, i64 0, i64 0, i64 lim] [] (Ret (.tup [])) := by
  refine acalls_of_awp hT mixed Try.func40 rfl (by kernel_rfl) (by kernel_rfl) (Nat.le_of_ble_eq_true rfl) ?_
  refine loopI (α := Unit) (fun z => [(0, nilS), (1, i64 0), (2, i64 0)]) (fun z => []) (fun z => 0) () [] ⟨⟨rfl, rfl, rfl, True.intro⟩, True.intro, rfl, rfl, rfl⟩ ?_
  rintro ⟨⟩ K hK
  refine forkD (fun h => ?_) (fun h => absurd (show wrp .i64 (0 - 0) ≤ 12 by rw [wrpE, wi64]; decide) h)
  refine callP insert_nil rfl rfl ?_
  exact ⟨rfl, [], .tup [], ⟨⟨_, rfl, rfl⟩, True.intro, Nat.le_refl _, rfl⟩, rfl, rfl⟩
theorem sort_nil : ACalls Try.prog 29 [nilS] [] (Ret (.tup [])) := by
  have hw : wrp .u64 0 = ((0 : Nat) : Int) := by rw [wrpE, wu64]; rfl
  have hl := len_ok 0 (by decide)
  rw [← hw] at hl
  refine acalls_of_awp hT mixed Try.func29 rfl (by kernel_rfl) (by kernel_rfl) (Nat.le_of_ble_eq_true rfl) ?_
  refine callE hl rfl (fun v hv => by obtain ⟨i, rfl⟩ := hv; rfl) ?_
  rintro v ⟨i, rfl⟩
  refine callP (pdq_nil i) rfl rfl ?_
  exact ⟨rfl, [], .tup [], ⟨⟨_, rfl, rfl⟩, True.intro, Nat.le_refl _, rfl⟩, rfl, rfl⟩
theorem compact_nil : ACalls Try.prog 30 [nilS] [] (Ret nilS) := by
  refine acalls_of_awp hT mixed Try.func30 rfl (by kernel_rfl) (by kernel_rfl) (Nat.le_of_ble_eq_true rfl) ?_
  refine end0 rfl rfl rfl rfl
theorem pdq12_ok (R0 : List Nat) (lim : Int) (hn : R0.length ≤ 12) : ACalls Try.prog 40 [.slc 0 0 R0.length 1, i64 ((0 : Nat) : Int), i64 (R0.length : Nat), i64 lim] [.row (R0.map u64n)] (fun E G => ∃ R, SO 0 R0.length R0 R ∧ SI 0 R0.length R ∧ E = .ret (.tup []) ∧ G = [.row (R.map u64n)]) := by
  have hi := insert_ok R0 0 R0.length (Nat.zero_le _) (Nat.le_refl _) (by omega)
  refine acalls_of_awp hT mixed Try.func40 rfl (by kernel_rfl) (by kernel_rfl) (Nat.le_of_ble_eq_true rfl) ?_
  refine loopI (α := Unit) (fun z => [(0, .slc 0 0 R0.length 1), (1, i64 ((0 : Nat) : Int)), (2, i64 (R0.length : Nat))]) (fun z => [.row (R0.map u64n)]) (fun z => 0) () [0] ⟨⟨rfl, rfl, rfl, True.intro⟩, ⟨.inl (by rw [renO_us]; rfl), True.intro⟩, rfl, rfl, rfl⟩ ?_
  rintro ⟨⟩ K hK
  have hw : wrp .i64 ((R0.length : Int) - ((0 : Nat) : Int)) ≤ 12 := by rw [wrpE, wi64]; omega
  refine forkD (fun h => ?_) (fun h => absurd hw h)
  refine callS hi [0] ⟨.inl (by rw [renO_us]; rfl), True.intro⟩ rfl ?_
  rintro E G ⟨R, so, si, rfl, rfl⟩ _
  refine ⟨_, _, rfl, rfl, ?_⟩
  rw [renH_us]
  exact ⟨rfl, [.row (R.map u64n)], .tup [], ⟨⟨_, rfl, rfl⟩, ⟨.inl rfl, True.intro⟩, Nat.le_refl _, belowH_us R⟩, R, so, si, rfl, rfl⟩
theorem sort12_ok (R0 : List Nat) (hn : R0.length ≤ 12) : ACalls Try.prog 29 [.slc 0 0 R0.length 1] [.row (R0.map u64n)] (fun E G => ∃ R, SO 0 R0.length R0 R ∧ SI 0 R0.length R ∧ E = .ret (.tup []) ∧ G = [.row (R.map u64n)]) := by
  have hw : wrp .u64 (R0.length : Nat) = ((R0.length : Nat) : Int) := by rw [wrpE, wu64]; omega
  have hl := len_ok R0.length (by omega)
  rw [← hw] at hl
  refine acalls_of_awp hT mixed Try.func29 rfl (by kernel_rfl) (by kernel_rfl) (Nat.le_of_ble_eq_true rfl) ?_
  refine callE hl rfl (fun v hv => by obtain ⟨i, rfl⟩ := hv; rfl) ?_
  rintro v ⟨i, rfl⟩
  refine callS (pdq12_ok R0 i hn) [0] ⟨.inl (by rw [renO_us]; rfl), True.intro⟩ rfl ?_
  rintro E G ⟨R, so, si, rfl, rfl⟩ _
  refine ⟨_, _, rfl, rfl, ?_⟩
  rw [renH_us]
  exact ⟨rfl, [.row (R.map u64n)], .tup [], ⟨⟨_, rfl, rfl⟩, ⟨.inl rfl, True.intro⟩, Nat.le_refl _, belowH_us R⟩, R, so, si, rfl, rfl⟩
theorem clone_ok (l : List Nat) (hn : l.length ≤ 1000) : ACalls Try.prog 28 [us l] [] (fun E G => (l = [] ∧ E = .ret nilS ∧ G = []) ∨ (E = .ret (.slc 1 0 l.length 1) ∧ G = [.dead, .row (l.map u64n)])) := by
  refine acalls_of_awp hT mixed Try.func28 rfl (by kernel_rfl) (by kernel_rfl) (Nat.le_of_ble_eq_true rfl) ?_
  refine ⟨?_, fun h => ?_⟩
  · refine optK_intro (srcA_us _ l) ?_
    refine Ob.intro (allC_us l) ?_
    refine optK_intro rfl ?_
    refine Ob.intro (show (0 + l.length) * 8 ≤ 140737488355328 ∧ 0 + l.length ≤ 9223372036854775807 by omega) ?_
    refine ⟨rfl, [.dead, .row (l.map u64n)], .slc 1 0 (0 + l.length) 1, ⟨⟨_, rfl, rfl⟩, ⟨.inr rfl, .inl rfl, True.intro⟩, Nat.zero_le _, belowH_us1 l⟩, .inr ⟨?_, rfl⟩⟩
    rw [Nat.zero_add]
  · have hl : l = [] := List.eq_nil_of_length_eq_zero h
    exact ⟨rfl, [], nilS, ⟨⟨_, rfl, rfl⟩, True.intro, Nat.zero_le _, rfl⟩, .inl ⟨hl, rfl, rfl⟩⟩
end Go.Proofs.Ytmfifbclldnpkaa.A
