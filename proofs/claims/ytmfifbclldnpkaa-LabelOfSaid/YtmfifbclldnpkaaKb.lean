/- sorting many: choosing a pivot; breaking patterns. No condition. -/
import Derived.Test.YtmfifbclldnpkaaKa
namespace Go.Proofs.Ytmfifbclldnpkaa.A
open Go
set_option linter.unusedVariables false
set_option linter.unusedSimpArgs false
set_option maxRecDepth 100000
set_option pp.maxSteps 600

def PivR (a b : Nat) (R : List Nat) : AEnd → Heap → Prop := fun E G => ∃ (p : Nat) (h : Int), (a ≤ p ∧ p < b) ∧ E = .ret (.tup [i64 (p : Nat), i64 h]) ∧ G = [.row (R.map u64n)]
theorem pivot_ok (R : List Nat) (a b : Nat) (hab : a + 8 ≤ b) (hb : b ≤ R.length) (hn : R.length < 4611686018427387904) :
    ACalls Try.prog 52 [.slc 0 0 R.length 1, i64 (a : Nat), i64 (b : Nat)] [.row (R.map u64n)] (PivR a b R) := by
  have el : wrp .i64 ((b : Int) - (a : Int)) = ((b - a : Nat) : Int) := by rw [wid (by omega)]; omega
  obtain ⟨q, hq⟩ : ∃ q, q = (b - a) / 4 := ⟨_, rfl⟩
  have e4 : wrp .i64 ((wrp .i64 ((b : Int) - (a : Int))).tdiv 4) = ((q : Nat) : Int) := by
    rw [el, show ((b - a : Nat) : Int).tdiv 4 = (((b - a) / 4 : Nat) : Int) from rfl, ← hq, wid (by omega)]
  have f1 : wrp .i64 (wrp .i64 ((wrp .i64 ((b : Int) - (a : Int))).tdiv 4) * 1) = ((q : Nat) : Int) := by rw [e4, wid (by omega)]; omega
  have f2 : wrp .i64 (wrp .i64 ((wrp .i64 ((b : Int) - (a : Int))).tdiv 4) * 2) = ((q * 2 : Nat) : Int) := by rw [e4, wid (by omega)]; omega
  have f3 : wrp .i64 (wrp .i64 ((wrp .i64 ((b : Int) - (a : Int))).tdiv 4) * 3) = ((q * 3 : Nat) : Int) := by rw [e4, wid (by omega)]; omega
  have g1 : wrp .i64 ((a : Int) + wrp .i64 (wrp .i64 ((wrp .i64 ((b : Int) - (a : Int))).tdiv 4) * 1)) = ((a + q : Nat) : Int) := by rw [f1, wid (by omega)]; omega
  have g2 : wrp .i64 ((a : Int) + wrp .i64 (wrp .i64 ((wrp .i64 ((b : Int) - (a : Int))).tdiv 4) * 2)) = ((a + q * 2 : Nat) : Int) := by rw [f2, wid (by omega)]; omega
  have g3 : wrp .i64 ((a : Int) + wrp .i64 (wrp .i64 ((wrp .i64 ((b : Int) - (a : Int))).tdiv 4) * 3)) = ((a + q * 3 : Nat) : Int) := by rw [f3, wid (by omega)]; omega
  refine acalls_of_awpC [6, 12] hT mixed Try.func52 rfl (by kernel_rfl) (by kernel_rfl) (Nat.le_of_ble_eq_true rfl) ?_
  repeat refine Ob.intro (show (4 : Int) ≠ 0 by decide) ?_
  refine cutI (α := Unit) (fun _ => [(0, .slc 0 0 R.length 1), (6, i64 0), (7, i64 0), (8, i64 (b - a : Nat)), (9, .ptr 1 0), (10, i64 (a + q : Nat)), (11, i64 (a + q * 2 : Nat)), (12, i64 (a + q * 3 : Nat))]) (fun _ => [.row (R.map u64n), .row [i64 0]]) [] (fun K hK => ?_) (fun _ => ?_)
  · repeat refine Ob.intro (show (4 : Int) ≠ 0 by decide) ?_
    exact hK () [] [0, 1] _ ⟨⟨rfl, rfl, rfl, congrArg i64 el, rfl, congrArg i64 g1, congrArg i64 g2, congrArg i64 g3, True.intro⟩, ⟨.inl (by rw [renO_us]; rfl), .inl rfl, True.intro⟩, rfl, rfl, rfl⟩
  clear e4 f1 f2 f3 g1 g2 g3 el
  refine cutI (α := { z : Nat × Int // a ≤ z.1 ∧ z.1 < b }) (fun z => [(0, .slc 0 0 R.length 1), (6, i64 0), (7, i64 0), (9, .ptr 1 0), (11, i64 (z.val.1 : Nat))]) (fun z => [.row (R.map u64n), .row [i64 z.val.2]]) [] (fun K hK => ?_) (fun z => ?_)
  · refine forkD (fun _ => ?_) (fun g => absurd (show ((b - a : Nat) : Int) ≥ 8 by omega) g)
    refine forkD (fun g => ?_) (fun _ => ?_)
    · have h50 : 50 ≤ b - a := by have : ((b - a : Nat) : Int) ≥ 50 := g; omega
      have m1 := medianA_ok R (a + q) 0 (by omega) (by omega) hn
      refine callS m1 [0, 1] ⟨.inl (by rw [renO_us]; rfl), .inl rfl, True.intro⟩ rfl ?_
      rintro E G ⟨z1, s1, h1, rfl, rfl⟩ _
      refine ⟨_, [.row (R.map u64n), .row [i64 s1]], rfl, by simp only [renH, renO_us]; rfl, ?_⟩
      have m2 := medianA_ok R (a + q * 2) s1 (by omega) (by omega) hn
      refine callS m2 [0, 1] ⟨.inl (by rw [renO_us]; rfl), .inl rfl, True.intro⟩ rfl ?_
      rintro E G ⟨z2, s2, h2, rfl, rfl⟩ _
      refine ⟨_, [.row (R.map u64n), .row [i64 s2]], rfl, by simp only [renH, renO_us]; rfl, ?_⟩
      have m3 := medianA_ok R (a + q * 3) s2 (by omega) (by omega) hn
      refine callS m3 [0, 1] ⟨.inl (by rw [renO_us]; rfl), .inl rfl, True.intro⟩ rfl ?_
      rintro E G ⟨z3, s3, h3, rfl, rfl⟩ _
      refine ⟨_, [.row (R.map u64n), .row [i64 s3]], rfl, by simp only [renH, renO_us]; rfl, ?_⟩
      have m4 := median_ok R z1 z2 z3 s3 (by omega) (by omega) (by omega) hn
      refine callS m4 [0, 1] ⟨.inl (by rw [renO_us]; rfl), .inl rfl, True.intro⟩ rfl ?_
      rintro E G ⟨z4, s4, h4, rfl, rfl⟩ _
      refine ⟨_, [.row (R.map u64n), .row [i64 s4]], rfl, by simp only [renH, renO_us]; rfl, ?_⟩
      exact hK ⟨(z4, s4), (by show a ≤ z4; omega), (by show z4 < b; omega)⟩ [] [0, 1] _ ⟨⟨rfl, rfl, rfl, rfl, rfl, True.intro⟩, ⟨.inl (by rw [renO_us]; rfl), .inl rfl, True.intro⟩, rfl, rfl, rfl⟩
    · have m4 := median_ok R (a + q) (a + q * 2) (a + q * 3) 0 (by omega) (by omega) (by omega) hn
      refine callS m4 [0, 1] ⟨.inl (by rw [renO_us]; rfl), .inl rfl, True.intro⟩ rfl ?_
      rintro E G ⟨z4, s4, h4, rfl, rfl⟩ _
      refine ⟨_, [.row (R.map u64n), .row [i64 s4]], rfl, by simp only [renH, renO_us]; rfl, ?_⟩
      exact hK ⟨(z4, s4), (by show a ≤ z4; omega), (by show z4 < b; omega)⟩ [] [0, 1] _ ⟨⟨rfl, rfl, rfl, rfl, rfl, True.intro⟩, ⟨.inl (by rw [renO_us]; rfl), .inl rfl, True.intro⟩, rfl, rfl, rfl⟩
  · obtain ⟨⟨z, s⟩, z1, z2⟩ := z
    dsimp only at z1 z2 ⊢
    refine fork (fun _ => ?_) (fun _ => ?_)
    · exact ⟨rfl, [.row (R.map u64n)], .tup [i64 (z : Nat), i64 1], ⟨⟨_, rfl, rfl⟩, ⟨.inl rfl, True.intro⟩, Nat.le_refl _, belowH_us R⟩, z, 1, by omega, rfl, rfl⟩
    refine fork (fun _ => ?_) (fun _ => ?_)
    · exact ⟨rfl, [.row (R.map u64n)], .tup [i64 (z : Nat), i64 2], ⟨⟨_, rfl, rfl⟩, ⟨.inl rfl, True.intro⟩, Nat.le_refl _, belowH_us R⟩, z, 2, by omega, rfl, rfl⟩
    · exact ⟨rfl, [.row (R.map u64n)], .tup [i64 (z : Nat), i64 0], ⟨⟨_, rfl, rfl⟩, ⟨.inl rfl, True.intro⟩, Nat.le_refl _, belowH_us R⟩, z, 0, by omega, rfl, rfl⟩
/-- As many bits as a small number has. -/
def lenT (n : Nat) : Nat := if n = 0 then 0 else n.log2 + 1
theorem len64T_ok (n : Nat) (hn : n ≤ 63) : ACalls Try.prog 59 [u64 (n : Nat)] [] (Ret (i64 (lenT n : Nat))) := by
  have hw : wrp .u8 ((n : Nat) : Int) = ((n : Nat) : Int) := by rw [wrpE, wu8]; omega
  have hb : (0 : Int) ≤ wrp .u8 ((n : Nat) : Int) ∧ wrp .u8 ((n : Nat) : Int) < ((256 : Nat) : Int) := by rw [hw]; omega
  refine acalls_of_awp hT mixed Try.func59 rfl (by kernel_rfl) (by kernel_rfl) (Nat.le_of_ble_eq_true rfl) ?_
  refine forkD (fun g => absurd (show ((n : Nat) : Int) ≥ 4294967296 from g) (by omega)) (fun _ => ?_)
  refine forkD (fun g => absurd (show ((n : Nat) : Int) ≥ 65536 from g) (by omega)) (fun _ => ?_)
  refine forkD (fun g => absurd (show ((n : Nat) : Int) ≥ 256 from g) (by omega)) (fun _ => ?_)
  refine Ob.intro hb ?_
  refine end0 rfl rfl rfl (congrArg i64 ?_)
  rw [hw]
  have key : ∀ z : Nat, z = lenT n → wrp .i64 (0 + wrp .i64 ((z : Nat) : Int)) = ((lenT n : Nat) : Int) := fun z hz => by
    have : lenT n ≤ 64 := by
      have : ∀ n, n ≤ 63 → lenT n ≤ 64 := by decide
      exact this n hn
    rw [hz, wid (z := ((lenT n : Nat) : Int)) (by omega), wid (by omega)]
    omega
  refine key _ ?_
  rw [show (((n : Nat) : Int).toNat) = n from rfl]
  clear hw hb key
  revert n
  decide
theorem lenT_ok (n : Nat) (hn : n ≤ 63) : ACalls Try.prog 41 [u64 (n : Nat)] [] (Ret (i64 (lenT n : Nat))) := by
  refine acalls_of_awp hT mixed Try.func41 rfl (by kernel_rfl) (by kernel_rfl) (Nat.le_of_ble_eq_true rfl) ?_
  refine callP (len64T_ok n hn) rfl rfl ?_
  refine end0 rfl rfl rfl rfl
theorem npt_ok (n : Nat) (hn : n ≤ 63) : ACalls Try.prog 62 [i64 (n : Nat)] [] (Ret (u64 (2 ^ lenT n : Nat))) := by
  have hw : wrp .u64 ((n : Nat) : Int) = ((n : Nat) : Int) := by rw [wrpE, wu64]; omega
  have hl := lenT_ok n hn
  rw [← hw] at hl
  refine acalls_of_awp hT mixed Try.func62 rfl (by kernel_rfl) (by kernel_rfl) (Nat.le_of_ble_eq_true rfl) ?_
  refine callP hl rfl rfl ?_
  refine Ob.intro (show (0 : Int) ≤ ((lenT n : Nat) : Int) by omega) ?_
  refine end0 rfl rfl rfl (congrArg u64 ?_)
  have : ∀ n, n ≤ 63 → (wrp .u64 (1 * 2 ^ min (((lenT n : Nat) : Int)).toNat IntKind.u64.bits)) = ((2 ^ lenT n : Nat) : Int) := fun n hn => by
    have h64 : lenT n ≤ 6 := by
      have : ∀ n, n ≤ 63 → lenT n ≤ 6 := by decide
      exact this n hn
    have hb : IntKind.u64.bits = 64 := rfl
    rw [Int.toNat_natCast, hb, show min (lenT n) 64 = lenT n by omega, wrpE, wu64]
    have hp : 2 ^ lenT n ≤ 2 ^ 6 := Nat.pow_le_pow_right (by decide) h64
    have : ((2 : Int) ^ lenT n) = ((2 ^ lenT n : Nat) : Int) := by simp
    rw [this]
    have h6 : (2 : Nat) ^ 6 = 64 := rfl
    rw [h6] at hp
    generalize 2 ^ lenT n = P at *
    omega
  exact this n hn
theorem next_ok (x : Int) : ACalls Try.prog 63 [.ptr 0 0] [.row [u64 x]] (fun E G => ∃ y : Int, E = .ret (u64 y) ∧ G = [.row [u64 y]]) := by
  refine acalls_of_awp hT mixed Try.func63 rfl (by kernel_rfl) (by kernel_rfl) (Nat.le_of_ble_eq_true rfl) ?_
  refine ⟨[0, 0, 0, 0, 0, 0, 0, 0, 0, 1], [[], [0], [0, 1], [], [3], [3, 4], [3, 4, 5], [0, 1, 2, 3, 4, 5, 6], [0, 1, 2, 3, 4, 5, 6, 7], [0, 1, 2, 3, 4, 5, 6, 7, 8]], [0, 0, 0, 0, 0, 0, 0, 0, 0, 0], [9], [[0], [3], [4], [0], [6], [7], [8], [5, 9], [3], [11, 10]], Ob.intro (by kernel_rfl) ?_⟩
  repeat first | refine same ?_ | refine Ob.intro (by decide) ?_
  refine ⟨[0, 0, 0, 0, 0, 0, 0, 0, 0, 1], [[], [0], [0, 1], [], [3], [3, 4], [3, 4, 5], [0, 1, 2, 3, 4, 5, 6], [0, 1, 2, 3, 4, 5, 6, 7], [0, 1, 2, 3, 4, 5, 6, 7, 8]], [0, 0, 0, 0, 0, 0, 0, 0, 0, 0], [9], [[0], [12], [13], [0], [15], [16], [17], [14, 18], [12], [20, 19]], Ob.intro (by kernel_rfl) ?_⟩
  repeat first | refine same ?_ | refine Ob.intro (by decide) ?_
  refine ⟨[0, 0, 0, 0, 0, 0, 0, 0, 0, 1], [[], [0], [0, 1], [], [3], [3, 4], [3, 4, 5], [0, 1, 2, 3, 4, 5, 6], [0, 1, 2, 3, 4, 5, 6, 7], [0, 1, 2, 3, 4, 5, 6, 7, 8]], [0, 0, 0, 0, 0, 0, 0, 0, 0, 0], [9], [[0], [21], [22], [0], [24], [25], [26], [23, 27], [21], [29, 28]], Ob.intro (by kernel_rfl) ?_⟩
  repeat first | refine same ?_ | refine Ob.intro (by decide) ?_
  exact ⟨rfl, [.row [u64 _]], u64 _, ⟨⟨_, rfl, rfl⟩, ⟨.inl rfl, True.intro⟩, Nat.le_refl _, rfl⟩, _, rfl, rfl⟩
end Go.Proofs.Ytmfifbclldnpkaa.A
