/- Whole numbers by the document, and the law NumWhole, by the functions that it calls. No condition. -/
import Derived.Test.YtihjhigckomapaaNr
namespace Go.Proofs.Ytihjhigckomapaa.A
open Go
set_option linter.unusedVariables false
set_option maxRecDepth 100000
set_option pp.maxSteps 1500

/-- By the parts e, f of a word: its sign ng. -/
def rwM (e f : Nat) : Nat := (4503599627370496 + f) / 2 ^ (1075 - e) * 2 ^ (e - 1075)
def rwO (ng : Bool) (e f : Nat) : Bool :=
  if e = 0 ∧ f = 0 then true else if e < 1023 ∨ 1086 < e then false else if (4503599627370496 + f) % 2 ^ (1075 - e) ≠ 0 then false
  else if ng = true then decide (rwM e f ≤ 9223372036854775808) else decide (rwM e f < 9223372036854775808)
noncomputable def rwN (ng : Bool) (e f : Nat) : Int :=
  if e = 0 ∧ f = 0 then 0 else if e < 1023 ∨ 1086 < e then 0 else if (4503599627370496 + f) % 2 ^ (1075 - e) ≠ 0 then 0
  else if ng = true then wrp .i64 (wrp .u64 (0 - (rwM e f : Int))) else wrp .i64 (rwM e f)
def RwSt (e f : Nat) : Type := { x : Nat × Nat × Nat // x.1 ≤ 1075 - e ∧ (4503599627370496 + f) % 2 ^ x.1 = 0 ∧ x.2.1 = (4503599627370496 + f) / 2 ^ x.1 ∧ x.2.2 = e + x.1 }
def RuSt (e q : Nat) : Type := { x : Nat × Nat × Nat // x.1 ≤ e - 1075 ∧ x.2.1 = q * 2 ^ x.1 ∧ x.2.2 = 1075 + x.1 }
theorem rwM_lt {e f : Nat} (he : e ≤ 1086) (hf : f < 4503599627370496) (j : Nat) (hj : j ≤ e - 1075) : (4503599627370496 + f) / 2 ^ (1075 - e) * 2 ^ j < 18446744073709551616 := by
  have h1 : (4503599627370496 + f) / 2 ^ (1075 - e) ≤ 9007199254740991 := Nat.le_trans (Nat.div_le_self _ _) (by omega)
  have h2 : 2 ^ j ≤ 2 ^ 11 := Nat.pow_le_pow_right (by decide) (by omega)
  have := Nat.mul_le_mul h1 h2
  omega
theorem half_step {m j : Nat} (h0 : m % 2 ^ j = 0) : (m / 2 ^ j % 2 = 0 ↔ m % 2 ^ (j + 1) = 0) ∧ m / 2 ^ j / 2 = m / 2 ^ (j + 1) := by
  refine ⟨?_, by rw [Nat.div_div_eq_div_mul, Nat.pow_succ]⟩
  have hp : 0 < 2 ^ j := Nat.pow_pos (by decide)
  have e : m = 2 ^ j * (m / 2 ^ j) := by
    have := Nat.div_add_mod m (2 ^ j)
    omega
  rw [Nat.pow_succ]
  generalize hq : m / 2 ^ j = q at *
  rw [e, Nat.mul_mod_mul_left]
  constructor
  · intro h; rw [h, Nat.mul_zero]
  · intro h
    rcases Nat.mul_eq_zero.1 h with h | h
    · omega
    · exact h
theorem rWhole_neg (b : Nat) (hb : b < 18446744073709551616) (hng : decide (9223372036854775808 ≤ b) = true) : ACalls Try.prog 20 [fl b] [] (Ret (.tup [i64 (rwN true (b / 4503599627370496 % 2048) (b % 4503599627370496)), bo (rwO true (b / 4503599627370496 % 2048) (b % 4503599627370496))])) := by
  have hp := parts_ok b hb
  rw [hng] at hp
  have he : b / 4503599627370496 % 2048 < 2048 := by omega
  have hf : b % 4503599627370496 < 4503599627370496 := by omega
  refine acalls_of_awp hT mixed Try.func20 rfl (by kernel_rfl) (by kernel_rfl) (Nat.le_of_ble_eq_true rfl) ?_
  refine callP hp rfl rfl ?_
  clear hp
  generalize b / 4503599627370496 % 2048 = e at *
  generalize b % 4503599627370496 = f at *
  have small : ¬ (e = 0 ∧ f = 0) → (e < 1023 ∨ 1086 < e) → AV.tup [i64 0, bo false] = AV.tup [i64 (rwN true e f), bo (rwO true e f)] := fun h1 h2 => by
    unfold rwO rwN
    rw [if_neg h1, if_neg h1, if_pos h2, if_pos h2]
  refine fork (fun h1 => ?_) (fun h1 => ?_)
  · have h1 : e = 0 := by simpa using h1
    refine fork (fun h2 => ?_) (fun h2 => ?_)
    · have h2 : f = 0 := by simpa using h2
      refine end0 rfl rfl rfl ?_
      unfold rwO rwN
      rw [if_pos ⟨h1, h2⟩, if_pos ⟨h1, h2⟩]
      rfl
    · have h2 : ¬ f = 0 := by simpa using h2
      refine forkD (fun h3 => ?_) (fun h3 => by omega)
      refine end0 rfl rfl rfl (small (fun h => h2 h.2) (by omega))
  · have h1 : ¬ e = 0 := by simpa using h1
    refine forkD (fun h3 => ?_) (fun h3 => ?_)
    · refine end0 rfl rfl rfl (small (fun h => h1 h.1) (by omega))
    refine forkD (fun h4 => ?_) (fun h4 => ?_)
    · refine end0 rfl rfl rfl (small (fun h => h1 h.1) (by omega))
    have he1 : 1023 ≤ e := by omega
    have he2 : e ≤ 1086 := by omega
    clear h3 h4
    have hk : 1075 - e ≤ 52 := by omega
    refine loopI (α := RwSt e f) (fun j => [(4, bo true), (5, u64 (e : Nat)), (7, u64 (j.val.2.1 : Nat)), (8, u64 (j.val.2.2 : Nat))]) (fun _ => []) (fun j => 1075 - e - j.val.1) ⟨(0, 4503599627370496 + f, e), Nat.zero_le _, Nat.mod_one _, (Nat.div_one _).symm, rfl⟩ [] ⟨⟨rfl, rfl, congrArg u64 ?_, rfl, True.intro⟩, True.intro, rfl, rfl, rfl⟩ ?_
    · show wrp .u64 ((f : Int) + 4503599627370496) = ((4503599627370496 + f : Nat) : Int)
      rw [wrpE, wu64]
      omega
    intro j K hK
    obtain ⟨⟨j, m, i⟩, hj, hm, hmj, hi⟩ := j
    replace hj : j ≤ 1075 - e := hj
    replace hm : (4503599627370496 + f) % 2 ^ j = 0 := hm
    replace hmj : m = (4503599627370496 + f) / 2 ^ j := hmj
    replace hi : i = e + j := hi
    have hst := half_step hm
    rw [← hmj] at hst
    have hmlt : m < 9007199254740992 := by rw [hmj]; exact Nat.lt_of_le_of_lt (Nat.div_le_self _ _) (by omega)
    refine forkD (fun g => ?_) (fun g => ?_) <;> (first | replace g : (i : Int) < 1075 := g | replace g : ¬ (i : Int) < 1075 := g)
    · have g' : e + j < 1075 := by omega
      refine Ob.intro (by decide) ?_
      have em : hd ((m : Int).tmod 2) = ((m % 2 : Nat) : Int) := tmod_u _ 2
      refine fork (fun g1 => ?_) (fun g1 => ?_)
      · rw [em] at g1
        have g1 : m % 2 = 1 := by
          have := beq_iff_eq.1 g1
          omega
        have hne : ¬ (4503599627370496 + f) % 2 ^ (1075 - e) = 0 := by
          intro h0
          have hd : (2 : Nat) ^ (j + 1) ∣ 2 ^ (1075 - e) := Nat.pow_dvd_pow 2 (by omega)
          have h2 : (4503599627370496 + f) % 2 ^ (j + 1) = 0 := Nat.mod_eq_zero_of_dvd (Nat.dvd_trans hd (Nat.dvd_of_mod_eq_zero h0))
          have := hst.1.2 h2
          omega
        refine end0 rfl rfl rfl ?_
        unfold rwO rwN
        rw [if_neg (fun h => h1 h.1), if_neg (by omega), if_pos hne, if_neg (fun h => h1 h.1), if_neg (by omega), if_pos hne]
        rfl
      · rw [em] at g1
        have g1 : m % 2 = 0 := by
          have := beq_eq_false_iff_ne.1 g1
          omega
        refine Ob.intro (by decide) ?_
        refine hK ⟨(j + 1, m / 2, i + 1), show j + 1 ≤ 1075 - e by omega, hst.1.1 g1, hst.2, show i + 1 = e + (j + 1) by omega⟩ [] _ ?_ ?_
        · show 1075 - e - j = 1075 - e - (j + 1) + 1
          omega
        · refine ⟨⟨rfl, rfl, congrArg u64 (?_ : wrp .u64 ((m : Int).tdiv 2) = ((m / 2 : Nat) : Int)), congrArg u64 (?_ : wrp .u64 ((i : Int) + 1) = ((i + 1 : Nat) : Int)), True.intro⟩, True.intro, rfl, rfl, rfl⟩
          · exact tdiv_u _ 2 (by omega)
          · rw [wrpE, wu64]
            omega
    · have g' : j = 1075 - e := by omega
      subst g'
      have tail : ∀ M : Nat, M = rwM e f → ¬ (4503599627370496 + f) % 2 ^ (1075 - e) ≠ 0 → rwO true e f = decide (M ≤ 9223372036854775808) ∧ rwN true e f = wrp .i64 (wrp .u64 (0 - (M : Int))) := fun M hM h => by
        unfold rwO rwN
        have a1 : ¬ (e = 0 ∧ f = 0) := fun h => h1 h.1
        have a2 : ¬ (e < 1023 ∨ 1086 < e) := by omega
        refine ⟨?_, ?_⟩
        · rw [if_neg a1, if_neg a2, if_neg h, if_pos rfl, hM]
        · rw [if_neg a1, if_neg a2, if_neg h, if_pos rfl, hM]
      clear hK
      refine loopI (α := RuSt e m) (fun x => [(4, bo true), (5, u64 (e : Nat)), (7, u64 (x.val.2.1 : Nat)), (9, u64 (x.val.2.2 : Nat))]) (fun _ => []) (fun x => e - 1075 - x.val.1) ⟨(0, m, 1075), Nat.zero_le _, by simp, rfl⟩ [] ⟨⟨rfl, rfl, rfl, rfl, True.intro⟩, True.intro, rfl, rfl, rfl⟩ ?_
      intro x K hK
      obtain ⟨⟨i, M, t⟩, hi2, hM, ht2⟩ := x
      replace hi2 : i ≤ e - 1075 := hi2
      replace hM : M = m * 2 ^ i := hM
      replace ht2 : t = 1075 + i := ht2
      have hMlt : ∀ j, j ≤ e - 1075 → m * 2 ^ j < 18446744073709551616 := fun j hj => by rw [hmj]; exact rwM_lt he2 hf j hj
      refine forkD (fun g2 => ?_) (fun g2 => ?_) <;> (first | replace g2 : (t : Int) < (e : Int) := g2 | replace g2 : ¬ (t : Int) < (e : Int) := g2)
      · have g2' : 1075 + i < e := by omega
        refine hK ⟨(i + 1, M * 2, t + 1), show i + 1 ≤ e - 1075 by omega, show M * 2 = m * 2 ^ (i + 1) by rw [hM, Nat.pow_succ, Nat.mul_assoc], show t + 1 = 1075 + (i + 1) by omega⟩ [] _ ?_ ?_
        · show e - 1075 - i = e - 1075 - (i + 1) + 1
          omega
        · refine ⟨⟨rfl, rfl, congrArg u64 (?_ : wrp .u64 ((M : Int) * 2) = ((M * 2 : Nat) : Int)), congrArg u64 (?_ : wrp .u64 ((t : Int) + 1) = ((t + 1 : Nat) : Int)), True.intro⟩, True.intro, rfl, rfl, rfl⟩
          · have := hMlt (i + 1) (by omega)
            rw [Nat.pow_succ, ← Nat.mul_assoc, ← hM] at this
            rw [wrpE, wu64]
            omega
          · rw [wrpE, wu64]
            omega
      · have g2' : i = e - 1075 := by omega
        subst g2'
        have hMe : M = rwM e f := by rw [hM, hmj]; rfl
        have ht := tail M hMe (by simpa using hm)
        refine forkD (fun g3 => ?_) (fun g3 => ?_) <;> (first | replace g3 : (M : Int) ≤ 9223372036854775808 := g3 | replace g3 : ¬ (M : Int) ≤ 9223372036854775808 := g3)
        · refine end0 rfl rfl rfl ?_
          have g3' : M ≤ 9223372036854775808 := by omega
          rw [ht.1, ht.2, decide_eq_true g3']
          rfl
        · refine end0 rfl rfl rfl ?_
          have g3' : ¬ M ≤ 9223372036854775808 := by omega
          rw [ht.1, ht.2, decide_eq_false g3']
          rfl
theorem rWhole_pos (b : Nat) (hb : b < 18446744073709551616) (hng : decide (9223372036854775808 ≤ b) = false) : ACalls Try.prog 20 [fl b] [] (Ret (.tup [i64 (rwN false (b / 4503599627370496 % 2048) (b % 4503599627370496)), bo (rwO false (b / 4503599627370496 % 2048) (b % 4503599627370496))])) := by
  have hp := parts_ok b hb
  rw [hng] at hp
  have he : b / 4503599627370496 % 2048 < 2048 := by omega
  have hf : b % 4503599627370496 < 4503599627370496 := by omega
  refine acalls_of_awp hT mixed Try.func20 rfl (by kernel_rfl) (by kernel_rfl) (Nat.le_of_ble_eq_true rfl) ?_
  refine callP hp rfl rfl ?_
  clear hp
  generalize b / 4503599627370496 % 2048 = e at *
  generalize b % 4503599627370496 = f at *
  have small : ¬ (e = 0 ∧ f = 0) → (e < 1023 ∨ 1086 < e) → AV.tup [i64 0, bo false] = AV.tup [i64 (rwN false e f), bo (rwO false e f)] := fun h1 h2 => by
    unfold rwO rwN
    rw [if_neg h1, if_neg h1, if_pos h2, if_pos h2]
  refine fork (fun h1 => ?_) (fun h1 => ?_)
  · have h1 : e = 0 := by simpa using h1
    refine fork (fun h2 => ?_) (fun h2 => ?_)
    · have h2 : f = 0 := by simpa using h2
      refine end0 rfl rfl rfl ?_
      unfold rwO rwN
      rw [if_pos ⟨h1, h2⟩, if_pos ⟨h1, h2⟩]
      rfl
    · have h2 : ¬ f = 0 := by simpa using h2
      refine forkD (fun h3 => ?_) (fun h3 => by omega)
      refine end0 rfl rfl rfl (small (fun h => h2 h.2) (by omega))
  · have h1 : ¬ e = 0 := by simpa using h1
    refine forkD (fun h3 => ?_) (fun h3 => ?_)
    · refine end0 rfl rfl rfl (small (fun h => h1 h.1) (by omega))
    refine forkD (fun h4 => ?_) (fun h4 => ?_)
    · refine end0 rfl rfl rfl (small (fun h => h1 h.1) (by omega))
    have he1 : 1023 ≤ e := by omega
    have he2 : e ≤ 1086 := by omega
    clear h3 h4
    have hk : 1075 - e ≤ 52 := by omega
    refine loopI (α := RwSt e f) (fun j => [(4, bo false), (5, u64 (e : Nat)), (7, u64 (j.val.2.1 : Nat)), (8, u64 (j.val.2.2 : Nat))]) (fun _ => []) (fun j => 1075 - e - j.val.1) ⟨(0, 4503599627370496 + f, e), Nat.zero_le _, Nat.mod_one _, (Nat.div_one _).symm, rfl⟩ [] ⟨⟨rfl, rfl, congrArg u64 ?_, rfl, True.intro⟩, True.intro, rfl, rfl, rfl⟩ ?_
    · show wrp .u64 ((f : Int) + 4503599627370496) = ((4503599627370496 + f : Nat) : Int)
      rw [wrpE, wu64]
      omega
    intro j K hK
    obtain ⟨⟨j, m, i⟩, hj, hm, hmj, hi⟩ := j
    replace hj : j ≤ 1075 - e := hj
    replace hm : (4503599627370496 + f) % 2 ^ j = 0 := hm
    replace hmj : m = (4503599627370496 + f) / 2 ^ j := hmj
    replace hi : i = e + j := hi
    have hst := half_step hm
    rw [← hmj] at hst
    have hmlt : m < 9007199254740992 := by rw [hmj]; exact Nat.lt_of_le_of_lt (Nat.div_le_self _ _) (by omega)
    refine forkD (fun g => ?_) (fun g => ?_) <;> (first | replace g : (i : Int) < 1075 := g | replace g : ¬ (i : Int) < 1075 := g)
    · have g' : e + j < 1075 := by omega
      refine Ob.intro (by decide) ?_
      have em : hd ((m : Int).tmod 2) = ((m % 2 : Nat) : Int) := tmod_u _ 2
      refine fork (fun g1 => ?_) (fun g1 => ?_)
      · rw [em] at g1
        have g1 : m % 2 = 1 := by
          have := beq_iff_eq.1 g1
          omega
        have hne : ¬ (4503599627370496 + f) % 2 ^ (1075 - e) = 0 := by
          intro h0
          have hd : (2 : Nat) ^ (j + 1) ∣ 2 ^ (1075 - e) := Nat.pow_dvd_pow 2 (by omega)
          have h2 : (4503599627370496 + f) % 2 ^ (j + 1) = 0 := Nat.mod_eq_zero_of_dvd (Nat.dvd_trans hd (Nat.dvd_of_mod_eq_zero h0))
          have := hst.1.2 h2
          omega
        refine end0 rfl rfl rfl ?_
        unfold rwO rwN
        rw [if_neg (fun h => h1 h.1), if_neg (by omega), if_pos hne, if_neg (fun h => h1 h.1), if_neg (by omega), if_pos hne]
        rfl
      · rw [em] at g1
        have g1 : m % 2 = 0 := by
          have := beq_eq_false_iff_ne.1 g1
          omega
        refine Ob.intro (by decide) ?_
        refine hK ⟨(j + 1, m / 2, i + 1), show j + 1 ≤ 1075 - e by omega, hst.1.1 g1, hst.2, show i + 1 = e + (j + 1) by omega⟩ [] _ ?_ ?_
        · show 1075 - e - j = 1075 - e - (j + 1) + 1
          omega
        · refine ⟨⟨rfl, rfl, congrArg u64 (?_ : wrp .u64 ((m : Int).tdiv 2) = ((m / 2 : Nat) : Int)), congrArg u64 (?_ : wrp .u64 ((i : Int) + 1) = ((i + 1 : Nat) : Int)), True.intro⟩, True.intro, rfl, rfl, rfl⟩
          · exact tdiv_u _ 2 (by omega)
          · rw [wrpE, wu64]
            omega
    · have g' : j = 1075 - e := by omega
      subst g'
      have tail : ∀ M : Nat, M = rwM e f → ¬ (4503599627370496 + f) % 2 ^ (1075 - e) ≠ 0 → rwO false e f = decide (M < 9223372036854775808) ∧ rwN false e f = wrp .i64 (M : Int) := fun M hM h => by
        unfold rwO rwN
        have a1 : ¬ (e = 0 ∧ f = 0) := fun h => h1 h.1
        have a2 : ¬ (e < 1023 ∨ 1086 < e) := by omega
        refine ⟨?_, ?_⟩
        · rw [if_neg a1, if_neg a2, if_neg h, if_neg (by decide), hM]
        · rw [if_neg a1, if_neg a2, if_neg h, if_neg (by decide), hM]
      clear hK
      refine loopI (α := RuSt e m) (fun x => [(4, bo false), (5, u64 (e : Nat)), (7, u64 (x.val.2.1 : Nat)), (9, u64 (x.val.2.2 : Nat))]) (fun _ => []) (fun x => e - 1075 - x.val.1) ⟨(0, m, 1075), Nat.zero_le _, by simp, rfl⟩ [] ⟨⟨rfl, rfl, rfl, rfl, True.intro⟩, True.intro, rfl, rfl, rfl⟩ ?_
      intro x K hK
      obtain ⟨⟨i, M, t⟩, hi2, hM, ht2⟩ := x
      replace hi2 : i ≤ e - 1075 := hi2
      replace hM : M = m * 2 ^ i := hM
      replace ht2 : t = 1075 + i := ht2
      have hMlt : ∀ j, j ≤ e - 1075 → m * 2 ^ j < 18446744073709551616 := fun j hj => by rw [hmj]; exact rwM_lt he2 hf j hj
      refine forkD (fun g2 => ?_) (fun g2 => ?_) <;> (first | replace g2 : (t : Int) < (e : Int) := g2 | replace g2 : ¬ (t : Int) < (e : Int) := g2)
      · have g2' : 1075 + i < e := by omega
        refine hK ⟨(i + 1, M * 2, t + 1), show i + 1 ≤ e - 1075 by omega, show M * 2 = m * 2 ^ (i + 1) by rw [hM, Nat.pow_succ, Nat.mul_assoc], show t + 1 = 1075 + (i + 1) by omega⟩ [] _ ?_ ?_
        · show e - 1075 - i = e - 1075 - (i + 1) + 1
          omega
        · refine ⟨⟨rfl, rfl, congrArg u64 (?_ : wrp .u64 ((M : Int) * 2) = ((M * 2 : Nat) : Int)), congrArg u64 (?_ : wrp .u64 ((t : Int) + 1) = ((t + 1 : Nat) : Int)), True.intro⟩, True.intro, rfl, rfl, rfl⟩
          · have := hMlt (i + 1) (by omega)
            rw [Nat.pow_succ, ← Nat.mul_assoc, ← hM] at this
            rw [wrpE, wu64]
            omega
          · rw [wrpE, wu64]
            omega
      · have g2' : i = e - 1075 := by omega
        subst g2'
        have hMe : M = rwM e f := by rw [hM, hmj]; rfl
        have ht := tail M hMe (by simpa using hm)
        refine forkD (fun g3 => ?_) (fun g3 => ?_) <;> (first | replace g3 : (M : Int) < 9223372036854775808 := g3 | replace g3 : ¬ (M : Int) < 9223372036854775808 := g3)
        · refine end0 rfl rfl rfl ?_
          have g3' : M < 9223372036854775808 := by omega
          rw [ht.1, ht.2, decide_eq_true g3']
          rfl
        · refine end0 rfl rfl rfl ?_
          have g3' : ¬ M < 9223372036854775808 := by omega
          rw [ht.1, ht.2, decide_eq_false g3']
          rfl
theorem rWhole_ok (b : Nat) (hb : b < 18446744073709551616) : ACalls Try.prog 20 [fl b] [] (Ret (.tup [i64 (rwN (negB b) (b / 4503599627370496 % 2048) (b % 4503599627370496)), bo (rwO (negB b) (b / 4503599627370496 % 2048) (b % 4503599627370496))])) := by
  cases hn : negB b
  · refine rWhole_pos b hb (decide_eq_false fun h => ?_)
    rw [(negB_iff hb).2 h] at hn
    cases hn
  · exact rWhole_neg b hb (decide_eq_true ((negB_iff hb).1 hn))
theorem rwM_eq {e f : Nat} (he1 : 1023 ≤ e) (he2 : e ≤ 1086) (hf : f < 4503599627370496) : rwM e f = intR (e * 4503599627370496 + f) := by
  have h1 : (e * 4503599627370496 + f) % 4503599627370496 = f := by omega
  have h2 : (e * 4503599627370496 + f) / 4503599627370496 = e := by omega
  unfold rwM intR
  rw [h1, h2]
  by_cases h : 1075 ≤ e
  · rw [if_pos (by omega), show 1075 - e = 0 by omega, Nat.pow_zero, Nat.div_one]
  · rw [if_neg (by omega), if_neg (by omega), show e - 1075 = 0 by omega, Nat.pow_zero, Nat.mul_one]
theorem truncR_eq {e f : Nat} (he1 : 1023 ≤ e) (hf : f < 4503599627370496) : truncR (e * 4503599627370496 + f) = e * 4503599627370496 + f ↔ (4503599627370496 + f) % 2 ^ (1075 - e) = 0 := by
  have h1 : (e * 4503599627370496 + f) % 4503599627370496 = f := by omega
  have h2 : (e * 4503599627370496 + f) / 4503599627370496 = e := by omega
  unfold truncR
  rw [h1, h2]
  by_cases h : 1075 ≤ e
  · rw [if_pos (by omega), show 1075 - e = 0 by omega, Nat.pow_zero]
    simp [Nat.mod_one]
  · rw [if_neg (by omega), if_neg (by omega), mod_lead (by omega)]
    have : f % 2 ^ (1075 - e) ≤ f := Nat.mod_le _ _
    omega
theorem rw_wh {b : Nat} (hb : b < 18446744073709551616) : (rwO (negB b) (b / 4503599627370496 % 2048) (b % 4503599627370496) = true ↔ whB b) ∧ (whB b → rwN (negB b) (b / 4503599627370496 % 2048) (b % 4503599627370496) = intB b) := by
  have hf : b % 4503599627370496 < 4503599627370496 := by omega
  have hr : b % 9223372036854775808 = b / 4503599627370496 % 2048 * 4503599627370496 + b % 4503599627370496 := by omega
  have hE : b / 4503599627370496 % 2048 < 2048 := by omega
  unfold whB inB intB
  rw [hr]
  generalize b / 4503599627370496 % 2048 = e at *
  generalize b % 4503599627370496 = f at *
  generalize negB b = ng
  unfold rwO rwN
  have hff : ∀ {p : Prop}, false = true → p := fun h => by cases h
  by_cases h0 : e = 0 ∧ f = 0
  · obtain ⟨rfl, rfl⟩ := h0
    rw [if_pos ⟨rfl, rfl⟩, if_pos ⟨rfl, rfl⟩]
    cases ng <;> exact ⟨⟨fun _ => by decide, fun _ => rfl⟩, fun _ => by decide⟩
  · rw [if_neg h0, if_neg h0]
    by_cases h1 : e < 1023 ∨ 1086 < e
    · rw [if_pos h1, if_pos h1]
      have hno : ¬ (((ng = true ∧ e * 4503599627370496 + f ≤ 4890909195324358656) ∨ (ng = false ∧ e * 4503599627370496 + f < 4890909195324358656)) ∧ truncR (e * 4503599627370496 + f) = e * 4503599627370496 + f) := by
        rintro ⟨hi, ht⟩
        rcases h1 with h1 | h1
        · unfold truncR at ht
          rw [if_neg (by omega), if_pos (by omega)] at ht
          omega
        · omega
      exact ⟨⟨fun h => hff h, fun h => absurd h hno⟩, fun h => absurd h hno⟩
    · rw [if_neg h1, if_neg h1]
      have he1 : 1023 ≤ e := by omega
      have he2 : e ≤ 1086 := by omega
      rw [truncR_eq he1 hf, rwM_eq he1 he2 hf]
      by_cases h2 : (4503599627370496 + f) % 2 ^ (1075 - e) ≠ 0
      · rw [if_pos h2, if_pos h2]
        exact ⟨⟨fun h => hff h, fun h => absurd h.2 h2⟩, fun h => absurd h.2 h2⟩
      · rw [if_neg h2, if_neg h2]
        have h2' : (4503599627370496 + f) % 2 ^ (1075 - e) = 0 := by simpa using h2
        have hbig : 4890909195324358656 ≤ e * 4503599627370496 + f → intR (e * 4503599627370496 + f) = (4503599627370496 + f) * 2048 := fun h => by
          have h3 : e = 1086 := by omega
          subst h3
          unfold intR
          rw [if_pos (by omega)]
          have h4 : (1086 * 4503599627370496 + f) % 4503599627370496 = f := by omega
          have h5 : (1086 * 4503599627370496 + f) / 4503599627370496 = 1086 := by omega
          rw [h4, h5]
        have hsm := fun h => intR_le (r := e * 4503599627370496 + f) h
        generalize intR (e * 4503599627370496 + f) = M at *
        cases ng
        · simp only [Bool.false_eq_true, if_false, false_and, false_or, true_and]
          have hiff : M < 9223372036854775808 ↔ e * 4503599627370496 + f < 4890909195324358656 := by
            constructor
            · intro h
              rcases Nat.lt_or_ge (e * 4503599627370496 + f) 4890909195324358656 with h3 | h3
              · exact h3
              · have := hbig h3; omega
            · intro h; exact (hsm (by omega)).2 h
          refine ⟨?_, fun h => ?_⟩
          · rw [decide_eq_true_eq, hiff]; simp [h2']
          · have := hiff.2 h.1
            rw [wrpE, wi64]; omega
        · simp only [if_true, true_and, Bool.true_eq_false, false_and, or_false]
          have hiff : M ≤ 9223372036854775808 ↔ e * 4503599627370496 + f ≤ 4890909195324358656 := by
            constructor
            · intro h
              rcases Nat.lt_or_ge 4890909195324358656 (e * 4503599627370496 + f) with h3 | h3
              · have := hbig (by omega); omega
              · exact h3
            · intro h; exact (hsm h).1
          refine ⟨?_, fun h => ?_⟩
          · rw [decide_eq_true_eq, hiff]; simp [h2']
          · have := hiff.2 h.1
            rw [wrpE, wrpE, wi64, wu64]; omega
end Go.Proofs.Ytihjhigckomapaa.A
