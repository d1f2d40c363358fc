/- expr: Right, Run, Trace. No condition. -/
import Derived.Test.YtdjpcmlnhkiokaaEe
namespace Go.Proofs.Ytdjpcmlnhkiokaa.A
open Go
set_option linter.unusedVariables false
set_option maxRecDepth 100000
set_option pp.maxSteps 1500

def rightC (c : Int × Nat) : Bool := if c.1 = 2 then (bitsB c.2 : Int) == (c.2 : Int) else decide (1 ≤ c.1) && decide (c.1 ≤ 16) && ((c.2 : Int) == 0)
theorem right_ok (op : Int) (b : Nat) : ACalls Try.prog 25 [.agg [i64 op, u64 b]] [] (Ret (bo (rightC (op, b)))) := by
  have h1 := from_ok b
  have h2 := bits_ok (bitsB b)
  rw [bitsB_bitsB] at h2
  have e2 : op = 2 → rightC (op, b) = ((bitsB b : Int) == (b : Int)) := fun h => if_pos h
  have e3 : op ≠ 2 → rightC (op, b) = (decide (1 ≤ op) && decide (op ≤ 16) && ((b : Int) == 0)) := fun h => if_neg h
  generalize rightC (op, b) = rc at *
  generalize bitsB b = z at *
  refine acalls_of_awp hT mixed Try.func25 rfl (by kernel_rfl) (by kernel_rfl) (Nat.le_of_ble_eq_true rfl) ?_
  refine fork (fun h => ?_) (fun h => ?_)
  · have hop : op = 2 := by have := beq_iff_eq.1 h; exact this
    rw [e2 hop]
    refine ⟨[0, 0, 1, 2, 0, 0, 2, 2], [[], [0], [0, 1], [0, 1, 2], [], [4], [0, 1, 2, 3, 4, 5], [0, 1, 2, 3, 4, 5, 6]], [0, 0, 0, 0, 0, 0, 0, 0], [2, 3], [[1], [6], [7], [8], [1], [10], [9, 11], [12]], Ob.intro (by kernel_rfl) ?_⟩
    repeat refine same ?_
    refine callP h1 rfl rfl ?_
    repeat refine same ?_
    refine callP h2 rfl rfl ?_
    repeat refine same ?_
    refine fork (fun g => ?_) (fun g => ?_) <;> rw [g] <;> repeat refine same ?_
    · refine endG rfl rfl rfl (G := []) True.intro (Nat.zero_le _) rfl ⟨rfl, rfl⟩
    · refine endG rfl rfl rfl (G := []) True.intro (Nat.zero_le _) rfl ⟨rfl, rfl⟩
  · have hop : op ≠ 2 := by have := beq_eq_false_iff_ne.1 h; exact this
    rw [e3 hop]
    refine forkD (fun g => ?_) (fun g => ?_)
    · rw [decide_eq_true (show 1 ≤ op from g)]
      refine forkD (fun g2 => ?_) (fun g2 => ?_)
      · rw [decide_eq_true (show op ≤ 16 from g2)]
        refine fork (fun g => ?_) (fun g => ?_) <;> rw [g]
        · refine endG rfl rfl rfl (G := []) True.intro (Nat.zero_le _) rfl ⟨rfl, rfl⟩
        · refine endG rfl rfl rfl (G := []) True.intro (Nat.zero_le _) rfl ⟨rfl, rfl⟩
      · rw [decide_eq_false (show ¬ op ≤ 16 from g2)]
        refine endG rfl rfl rfl (G := []) True.intro (Nat.zero_le _) rfl ⟨rfl, rfl⟩
    · rw [decide_eq_false (show ¬ 1 ≤ op from g)]
      refine endG rfl rfl rfl (G := []) True.intro (Nat.zero_le _) rfl ⟨rfl, rfl⟩
def rightP (p : List (Int × Nat)) : Bool := p.all rightC && (decide (1 ≤ p.length) && decide (p.length ≤ 32))
theorem rightP_ok (p : List (Int × Nat)) (hl : p.length < 4611686018427387904) : ACalls Try.prog 15 [.view p.length (flat cd p)] [] (Ret (bo (rightP p))) := by
  refine acalls_of_awp hT mixed Try.func15 rfl (by kernel_rfl) (by kernel_rfl) (Nat.le_of_ble_eq_true rfl) ?_
  refine loopI (α := { k : Nat // k ≤ p.length ∧ ∀ c ∈ p.take k, rightC c = true }) (fun z => [(0, .view p.length (flat cd p)), (5, .view p.length (flat cd p)), (6, i64 p.length), (7, i64 (z.val : Nat))]) (fun z => []) (fun z => p.length - z.val)
    ⟨0, Nat.zero_le _, fun c hc => by cases hc⟩ [] ⟨⟨rfl, rfl, rfl, rfl, True.intro⟩, True.intro, rfl, rfl, rfl⟩ ?_
  rintro ⟨k, hk, hall⟩ K hK
  have hinc : wrp .i64 ((k : Int) + 1) = ((k + 1 : Nat) : Int) := by rw [wrpE, wi64]; omega
  refine forkD (fun h => ?_) (fun h => ?_)
  · have h' : k < p.length := by have : (k : Int) < (p.length : Int) := h; omega
    obtain ⟨c, hc⟩ : ∃ c, p[k]? = some c := ⟨_, List.getElem?_eq_getElem h'⟩
    refine Ob.intro (show (0 : Int) ≤ (k : Nat) ∧ ((k : Nat) : Int) < (p.length : Nat) by omega) ?_
    refine optK_intro (flat_takeN cd_len hc) ?_
    have hr := right_ok c.1 c.2
    cases hq : rightC c with
    | true =>
      rw [show (c.1, c.2) = c from rfl, hq] at hr
      refine callP hr rfl rfl ?_
      refine hK ⟨k + 1, h', ?_⟩ [] _ (show p.length - k = p.length - (k + 1) + 1 by omega) ⟨⟨rfl, rfl, rfl, congrArg i64 hinc, True.intro⟩, True.intro, rfl, rfl, rfl⟩
      intro d hd
      rw [take_snocA hc] at hd
      rcases List.mem_append.1 hd with hd | hd
      · exact hall d hd
      · rw [List.mem_singleton.1 hd, hq]
    | false =>
      rw [show (c.1, c.2) = c from rfl, hq] at hr
      refine callP hr rfl rfl ?_
      have : rightP p = false := by
        unfold rightP
        rw [show p.all rightC = false from List.all_eq_false.2 ⟨c, List.mem_of_getElem? hc, by rw [hq]; decide⟩]
        rfl
      rw [this]
      refine endG rfl rfl rfl (G := []) True.intro (Nat.zero_le _) rfl ⟨rfl, rfl⟩
  · have h' : k = p.length := by have : ¬ (k : Int) < (p.length : Int) := h; omega
    rw [h', List.take_length] at hall
    have ha : p.all rightC = true := List.all_eq_true.2 hall
    refine forkD (fun g => ?_) (fun g => ?_)
    · have g' : 1 ≤ p.length := by have : (1 : Int) ≤ (p.length : Int) := g; omega
      refine forkD (fun g2 => ?_) (fun g2 => ?_)
      · have g2' : p.length ≤ 32 := by have : (p.length : Int) ≤ 32 := g2; omega
        have : rightP p = true := by unfold rightP; rw [ha, decide_eq_true g', decide_eq_true g2']; rfl
        rw [this]
        refine endG rfl rfl rfl (G := []) True.intro (Nat.zero_le _) rfl ⟨rfl, rfl⟩
      · have g2' : ¬ p.length ≤ 32 := by have : ¬ (p.length : Int) ≤ 32 := g2; omega
        have : rightP p = false := by unfold rightP; rw [ha, decide_eq_true g', decide_eq_false g2']; rfl
        rw [this]
        refine endG rfl rfl rfl (G := []) True.intro (Nat.zero_le _) rfl ⟨rfl, rfl⟩
    · have g' : ¬ 1 ≤ p.length := by have : ¬ (1 : Int) ≤ (p.length : Int) := g; omega
      have : rightP p = false := by unfold rightP; rw [ha, decide_eq_false g']; rfl
      rw [this]
      refine endG rfl rfl rfl (G := []) True.intro (Nat.zero_le _) rfl ⟨rfl, rfl⟩
theorem rightP_okC {p : List (Int × Nat)} (h : rightP p = true) (hb : ∀ c ∈ p, c.2 < 18446744073709551616) : (∀ c ∈ p, okC c) ∧ 1 ≤ p.length ∧ p.length ≤ 32 := by
  unfold rightP at h
  rw [Bool.and_eq_true, Bool.and_eq_true, decide_eq_true_eq, decide_eq_true_eq] at h
  refine ⟨fun c hc => ?_, h.2.1, h.2.2⟩
  have h1 := List.all_eq_true.1 h.1 c hc
  refine ⟨?_, hb c hc⟩
  unfold rightC at h1
  split at h1
  · omega
  · simp only [Bool.and_eq_true, decide_eq_true_eq] at h1
    exact h1.1
/-- What a program tells, and whether it goes wrong. -/
noncomputable def runE (p : List (Int × Nat)) (x : Nat) : Nat × Int :=
  if rightP p = true then (if (runS x p []).2 < p.length ∨ (runS x p []).1.length ≠ 1 then (0, 20) else (at0 (runS x p []).1 0, 0)) else (0, 1)
theorem renH_stP7 (r : Nat → Nat) (n : Nat) (l : List Nat) : renH r (stP 7 n l) = [.row [.slc (r 7) 0 n 1], .dead, .dead, .dead, .dead, .dead, .dead, .row (l.map fl)] := by
  simp only [stP, List.replicate, List.cons_append, List.nil_append, renH, renO_fl]; rfl
theorem Run_ok (p : List (Int × Nat)) (x : Nat) (hx : x < 18446744073709551616) (hb : ∀ c ∈ p, c.2 < 18446744073709551616) (hl : p.length < 4611686018427387904) : ACalls Try.prog 10 [.view p.length (flat cd p), fl x] [] (Ret (.tup [fl (runE p x).1, i64 (runE p x).2])) := by
  have hR := rightP_ok p hl
  cases hq : rightP p with
  | false =>
    have e : runE p x = (0, 1) := by unfold runE; rw [if_neg (by rw [hq]; decide)]
    rw [e]
    rw [hq] at hR
    refine acalls_of_awp hT mixed Try.func10 rfl (by kernel_rfl) (by kernel_rfl) (Nat.le_of_ble_eq_true rfl) ?_
    refine callP hR rfl rfl ?_
    refine endG rfl rfl rfl (G := []) True.intro (Nat.zero_le _) rfl ⟨rfl, rfl⟩
  | true =>
    rw [hq] at hR
    have e : runE p x = if (runS x p []).2 < p.length ∨ (runS x p []).1.length ≠ 1 then (0, 20) else (at0 (runS x p []).1 0, 0) := by unfold runE; rw [if_pos hq]
    rw [e]
    have hr := run_ok p x hx (rightP_okC hq hb).1 hl
    unfold RunR at hr
    generalize runS x p [] = r at *
    obtain ⟨s, m⟩ := r
    dsimp only at *
    refine acalls_of_awp hT mixed Try.func10 rfl (by kernel_rfl) (by kernel_rfl) (Nat.le_of_ble_eq_true rfl) ?_
    refine callP hR rfl rfl ?_
    refine callS hr [] True.intro rfl ?_
    rintro E G ⟨rfl, n, l, hn, hs, hG⟩ _
    have hlen : s.length = n := by rw [← hs, List.length_take]; omega
    have h0 : n = 1 → rd1 [.row [.slc 1 0 n 1], .row (l.map fl)] 1 (0 + (0 : Int).toNat * 1) = some (fl (at0 s 0)) := fun h1 => by
      refine rd1_map (k := 0) rfl ?_
      rw [← hs, h1]
      unfold at0
      rw [List.getD_eq_getElem?_getD, List.getElem?_take_of_lt (by decide), List.getElem?_eq_getElem (by omega)]
      rfl
    have h0' : n = 1 → rd1 [.row [.slc 7 0 n 1], .dead, .dead, .dead, .dead, .dead, .dead, .row (l.map fl)] 7 (0 + (0 : Int).toNat * 1) = some (fl (at0 s 0)) := fun h1 => by
      refine rd1_map (k := 0) rfl ?_
      rw [← hs, h1]
      unfold at0
      rw [List.getD_eq_getElem?_getD, List.getElem?_take_of_lt (by decide), List.getElem?_eq_getElem (by omega)]
      rfl
    rcases hG with rfl | rfl
    · refine ⟨_, [.row [.slc 1 0 n 1], .row (l.map fl)], rfl, by rw [show stP 1 n l = stH n l from rfl, renH_st]; rfl, ?_⟩
      refine forkD (fun h1 => ?_) (fun h1 => ?_)
      · have h1' : m < p.length := by have : (m : Int) < (p.length : Int) := h1; omega
        rw [if_pos (.inl h1')]
        refine endG rfl rfl rfl (G := []) True.intro (Nat.zero_le _) rfl ⟨rfl, rfl⟩
      · have h1' : ¬ m < p.length := by have : ¬ (m : Int) < (p.length : Int) := h1; omega
        refine fork (fun h2 => ?_) (fun h2 => ?_)
        · have h2' : s.length ≠ 1 := by
            have := bne_iff_ne.1 h2
            omega
          rw [if_pos (.inr h2')]
          refine endG rfl rfl rfl (G := []) True.intro (Nat.zero_le _) rfl ⟨rfl, rfl⟩
        · have h2' : n = 1 := by
            have := bne_eq_false_iff_eq.1 h2
            omega
          rw [if_neg (by omega)]
          refine Ob.intro (show (0 : Int) ≤ 0 ∧ 0 < (n : Int) by omega) ?_
          refine optK_intro (h0 h2') ?_
          refine endG rfl rfl rfl (G := []) True.intro (Nat.zero_le _) rfl ⟨rfl, rfl⟩
    · refine ⟨_, [.row [.slc 7 0 n 1], .dead, .dead, .dead, .dead, .dead, .dead, .row (l.map fl)], rfl, by rw [renH_stP7]; rfl, ?_⟩
      refine forkD (fun h1 => ?_) (fun h1 => ?_)
      · have h1' : m < p.length := by have : (m : Int) < (p.length : Int) := h1; omega
        rw [if_pos (.inl h1')]
        refine endG rfl rfl rfl (G := []) True.intro (Nat.zero_le _) rfl ⟨rfl, rfl⟩
      · have h1' : ¬ m < p.length := by have : ¬ (m : Int) < (p.length : Int) := h1; omega
        refine fork (fun h2 => ?_) (fun h2 => ?_)
        · have h2' : s.length ≠ 1 := by
            have := bne_iff_ne.1 h2
            omega
          rw [if_pos (.inr h2')]
          refine endG rfl rfl rfl (G := []) True.intro (Nat.zero_le _) rfl ⟨rfl, rfl⟩
        · have h2' : n = 1 := by
            have := bne_eq_false_iff_eq.1 h2
            omega
          rw [if_neg (by omega)]
          refine Ob.intro (show (0 : Int) ≤ 0 ∧ 0 < (n : Int) by omega) ?_
          refine optK_intro (h0' h2') ?_
          refine endG rfl rfl rfl (G := []) True.intro (Nat.zero_le _) rfl ⟨rfl, rfl⟩
end Go.Proofs.Ytdjpcmlnhkiokaa.A
