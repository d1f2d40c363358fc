/- label: comparisons, and what is a label. No condition. -/
import Derived.Test.YthebddjpnkimjaaBb
namespace Go.Proofs.Ythebddjpnkimjaa.A
open Go
set_option linter.unusedVariables false
set_option maxRecDepth 100000
set_option pp.maxSteps 1500

def sgI (x y : Int) : Int := if x < y then -1 else if y < x then 1 else 0
/-- Of two lists, part by part. -/
def lexI : List Nat → List Nat → Int
  | x :: a, y :: b => if x < y then -1 else if y < x then 1 else lexI a b
  | _, _ => 0
def cmpL (a b : List Nat) : Int := if a.length < b.length then -1 else if b.length < a.length then 1 else lexI a b
theorem lexI_drop {a b : List Nat} {k x y : Nat} (hx : a[k]? = some x) (hy : b[k]? = some y) : lexI (a.drop k) (b.drop k) = if x < y then -1 else if y < x then 1 else lexI (a.drop (k + 1)) (b.drop (k + 1)) := by
  obtain ⟨h1, rfl⟩ := List.getElem?_eq_some_iff.1 hx
  obtain ⟨h2, rfl⟩ := List.getElem?_eq_some_iff.1 hy
  rw [List.drop_eq_getElem_cons h1, List.drop_eq_getElem_cons h2, lexI]
theorem lexI_end {a b : List Nat} {k : Nat} (h : a.length ≤ k) : lexI (a.drop k) (b.drop k) = 0 := by
  rw [List.drop_eq_nil_of_le h]
  rfl
theorem compL_ok (a b : List Nat) (hn : a.length < 9223372036854775807) (hm : b.length < 9223372036854775807) : ACalls Try.prog 34 [us a, us b] [] (Ret (i64 (cmpL a b))) := by
  refine acalls_of_awp hT mixed Try.func34 rfl (by kernel_rfl) (by kernel_rfl) (Nat.le_of_ble_eq_true rfl) ?_
  refine forkD (fun h => ?_) (fun h => ?_)
  · have h' : a.length < b.length := by have : (a.length : Int) < (b.length : Int) := h; omega
    refine end0 rfl rfl rfl (congrArg i64 (by unfold cmpL; rw [if_pos h']))
  have h' : ¬ a.length < b.length := by have : ¬ (a.length : Int) < (b.length : Int) := h; omega
  refine forkD (fun h2 => ?_) (fun h2 => ?_)
  · have h2' : b.length < a.length := by have : (b.length : Int) < (a.length : Int) := h2; omega
    refine end0 rfl rfl rfl (congrArg i64 (by unfold cmpL; rw [if_neg h', if_pos h2']))
  have h2' : ¬ b.length < a.length := by have : ¬ (b.length : Int) < (a.length : Int) := h2; omega
  have hc : cmpL a b = lexI a b := by unfold cmpL; rw [if_neg h', if_neg h2']
  rw [hc]
  have hl : a.length = b.length := by omega
  refine loopI (α := { k : Nat // k ≤ a.length ∧ lexI (a.drop k) (b.drop k) = lexI a b }) (fun k => [(0, us a), (1, us b), (5, i64 (k.val : Nat))]) (fun _ => []) (fun k => a.length - k.val) ⟨0, Nat.zero_le _, rfl⟩ [] ⟨⟨rfl, rfl, rfl, True.intro⟩, True.intro, rfl, rfl, rfl⟩ ?_
  rintro ⟨k, hk, hx⟩ K hK
  have hinc : wrp .i64 ((k : Int) + 1) = ((k + 1 : Nat) : Int) := by rw [wrpE, wi64]; omega
  refine forkD (fun h => ?_) (fun h => ?_)
  · have h' : k < a.length := by have : (k : Int) < (a.length : Int) := h; omega
    obtain ⟨y, hy⟩ : ∃ y, a[k]? = some y := ⟨_, List.getElem?_eq_getElem h'⟩
    obtain ⟨z, hz⟩ : ∃ z, b[k]? = some z := ⟨_, List.getElem?_eq_getElem (by omega)⟩
    have hb := (show (0 : Int) ≤ (k : Nat) ∧ ((k : Nat) : Int) < (a.length : Nat) by omega)
    have hb2 := (show (0 : Int) ≤ (k : Nat) ∧ ((k : Nat) : Int) < (b.length : Nat) by omega)
    rw [lexI_drop hy hz] at hx
    refine ⟨[0, 0, 0, 0, 0, 0, 0, 0, 0], [[], [], [0, 1], [0, 1, 2], [], [], [4, 5], [4, 5, 6], [0, 1, 2, 3, 4, 5, 6, 7]], [0, 0, 0, 0, 0, 0, 0, 0, 0], [], [[0], [5], [22, 23], [24], [1], [5], [26, 27], [28], [25, 29]], Ob.intro (by kernel_rfl) ?_⟩
    refine Ob.intro hb ?_
    refine optK_intro (nth_map hy) ?_
    refine Ob.intro hb2 ?_
    refine optK_intro (nth_map hz) ?_
    refine forkD (fun h => ?_) (fun h => ?_)
    · have h3 : y < z := by have : (y : Int) < (z : Int) := h; omega
      rw [if_pos h3] at hx
      refine optK_intro (nth_map hy) ?_
      refine same ?_
      refine optK_intro (nth_map hz) ?_
      refine same ?_
      refine end0 rfl rfl rfl (congrArg i64 hx)
    have h3 : ¬ y < z := by have : ¬ (y : Int) < (z : Int) := h; omega
    rw [if_neg h3] at hx
    refine optK_intro (nth_map hy) ?_
    refine same ?_
    refine optK_intro (nth_map hz) ?_
    refine same ?_
    refine ⟨[0, 0, 0, 0, 0, 0, 0, 0, 0], [[], [], [0, 1], [0, 1, 2], [], [], [4, 5], [4, 5, 6], [0, 1, 2, 3, 4, 5, 6, 7]], [0, 0, 0, 0, 0, 0, 0, 0, 0], [], [[0], [5], [31, 32], [33], [1], [5], [35, 36], [37], [34, 38]], Ob.intro (by kernel_rfl) ?_⟩
    refine Ob.intro hb ?_
    refine optK_intro (nth_map hy) ?_
    refine Ob.intro hb2 ?_
    refine optK_intro (nth_map hz) ?_
    refine forkD (fun h => ?_) (fun h => ?_)
    · have h4 : z < y := by have : (y : Int) > (z : Int) := h; omega
      rw [if_pos h4] at hx
      refine optK_intro (nth_map hy) ?_
      refine same ?_
      refine optK_intro (nth_map hz) ?_
      refine same ?_
      refine end0 rfl rfl rfl (congrArg i64 hx)
    have h4 : ¬ z < y := by have : ¬ (y : Int) > (z : Int) := h; omega
    rw [if_neg h4] at hx
    refine optK_intro (nth_map hy) ?_
    refine same ?_
    refine optK_intro (nth_map hz) ?_
    refine same ?_
    refine hK ⟨k + 1, h', hx⟩ [] _ (show a.length - k = a.length - (k + 1) + 1 by omega) ⟨⟨rfl, rfl, congrArg i64 hinc, True.intro⟩, True.intro, rfl, rfl, rfl⟩
  · have h' : k = a.length := by have : ¬ (k : Int) < (a.length : Int) := h; omega
    rw [lexI_end (Nat.le_of_eq h'.symm)] at hx
    refine end0 rfl rfl rfl (congrArg i64 hx)
theorem lexI_zero : ∀ {a b : List Nat}, a.length = b.length → (lexI a b = 0 ↔ a = b)
  | [], [], _ => by simp [lexI]
  | [], _ :: _, h => by simp at h
  | _ :: _, [], h => by simp at h
  | x :: a, y :: b, h => by
    have ih := lexI_zero (a := a) (b := b) (by simpa using h)
    unfold lexI
    by_cases h1 : x < y
    · rw [if_pos h1]
      simp
      intro he
      omega
    · rw [if_neg h1]
      by_cases h2 : y < x
      · rw [if_pos h2]
        simp
        intro he
        omega
      · rw [if_neg h2, ih]
        have : x = y := by omega
        simp [this]
theorem cmpL_zero (a b : List Nat) : cmpL a b = 0 ↔ a = b := by
  unfold cmpL
  by_cases h1 : a.length < b.length
  · rw [if_pos h1]
    refine ⟨fun h => by omega, fun h => by rw [h] at h1; omega⟩
  · rw [if_neg h1]
    by_cases h2 : b.length < a.length
    · rw [if_pos h2]
      refine ⟨fun h => by omega, fun h => by rw [h] at h2; omega⟩
    · rw [if_neg h2]
      exact lexI_zero (by omega)
theorem sameL_ok (a b : List Nat) (hn : a.length < 9223372036854775807) (hm : b.length < 9223372036854775807) : ACalls Try.prog 18 [us a, us b] [] (Ret (bo (decide (a = b)))) := by
  refine acalls_of_awp hT mixed Try.func18 rfl (by kernel_rfl) (by kernel_rfl) (Nat.le_of_ble_eq_true rfl) ?_
  refine callP (compL_ok a b hn hm) rfl rfl ?_
  refine fork (fun h => ?_) (fun h => ?_)
  · refine end0 rfl rfl rfl (congrArg bo (decide_eq_true ((cmpL_zero a b).1 (beq_iff_eq.1 h))).symm)
  · refine end0 rfl rfl rfl (congrArg bo (decide_eq_false (fun he => beq_eq_false_iff_ne.1 h ((cmpL_zero a b).2 he))).symm)
/-- It rises from p on. -/
def risB : Nat → List Nat → Bool
  | _, [] => true
  | p, x :: l => decide (p < x) && risB x l
def rightB (l : List Nat) : Bool := decide (l.length ≤ 6) && risB 0 l
theorem risB_drop {l : List Nat} {k p x : Nat} (hx : l[k]? = some x) : risB p (l.drop k) = (decide (p < x) && risB x (l.drop (k + 1))) := by
  obtain ⟨h1, rfl⟩ := List.getElem?_eq_some_iff.1 hx
  rw [List.drop_eq_getElem_cons h1, risB]
structure RtSt (l : List Nat) where
  k : Nat
  p : Nat
  hk : k ≤ l.length
  hp : risB p (l.drop k) = risB 0 l
theorem right_ok (l : List Nat) (hn : l.length < 9223372036854775807) : ACalls Try.prog 59 [us l] [] (Ret (bo (rightB l))) := by
  refine acalls_of_awp hT mixed Try.func59 rfl (by kernel_rfl) (by kernel_rfl) (Nat.le_of_ble_eq_true rfl) ?_
  refine forkD (fun h => ?_) (fun h => ?_)
  · have h' : ¬ l.length ≤ 6 := by have : (l.length : Int) > 6 := h; omega
    refine end0 rfl rfl rfl (congrArg bo (by unfold rightB; rw [decide_eq_false h']; rfl))
  have h' : l.length ≤ 6 := by have : ¬ (l.length : Int) > 6 := h; omega
  have hr : rightB l = risB 0 l := by unfold rightB; rw [decide_eq_true h']; rfl
  rw [hr]
  refine loopI (α := RtSt l) (fun z => [(0, us l), (3, u64n z.p), (9, us l), (10, i64 l.length), (11, i64 (z.k : Nat))]) (fun _ => []) (fun z => l.length - z.k) ⟨0, 0, Nat.zero_le _, rfl⟩ [] ⟨⟨rfl, rfl, rfl, rfl, rfl, True.intro⟩, True.intro, rfl, rfl, rfl⟩ ?_
  rintro ⟨k, p, hk, hp⟩ K hK
  have hinc : wrp .i64 ((k : Int) + 1) = ((k + 1 : Nat) : Int) := by rw [wrpE, wi64]; omega
  refine forkD (fun h => ?_) (fun h => ?_)
  · have h' : k < l.length := by have : (k : Int) < (l.length : Int) := h; omega
    obtain ⟨y, hy⟩ : ∃ y, l[k]? = some y := ⟨_, List.getElem?_eq_getElem h'⟩
    rw [risB_drop hy] at hp
    refine Ob.intro (show (0 : Int) ≤ (k : Nat) ∧ ((k : Nat) : Int) < (l.length : Nat) by omega) ?_
    refine optK_intro (nth_map hy) ?_
    refine forkD (fun g => ?_) (fun g => ?_)
    · have g' : ¬ p < y := by have : (y : Int) ≤ (p : Int) := g; omega
      rw [decide_eq_false g', Bool.false_and] at hp
      refine end0 rfl rfl rfl (congrArg bo hp)
    have g' : p < y := by have : ¬ (y : Int) ≤ (p : Int) := g; omega
    rw [decide_eq_true g', Bool.true_and] at hp
    refine hK ⟨k + 1, y, h', hp⟩ [] _ (show l.length - k = l.length - (k + 1) + 1 by omega) ⟨⟨rfl, rfl, rfl, rfl, congrArg i64 hinc, True.intro⟩, True.intro, rfl, rfl, rfl⟩
  · have h' : k = l.length := by have : ¬ (k : Int) < (l.length : Int) := h; omega
    rw [h', List.drop_length] at hp
    refine end0 rfl rfl rfl (congrArg bo hp)
end Go.Proofs.Ythebddjpnkimjaa.A
