/- label: comparisons, and what is a label. No condition. -/
import Derived.Test.YtmfifbclldnpkaaBb
namespace Go.Proofs.Ytmfifbclldnpkaa.A
open Go
set_option linter.unusedVariables false
set_option maxRecDepth 100000
set_option pp.maxSteps 1500

theorem nanU_ok (x : Int) : ACalls Try.prog 60 [u64 x] [] (Ret (bo false)) := by
  refine acalls_of_awp hT mixed Try.func60 rfl (by kernel_rfl) (by kernel_rfl) (Nat.le_of_ble_eq_true rfl) ?_
  refine fork (fun h => absurd rfl (bne_iff_ne.1 h)) (fun h => ?_)
  refine end0 rfl rfl rfl rfl
theorem lessU_ok (x y : Int) : ACalls Try.prog 55 [u64 x, u64 y] [] (Ret (bo (decide (x < y)))) := by
  refine acalls_of_awp hT mixed Try.func55 rfl (by kernel_rfl) (by kernel_rfl) (Nat.le_of_ble_eq_true rfl) ?_
  refine callP (nanU_ok _) rfl rfl ?_
  refine forkD (fun h => ?_) (fun h => ?_)
  · refine end0 rfl rfl rfl (congrArg bo (decide_eq_true (show x < y from h)).symm)
  · refine end0 rfl rfl rfl (congrArg bo (decide_eq_false (show ¬ x < y from h)).symm)
/-- Of two lists, part by part. -/
def lexI : List Nat → List Nat → Int
  | x :: a, y :: b => if x < y then -1 else if y < x then 1 else lexI a b
  | _, _ => 0
def cmpL (a b : List Nat) : Int := if a.length < b.length then -1 else if b.length < a.length then 1 else lexI a b
theorem lexI_drop {a b : List Nat} {k x y : Nat} (hx : a[k]? = some x) (hy : b[k]? = some y) : lexI (a.drop k) (b.drop k) = if x < y then -1 else if y < x then 1 else lexI (a.drop (k + 1)) (b.drop (k + 1)) := by
  obtain ⟨h1, rfl⟩ := List.getElem?_eq_some_iff.1 hx
  obtain ⟨h2, rfl⟩ := List.getElem?_eq_some_iff.1 hy
  rw [List.drop_eq_getElem_cons h1, List.drop_eq_getElem_cons h2, lexI]
theorem lexI_end {a b : List Nat} {k : Nat} (h : a.length ≤ k) : lexI (a.drop k) (b.drop k) = 0 := by
  rw [List.drop_eq_nil_of_le h]
  rfl
theorem compL_ok (a b : List Nat) (hn : a.length < 9223372036854775807) (hm : b.length < 9223372036854775807) : ACalls Try.prog 27 [us a, us b] [] (Ret (i64 (cmpL a b))) := by
  refine acalls_of_awp hT mixed Try.func27 rfl (by kernel_rfl) (by kernel_rfl) (Nat.le_of_ble_eq_true rfl) ?_
  refine forkD (fun h => ?_) (fun h => ?_)
  · have h' : a.length < b.length := by have : (a.length : Int) < (b.length : Int) := h; omega
    refine end0 rfl rfl rfl (congrArg i64 (by unfold cmpL; rw [if_pos h']))
  have h' : ¬ a.length < b.length := by have : ¬ (a.length : Int) < (b.length : Int) := h; omega
  refine forkD (fun h2 => ?_) (fun h2 => ?_)
  · have h2' : b.length < a.length := by have : (b.length : Int) < (a.length : Int) := h2; omega
    refine end0 rfl rfl rfl (congrArg i64 (by unfold cmpL; rw [if_neg h', if_pos h2']))
  have h2' : ¬ b.length < a.length := by have : ¬ (b.length : Int) < (a.length : Int) := h2; omega
  have hc : cmpL a b = lexI a b := by unfold cmpL; rw [if_neg h', if_neg h2']
  rw [hc]
  have hl : a.length = b.length := by omega
  refine loopI (α := { k : Nat // k ≤ a.length ∧ lexI (a.drop k) (b.drop k) = lexI a b }) (fun k => [(0, us a), (1, us b), (5, i64 (k.val : Nat))]) (fun _ => []) (fun k => a.length - k.val) ⟨0, Nat.zero_le _, rfl⟩ [] ⟨⟨rfl, rfl, rfl, True.intro⟩, True.intro, rfl, rfl, rfl⟩ ?_
  rintro ⟨k, hk, hx⟩ K hK
  have hinc : wrp .i64 ((k : Int) + 1) = ((k + 1 : Nat) : Int) := by rw [wrpE, wi64]; omega
  refine forkD (fun h => ?_) (fun h => ?_)
  · have h' : k < a.length := by have : (k : Int) < (a.length : Int) := h; omega
    obtain ⟨y, hy⟩ : ∃ y, a[k]? = some y := ⟨_, List.getElem?_eq_getElem h'⟩
    obtain ⟨z, hz⟩ : ∃ z, b[k]? = some z := ⟨_, List.getElem?_eq_getElem (by omega)⟩
    have hb := (show (0 : Int) ≤ (k : Nat) ∧ ((k : Nat) : Int) < (a.length : Nat) by omega)
    have hb2 := (show (0 : Int) ≤ (k : Nat) ∧ ((k : Nat) : Int) < (b.length : Nat) by omega)
    rw [lexI_drop hy hz] at hx
    refine ⟨[0, 0, 0, 0, 0, 0, 0, 0, 0], [[], [], [0, 1], [0, 1, 2], [], [], [4, 5], [4, 5, 6], [0, 1, 2, 3, 4, 5, 6, 7]], [0, 0, 0, 0, 0, 0, 0, 0, 0], [], [[0], [5], [22, 23], [24], [1], [5], [26, 27], [28], [25, 29]], Ob.intro (by kernel_rfl) ?_⟩
    refine Ob.intro hb ?_
    refine optK_intro (nth_map hy) ?_
    refine Ob.intro hb2 ?_
    refine optK_intro (nth_map hz) ?_
    refine forkD (fun h => ?_) (fun h => ?_)
    · have h3 : y < z := by have : (y : Int) < (z : Int) := h; omega
      rw [if_pos h3] at hx
      refine optK_intro (nth_map hy) ?_
      refine same ?_
      refine optK_intro (nth_map hz) ?_
      refine same ?_
      refine end0 rfl rfl rfl (congrArg i64 hx)
    have h3 : ¬ y < z := by have : ¬ (y : Int) < (z : Int) := h; omega
    rw [if_neg h3] at hx
    refine optK_intro (nth_map hy) ?_
    refine same ?_
    refine optK_intro (nth_map hz) ?_
    refine same ?_
    refine ⟨[0, 0, 0, 0, 0, 0, 0, 0, 0], [[], [], [0, 1], [0, 1, 2], [], [], [4, 5], [4, 5, 6], [0, 1, 2, 3, 4, 5, 6, 7]], [0, 0, 0, 0, 0, 0, 0, 0, 0], [], [[0], [5], [31, 32], [33], [1], [5], [35, 36], [37], [34, 38]], Ob.intro (by kernel_rfl) ?_⟩
    refine Ob.intro hb ?_
    refine optK_intro (nth_map hy) ?_
    refine Ob.intro hb2 ?_
    refine optK_intro (nth_map hz) ?_
    refine forkD (fun h => ?_) (fun h => ?_)
    · have h4 : z < y := by have : (y : Int) > (z : Int) := h; omega
      rw [if_pos h4] at hx
      refine optK_intro (nth_map hy) ?_
      refine same ?_
      refine optK_intro (nth_map hz) ?_
      refine same ?_
      refine end0 rfl rfl rfl (congrArg i64 hx)
    have h4 : ¬ z < y := by have : ¬ (y : Int) > (z : Int) := h; omega
    rw [if_neg h4] at hx
    refine optK_intro (nth_map hy) ?_
    refine same ?_
    refine optK_intro (nth_map hz) ?_
    refine same ?_
    refine hK ⟨k + 1, h', hx⟩ [] _ (show a.length - k = a.length - (k + 1) + 1 by omega) ⟨⟨rfl, rfl, congrArg i64 hinc, True.intro⟩, True.intro, rfl, rfl, rfl⟩
  · have h' : k = a.length := by have : ¬ (k : Int) < (a.length : Int) := h; omega
    rw [lexI_end (Nat.le_of_eq h'.symm)] at hx
    refine end0 rfl rfl rfl (congrArg i64 hx)
theorem lexI_zero : ∀ {a b : List Nat}, a.length = b.length → (lexI a b = 0 ↔ a = b)
  | [], [], _ => by simp [lexI]
  | [], _ :: _, h => by simp at h
  | _ :: _, [], h => by simp at h
  | x :: a, y :: b, h => by
    have ih := lexI_zero (a := a) (b := b) (by simpa using h)
    unfold lexI
    by_cases h1 : x < y
    · rw [if_pos h1]
      simp
      intro he
      omega
    · rw [if_neg h1]
      by_cases h2 : y < x
      · rw [if_pos h2]
        simp
        intro he
        omega
      · rw [if_neg h2, ih]
        have : x = y := by omega
        simp [this]
theorem cmpL_zero (a b : List Nat) : cmpL a b = 0 ↔ a = b := by
  unfold cmpL
  by_cases h1 : a.length < b.length
  · rw [if_pos h1]
    refine ⟨fun h => by omega, fun h => by rw [h] at h1; omega⟩
  · rw [if_neg h1]
    by_cases h2 : b.length < a.length
    · rw [if_pos h2]
      refine ⟨fun h => by omega, fun h => by rw [h] at h2; omega⟩
    · rw [if_neg h2]
      exact lexI_zero (by omega)
theorem sameL_ok (a b : List Nat) (hn : a.length < 9223372036854775807) (hm : b.length < 9223372036854775807) : ACalls Try.prog 16 [us a, us b] [] (Ret (bo (decide (a = b)))) := by
  refine acalls_of_awp hT mixed Try.func16 rfl (by kernel_rfl) (by kernel_rfl) (Nat.le_of_ble_eq_true rfl) ?_
  refine callP (compL_ok a b hn hm) rfl rfl ?_
  refine fork (fun h => ?_) (fun h => ?_)
  · refine end0 rfl rfl rfl (congrArg bo (decide_eq_true ((cmpL_zero a b).1 (beq_iff_eq.1 h))).symm)
  · refine end0 rfl rfl rfl (congrArg bo (decide_eq_false (fun he => beq_eq_false_iff_ne.1 h ((cmpL_zero a b).2 he))).symm)
/-- It rises from p on. -/
def risB : Nat → List Nat → Bool
  | _, [] => true
  | p, x :: l => decide (p < x) && risB x l
def rightB (l : List Nat) : Bool := decide (l.length ≤ 6) && risB 0 l
theorem risB_drop {l : List Nat} {k p x : Nat} (hx : l[k]? = some x) : risB p (l.drop k) = (decide (p < x) && risB x (l.drop (k + 1))) := by
  obtain ⟨h1, rfl⟩ := List.getElem?_eq_some_iff.1 hx
  rw [List.drop_eq_getElem_cons h1, risB]
structure RtSt (l : List Nat) where
  k : Nat
  p : Nat
  hk : k ≤ l.length
  hp : risB p (l.drop k) = risB 0 l
theorem right_ok (l : List Nat) (hn : l.length < 9223372036854775807) : ACalls Try.prog 12 [us l] [] (Ret (bo (rightB l))) := by
  refine acalls_of_awp hT mixed Try.func12 rfl (by kernel_rfl) (by kernel_rfl) (Nat.le_of_ble_eq_true rfl) ?_
  refine forkD (fun h => ?_) (fun h => ?_)
  · have h' : ¬ l.length ≤ 6 := by have : (l.length : Int) > 6 := h; omega
    refine end0 rfl rfl rfl (congrArg bo (by unfold rightB; rw [decide_eq_false h']; rfl))
  have h' : l.length ≤ 6 := by have : ¬ (l.length : Int) > 6 := h; omega
  have hr : rightB l = risB 0 l := by unfold rightB; rw [decide_eq_true h']; rfl
  rw [hr]
  refine loopI (α := RtSt l) (fun z => [(0, us l), (3, u64n z.p), (9, us l), (10, i64 l.length), (11, i64 (z.k : Nat))]) (fun _ => []) (fun z => l.length - z.k) ⟨0, 0, Nat.zero_le _, rfl⟩ [] ⟨⟨rfl, rfl, rfl, rfl, rfl, True.intro⟩, True.intro, rfl, rfl, rfl⟩ ?_
  rintro ⟨k, p, hk, hp⟩ K hK
  have hinc : wrp .i64 ((k : Int) + 1) = ((k + 1 : Nat) : Int) := by rw [wrpE, wi64]; omega
  refine forkD (fun h => ?_) (fun h => ?_)
  · have h' : k < l.length := by have : (k : Int) < (l.length : Int) := h; omega
    obtain ⟨y, hy⟩ : ∃ y, l[k]? = some y := ⟨_, List.getElem?_eq_getElem h'⟩
    rw [risB_drop hy] at hp
    refine Ob.intro (show (0 : Int) ≤ (k : Nat) ∧ ((k : Nat) : Int) < (l.length : Nat) by omega) ?_
    refine optK_intro (nth_map hy) ?_
    refine forkD (fun g => ?_) (fun g => ?_)
    · have g' : ¬ p < y := by have : (y : Int) ≤ (p : Int) := g; omega
      rw [decide_eq_false g', Bool.false_and] at hp
      refine end0 rfl rfl rfl (congrArg bo hp)
    have g' : p < y := by have : ¬ (y : Int) ≤ (p : Int) := g; omega
    rw [decide_eq_true g', Bool.true_and] at hp
    refine hK ⟨k + 1, y, h', hp⟩ [] _ (show l.length - k = l.length - (k + 1) + 1 by omega) ⟨⟨rfl, rfl, rfl, rfl, congrArg i64 hinc, True.intro⟩, True.intro, rfl, rfl, rfl⟩
  · have h' : k = l.length := by have : ¬ (k : Int) < (l.length : Int) := h; omega
    rw [h', List.drop_length] at hp
    refine end0 rfl rfl rfl (congrArg bo hp)
end Go.Proofs.Ytmfifbclldnpkaa.A

namespace Go.Proofs.Ytmfifbclldnpkaa.A
open Go
set_option linter.unusedVariables false
set_option maxRecDepth 100000
set_option pp.maxSteps 1500

def prevL (l : List Nat) : Nat → Nat
  | 0 => 0
  | j + 1 => l.getD j 0
theorem rright_ok (l : List Nat) (hn : l.length ≤ 9223372036854775807) : ACalls Try.prog 13 [us l] [] (Ret (bo (rightB l))) := by
  refine acalls_of_awp hT mixed Try.func13 rfl (by kernel_rfl) (by kernel_rfl) (Nat.le_of_ble_eq_true rfl) ?_
  refine loopI (α := { k : Nat // k ≤ l.length ∧ risB (prevL l k) (l.drop k) = risB 0 l }) (fun z => [(0, us l), (3, i64 (z.val : Nat))]) (fun _ => []) (fun z => l.length - z.val) ⟨0, Nat.zero_le _, rfl⟩ [] ⟨⟨rfl, rfl, True.intro⟩, True.intro, rfl, rfl, rfl⟩ ?_
  rintro ⟨k, hk, hp⟩ K hK
  refine forkD (fun h => ?_) (fun h => ?_)
  · have h' : k < l.length := by have : (k : Int) < (l.length : Int) := h; omega
    have hinc : wrp .i64 ((k : Int) + 1) = ((k + 1 : Nat) : Int) := by rw [wrpE, wi64]; omega
    obtain ⟨y, hy⟩ : ∃ y, l[k]? = some y := ⟨_, List.getElem?_eq_getElem h'⟩
    rw [risB_drop hy] at hp
    have hb := (show (0 : Int) ≤ (k : Nat) ∧ ((k : Nat) : Int) < (l.length : Nat) by omega)
    have hpv : prevL l (k + 1) = y := by show l.getD k 0 = y; rw [List.getD_eq_getElem?_getD, hy]; rfl
    have next : prevL l k < y → K ⟨frL [(0, us l), (3, i64 ((k + 1 : Nat) : Int))], [], []⟩ → True := fun _ _ => True.intro
    refine ⟨[0, 0, 0, 0, 0, 0, 0, 0, 0, 0, 0, 0, 0, 0, 0, 0, 0, 0, 0, 0, 0], [[], [], [0, 1], [0, 1, 2], [0, 1, 2, 3], [0, 1, 2, 3, 4], [0, 1, 2, 3, 4, 5], [0, 1, 2, 3, 4, 5, 6], [0, 1, 2, 3, 4, 5, 6, 7], [0, 1, 2, 3, 4, 5, 6, 7, 8], [0, 1, 2, 3, 4, 5, 6, 7, 8], [0, 1, 2, 3, 4, 5, 6, 7, 8, 10], [0, 1, 2, 3, 4, 5, 6, 7, 8, 9, 10, 11], [0, 1, 2, 3, 4, 5, 6, 7, 8, 9, 10, 11, 12], [0, 1, 2, 3, 4, 5, 6, 7, 8], [0, 1, 2, 3, 4, 5, 6, 7, 8], [0, 1, 2, 3, 4, 5, 6, 7, 8, 14, 15], [0, 1, 2, 3, 4, 5, 6, 7, 8, 14, 15, 16], [0, 1, 2, 3, 4, 5, 6, 7, 8, 9, 10, 11, 12, 13, 14, 15, 16, 17], [0, 1, 2, 3, 4, 5, 6, 7, 8, 9, 10, 11, 12, 13, 14, 15, 16, 17, 18], [0, 1, 2, 3, 4, 5, 6, 7, 8, 9, 10, 11, 12, 13, 14, 15, 16, 17, 18, 19]], [0, 0, 0, 0, 0, 0, 0, 0, 0, 0, 0, 0, 0, 0, 0, 0, 0, 0, 0, 0, 0], [], [[0], [3], [10, 11], [12], [13], [14], [3, 15], [16, 15], [17, 15], [0, 18], [3, 18], [20, 18], [19, 21, 18], [22, 18], [0, 18], [3, 18], [24, 25, 18], [26, 18], [23, 27, 18], [18, 28, 15], [15, 29]], Ob.intro (by kernel_rfl) ?_⟩
    refine Ob.intro hb ?_
    refine optK_intro (nth_map hy) ?_
    refine fork (fun g => ?_) (fun g => ?_)
    · have g' : ¬ prevL l k < y := by
        have : (y : Int) = 0 := beq_iff_eq.1 g
        omega
      rw [decide_eq_false g', Bool.false_and] at hp
      repeat first | refine same ?_ | refine optK_intro (nth_map hy) ?_
      refine end0 rfl rfl rfl (congrArg bo ?_)
      unfold rightB
      rw [← hp, Bool.and_false]
    have g' : y ≠ 0 := by
      have : (y : Int) ≠ 0 := beq_eq_false_iff_ne.1 g
      omega
    refine forkD (fun g2 => ?_) (fun g2 => ?_)
    · have g2' : 0 < k := by have : (k : Int) > 0 := g2; omega
      obtain ⟨j, rfl⟩ : ∃ j, k = j + 1 := ⟨k - 1, by omega⟩
      have hw : wrp .i64 (((j + 1 : Nat) : Int) - 1) = ((j : Nat) : Int) := by rw [wrpE, wi64]; omega
      obtain ⟨z, hz⟩ : ∃ z, l[j]? = some z := ⟨_, List.getElem?_eq_getElem (by omega)⟩
      have hz2 : l[(wrp .i64 (((j + 1 : Nat) : Int) - 1)).toNat]? = some z := by rw [hw, Int.toNat_natCast]; exact hz
      have hb2 : (0 : Int) ≤ wrp .i64 (((j + 1 : Nat) : Int) - 1) ∧ wrp .i64 (((j + 1 : Nat) : Int) - 1) < (l.length : Nat) := by rw [hw]; omega
      have hzp : prevL l (j + 1) = z := by show l.getD j 0 = z; rw [List.getD_eq_getElem?_getD, hz]; rfl
      rw [hzp] at hp
      refine Ob.intro hb2 ?_
      refine optK_intro (nth_mapI hz2) ?_
      refine Ob.intro hb ?_
      refine optK_intro (nth_map hy) ?_
      refine forkD (fun g3 => ?_) (fun g3 => ?_)
      · have g3' : ¬ z < y := by have : (z : Int) ≥ (y : Int) := g3; omega
        rw [decide_eq_false g3', Bool.false_and] at hp
        refine optK_intro (nth_map hy) ?_
        refine same ?_
        refine optK_intro (nth_mapI hz2) ?_
        refine same ?_
        refine optK_intro (nth_map hy) ?_
        refine same ?_
        refine end0 rfl rfl rfl (congrArg bo ?_)
        unfold rightB
        rw [← hp, Bool.and_false]
      · have g3' : z < y := by have : ¬ (z : Int) ≥ (y : Int) := g3; omega
        rw [decide_eq_true g3', Bool.true_and] at hp
        refine optK_intro (nth_map hy) ?_
        refine same ?_
        refine optK_intro (nth_mapI hz2) ?_
        refine same ?_
        refine optK_intro (nth_map hy) ?_
        refine same ?_
        refine hK ⟨j + 1 + 1, h', by rw [hpv]; exact hp⟩ [] _ (show l.length - (j + 1) = l.length - (j + 1 + 1) + 1 by omega) ⟨⟨rfl, congrArg i64 hinc, True.intro⟩, True.intro, rfl, rfl, rfl⟩
    · have g2' : k = 0 := by have : ¬ (k : Int) > 0 := g2; omega
      subst g2'
      have g3' : prevL l 0 < y := by show 0 < y; omega
      rw [decide_eq_true g3', Bool.true_and] at hp
      repeat first | refine same ?_ | refine optK_intro (nth_map hy) ?_
      refine hK ⟨0 + 1, h', by rw [hpv]; exact hp⟩ [] _ (show l.length - 0 = l.length - (0 + 1) + 1 by omega) ⟨⟨rfl, congrArg i64 hinc, True.intro⟩, True.intro, rfl, rfl, rfl⟩
  · have h' : k = l.length := by have : ¬ (k : Int) < (l.length : Int) := h; omega
    rw [h', List.drop_length] at hp
    have hr : rightB l = decide (l.length ≤ 6) := by unfold rightB; rw [← hp]; exact Bool.and_true _
    refine forkD (fun g => ?_) (fun g => ?_)
    · have g' : l.length ≤ 6 := by have : (l.length : Int) ≤ 6 := g; omega
      refine end0 rfl rfl rfl (congrArg bo (by rw [hr, decide_eq_true g']))
    · have g' : ¬ l.length ≤ 6 := by have : ¬ (l.length : Int) ≤ 6 := g; omega
      refine end0 rfl rfl rfl (congrArg bo (by rw [hr, decide_eq_false g']))
end Go.Proofs.Ytmfifbclldnpkaa.A

namespace Go.Proofs.Ytmfifbclldnpkaa.A
open Go
set_option linter.unusedVariables false
set_option maxRecDepth 100000
set_option pp.maxSteps 1500

theorem rd_us {H : Heap} {p off k x : Nat} {R : List Nat} (h : nth H p = some (.row (R.map u64n))) (hk : off = k) (hx : R[k]? = some x) : rd1 H p off = some (u64n x) := by
  subst hk
  unfold rd1
  rw [h]
  show nth (R.map u64n) off = _
  rw [nth_eq, List.getElem?_map, hx]
  rfl
theorem wr_us {K : Heap → Prop} {H : Heap} {p off k : Nat} {l : List AV} {R : List Nat} {x : Nat} (h : nth H p = some (.row (R.map u64n))) (hx : l = [u64n x]) (hk : off = k) (hl : k < R.length) (q : K (H.set p (.row ((R.set k x).map u64n)))) : optK (wr H p off l) K := by
  subst hx hk
  refine optK_intro (wr_eq h (by rw [List.length_map]; exact hl)) ?_
  have e : setAll (R.map u64n) off [u64n x] = (R.set off x).map u64n := by
    rw [List.map_set]
    rfl
  rw [e]
  exact q
/-- The number at a place. -/
def atN (R : List Nat) (k : Nat) : Nat := R.getD k 0
theorem atN_some {R : List Nat} {k : Nat} (h : k < R.length) : R[k]? = some (atN R k) := by
  unfold atN
  rw [List.getD_eq_getElem?_getD, List.getElem?_eq_getElem h]
  rfl
/-- Two places changed for one another. -/
def swp (R : List Nat) (i j : Nat) : List Nat := (R.set i (atN R j)).set j (atN R i)
theorem swp_len (R : List Nat) (i j : Nat) : (swp R i j).length = R.length := by unfold swp; rw [List.length_set, List.length_set]
theorem swp_at {R : List Nat} {i j : Nat} (hi : i < R.length) (hj : j < R.length) (k : Nat) : atN (swp R i j) k = if k = j then atN R i else if k = i then atN R j else atN R k := by
  unfold swp
  show List.getD _ k 0 = _
  rw [List.getD_eq_getElem?_getD, List.getElem?_set]
  by_cases h1 : k = j
  · subst h1
    rw [if_pos rfl, if_pos rfl, if_pos (by rw [List.length_set]; exact hj)]
    rfl
  · rw [if_neg (Ne.symm h1), if_neg h1, List.getElem?_set]
    by_cases h2 : k = i
    · subst h2
      rw [if_pos rfl, if_pos rfl, if_pos hi]
      rfl
    · rw [if_neg (Ne.symm h2), if_neg h2]
      rw [← List.getD_eq_getElem?_getD]
      rfl
theorem swp_perm {R : List Nat} {i j : Nat} (hi : i < R.length) (hj : j < R.length) : (swp R i j).Perm R := by
  have h1 : atN R i = R[i] := by unfold atN; rw [List.getD_eq_getElem?_getD, List.getElem?_eq_getElem hi]; rfl
  have h2 : atN R j = R[j] := by unfold atN; rw [List.getD_eq_getElem?_getD, List.getElem?_eq_getElem hj]; rfl
  unfold swp
  rw [h1, h2]
  exact List.set_set_perm hi hj
/-- As many of each, and as it was outside of a, b. -/
structure SO (a b : Nat) (R R' : List Nat) : Prop where
  len : R'.length = R.length
  perm : R'.Perm R
  out : ∀ k, k < a ∨ b ≤ k → atN R' k = atN R k
theorem SO.refl (a b : Nat) (R : List Nat) : SO a b R R := ⟨rfl, .refl _, fun _ _ => rfl⟩
theorem SO.trans {a b : Nat} {R S T : List Nat} (h : SO a b R S) (k : SO a b S T) : SO a b R T := ⟨k.len.trans h.len, k.perm.trans h.perm, fun i hi => (k.out i hi).trans (h.out i hi)⟩
theorem SO.wide {a b c d : Nat} {R S : List Nat} (h : SO a b R S) (h1 : c ≤ a) (h2 : b ≤ d) : SO c d R S := ⟨h.len, h.perm, fun k hk => h.out k (by omega)⟩
theorem SO.swp {a b i j : Nat} {R : List Nat} (hi : i < R.length) (hj : j < R.length) (h1 : a ≤ i ∧ i < b) (h2 : a ≤ j ∧ j < b) : SO a b R (swp R i j) :=
  ⟨swp_len R i j, swp_perm hi hj, fun k hk => by rw [swp_at hi hj, if_neg (by omega), if_neg (by omega)]⟩
/-- It doesn't fall in a, b. -/
def SI (a b : Nat) (R : List Nat) : Prop := ∀ i j, a ≤ i → i < j → j < b → atN R i ≤ atN R j
structure InsO (R0 : List Nat) (a b : Nat) where
  i : Nat
  R : List Nat
  h1 : a + 1 ≤ i
  h2 : i ≤ b ∨ i = a + 1
  so : SO a b R0 R
  si : SI a i R
structure InsI (R0 : List Nat) (a b i : Nat) where
  j : Nat
  R : List Nat
  h1 : a ≤ j
  h2 : j ≤ i
  so : SO a b R0 R
  si : ∀ p q, a ≤ p → p < q → q ≤ i → q ≠ j → atN R p ≤ atN R q
theorem belowH_us (R : List Nat) : belowH 1 [.row (R.map u64n)] = true := by
  have h : ∀ l : List Nat, belowL 1 (l.map u64n) = true := fun l => by
    induction l with
    | nil => rfl
    | cons x l ih => show (bif below 1 (u64n x) then belowL 1 (l.map u64n) else false) = true; rw [ih]; rfl
  simp only [belowH, belowO, h]
  rfl
theorem insert_ok (R0 : List Nat) (a b : Nat) (hab : a ≤ b) (hb : b ≤ R0.length) (hn : R0.length < 4611686018427387904) :
    ACalls Try.prog 49 [.slc 0 0 R0.length 1, i64 (a : Nat), i64 (b : Nat)] [.row (R0.map u64n)] (fun E G => ∃ R, SO a b R0 R ∧ SI a b R ∧ E = .ret (.tup []) ∧ G = [.row (R.map u64n)]) := by
  have hinca : wrp .i64 ((a : Int) + 1) = ((a + 1 : Nat) : Int) := by rw [wrpE, wi64]; omega
  refine acalls_of_awp hT mixed Try.func49 rfl (by kernel_rfl) (by kernel_rfl) (Nat.le_of_ble_eq_true rfl) ?_
  refine loopI (α := InsO R0 a b) (fun z => [(0, .slc 0 0 R0.length 1), (1, i64 (a : Nat)), (2, i64 (b : Nat)), (6, i64 (z.i : Nat))]) (fun z => [.row (z.R.map u64n)]) (fun z => b - z.i) ⟨a + 1, R0, Nat.le_refl _, .inr rfl, SO.refl .., fun i j _ _ _ => by omega⟩ [0]
    ⟨⟨rfl, rfl, rfl, congrArg i64 hinca, True.intro⟩, ⟨.inl (by rw [renO_us]; rfl), True.intro⟩, rfl, rfl, rfl⟩ ?_
  rintro ⟨i, R, h1, h2, so, si⟩ K hK
  have hlen := so.len
  have hinc : i < b → wrp .i64 ((i : Int) + 1) = ((i + 1 : Nat) : Int) := fun h => by rw [wrpE, wi64]; omega
  refine forkD (fun h => ?_) (fun h => ?_)
  · have h' : i < b := by have : (i : Int) < (b : Int) := h; omega
    refine loopI (α := InsI R0 a b i) (fun z => [(0, .slc 0 0 R0.length 1), (1, i64 (a : Nat)), (2, i64 (b : Nat)), (6, i64 (i : Nat)), (7, i64 (z.j : Nat))]) (fun z => [.row (z.R.map u64n)]) (fun z => z.j - a) ⟨i, R, by omega, Nat.le_refl _, so, fun p q h1 h2 h3 h4 => si p q h1 h2 (by omega)⟩ [0]
      ⟨⟨rfl, rfl, rfl, rfl, rfl, True.intro⟩, ⟨.inl (by rw [renO_us]; rfl), True.intro⟩, rfl, rfl, rfl⟩ ?_
    rintro ⟨j, R2, j1, j2, so2, si2⟩ K2 hK2
    have hlen2 := so2.len
    have hdec : a < j → wrp .i64 ((j : Int) - 1) = ((j - 1 : Nat) : Int) := fun h => by rw [wrpE, wi64]; omega
    have hxj := atN_some (show j < R2.length by omega)
    have hxp := atN_some (show j - 1 < R2.length by omega)
    have exit : (∀ p q, a ≤ p → p < q → q < i + 1 → atN R2 p ≤ atN R2 q) → SI a (i + 1) R2 := fun h p q h1 h2 h3 => h p q h1 h2 h3
    refine ⟨[0, 0, 0, 0, 0, 0, 0, 0, 0, 0, 0, 0, 0, 1, 1], [[], [], [0, 1], [0, 1, 2], [0, 1, 2, 3], [0, 1, 2, 3], [0, 1, 2, 3, 4, 5], [0, 1, 2, 3, 4, 5, 6], [0, 1, 2, 3], [0, 1, 2, 3], [0, 1, 2, 3, 9], [0, 1, 2, 3, 8, 9, 10], [0, 1, 2, 3, 8, 9, 10, 11], [0, 1, 2, 3, 4, 5, 6, 7, 8, 9, 10, 11, 12], [0, 1, 2, 3, 4, 5, 6, 7, 8, 9, 10, 11, 12, 13]], [0, 0, 0, 0, 0, 0, 0, 0, 0, 0, 0, 0, 0, 0, 0], [13], [[7], [1], [16, 17], [18], [0, 19], [7, 19], [20, 21, 19], [22, 19], [0, 19], [7, 19], [25, 19], [24, 26, 19], [27, 19], [23, 28, 19], [19, 29]], Ob.intro (by kernel_rfl) ?_⟩
    refine forkD (fun g => ?_) (fun g => ?_)
    · have g' : a < j := by have : (j : Int) > (a : Int) := g; omega
      have hb1 : (0 : Int) ≤ (j : Nat) ∧ ((j : Nat) : Int) < (R0.length : Nat) := by omega
      have hb2 : (0 : Int) ≤ wrp .i64 ((j : Int) - 1) ∧ wrp .i64 ((j : Int) - 1) < (R0.length : Nat) := by rw [hdec g']; omega
      refine Ob.intro hb1 ?_
      refine optK_intro (rd_us rfl (ofs j) hxj) ?_
      refine Ob.intro hb2 ?_
      refine optK_intro (rd_us rfl (ofsW (hdec g')) hxp) ?_
      repeat first | refine same ?_ | refine optK_intro (rd_us rfl (ofs j) hxj) ?_ | refine optK_intro (rd_us rfl (ofsW (hdec g')) hxp) ?_
      refine callP (lessU_ok _ _) rfl rfl ?_
      refine forkD (fun q => ?_) (fun q => ?_)
      · have q' : atN R2 j < atN R2 (j - 1) := by have : ((atN R2 j : Nat) : Int) < ((atN R2 (j - 1) : Nat) : Int) := q; omega
        repeat first | refine same ?_ | refine optK_intro (rd_us rfl (ofs j) hxj) ?_ | refine optK_intro (rd_us rfl (ofsW (hdec g')) hxp) ?_
        refine ⟨[0, 0, 0, 0, 0, 0, 0, 0, 0, 0, 0, 0, 0, 0, 0, 1, 1, 2], [[], [], [], [], [3], [], [], [6], [5, 6, 7], [5, 6, 7, 8], [], [], [10, 11], [10, 11, 12], [0, 1, 5, 6, 7, 8, 9, 10, 11, 12, 13], [0, 1, 5, 6, 7, 8, 9, 10, 11, 12, 13, 14], [0, 1, 2, 3, 4, 5, 6, 7, 8, 9, 10, 11, 12, 13, 14, 15], [0, 1, 2, 3, 4, 5, 6, 7, 8, 9, 10, 11, 12, 13, 14, 15, 16]], [0, 0, 0, 0, 0, 0, 0, 0, 0, 0, 0, 0, 0, 0, 0, 0, 0, 0], [15, 17], [[0], [7], [0], [7], [36], [0], [7], [39], [38, 40], [41], [0], [7], [43, 44], [45], [33, 34], [47, 42], [35, 37], [48, 46]], Ob.intro (by kernel_rfl) ?_⟩
        repeat first | refine same ?_ | refine Ob.intro hb1 ?_ | refine Ob.intro hb2 ?_ | refine optK_intro (rd_us rfl (ofs j) hxj) ?_ | refine optK_intro (rd_us rfl (ofsW (hdec g')) hxp) ?_
        refine wr_us (k := j) (x := atN R2 (j - 1)) rfl rfl (ofs j) (show j < R2.length by omega) ?_
        repeat first | refine same ?_ | refine Ob.intro hb1 ?_ | refine Ob.intro hb2 ?_
        refine wr_us (k := j - 1) (x := atN R2 j) rfl rfl (ofsW (hdec g')) (show j - 1 < (R2.set j (atN R2 (j - 1))).length by rw [List.length_set]; omega) ?_
        repeat first | refine same ?_ | refine Ob.intro hb1 ?_ | refine Ob.intro hb2 ?_
        have hj : j < R2.length := by omega
        have hj1 : j - 1 < R2.length := by omega
        refine hK2 ⟨j - 1, swp R2 j (j - 1), by omega, by omega, so2.trans (SO.swp hj hj1 (by omega) (by omega)), fun u v p1 p2 p3 p4 => ?_⟩ [0] _ (show j - a = j - 1 - a + 1 by omega) ⟨⟨rfl, rfl, rfl, rfl, congrArg i64 (hdec g'), True.intro⟩, ⟨.inl (by rw [renO_us]; rfl), True.intro⟩, rfl, rfl, rfl⟩
        rw [swp_at hj hj1, swp_at hj hj1]
        have s1 := si2 u v p1 p2 p3
        have s2 := si2 u (j - 1) p1
        have s3 := si2 j v (by omega)
        have s4 := si2 (j - 1) v (by omega)
        by_cases e1 : v = j
        · subst e1
          rw [if_neg (show ¬ v = v - 1 by omega), if_pos rfl]
          by_cases e2 : u = v - 1
          · rw [if_pos e2]; omega
          · rw [if_neg e2, if_neg (by omega)]
            exact s2 (by omega) (by omega) (by omega)
        · rw [if_neg p4, if_neg e1]
          by_cases e2 : u = j - 1
          · rw [if_pos e2]
            exact s3 (by omega) p3 e1
          · rw [if_neg e2]
            by_cases e3 : u = j
            · rw [if_pos e3]
              exact s4 (by omega) p3 e1
            · rw [if_neg e3]
              exact s1 e1
      · have q' : ¬ atN R2 j < atN R2 (j - 1) := by have : ¬ ((atN R2 j : Nat) : Int) < ((atN R2 (j - 1) : Nat) : Int) := q; omega
        repeat first | refine same ?_ | refine optK_intro (rd_us rfl (ofs j) hxj) ?_ | refine optK_intro (rd_us rfl (ofsW (hdec g')) hxp) ?_
        refine hK ⟨i + 1, R2, by omega, .inl h', so2, fun u v p1 p2 p3 => ?_⟩ [0] _ (show b - i = b - (i + 1) + 1 by omega) ⟨⟨rfl, rfl, rfl, congrArg i64 (hinc h'), True.intro⟩, ⟨.inl (by rw [renO_us]; rfl), True.intro⟩, rfl, rfl, rfl⟩
        by_cases e1 : v = j
        · subst e1
          by_cases e2 : u = v - 1
          · rw [e2]; omega
          · exact Nat.le_trans (si2 u (v - 1) p1 (by omega) (by omega) (by omega)) (by omega)
        · exact si2 u v p1 p2 (by omega) e1
    · have g' : j = a := by have : ¬ (j : Int) > (a : Int) := g; omega
      repeat refine same ?_
      refine hK ⟨i + 1, R2, by omega, .inl h', so2, fun p q p1 p2 p3 => si2 p q p1 p2 (by omega) (by omega)⟩ [0] _ (show b - i = b - (i + 1) + 1 by omega) ⟨⟨rfl, rfl, rfl, congrArg i64 (hinc h'), True.intro⟩, ⟨.inl (by rw [renO_us]; rfl), True.intro⟩, rfl, rfl, rfl⟩
  · have h' : ¬ i < b := by have : ¬ (i : Int) < (b : Int) := h; omega
    refine ⟨rfl, [.row (R.map u64n)], .tup [], ⟨⟨_, rfl, rfl⟩, ⟨.inl rfl, True.intro⟩, Nat.le_refl _, belowH_us R⟩, R, so, fun p q p1 p2 p3 => si p q p1 p2 (by omega), rfl, rfl⟩
end Go.Proofs.Ytmfifbclldnpkaa.A

namespace Go.Proofs.Ytmfifbclldnpkaa.A
open Go
set_option linter.unusedVariables false
set_option maxRecDepth 100000
set_option pp.maxSteps 1500

def IntR (v : AV) : Prop := ∃ i : Int, v = i64 i
theorem len64_ok (n : Nat) (hn : n < 18446744073709551616) : ACalls Try.prog 59 [u64 (n : Nat)] [] (fun E G => ∃ v, IntR v ∧ E = .ret v ∧ G = []) := by
  refine acalls_of_awp hT mixed Try.func59 rfl (by kernel_rfl) (by kernel_rfl) (Nat.le_of_ble_eq_true rfl) ?_
  have key : ∀ w : Int, (0 : Int) ≤ wrp .u8 w ∧ wrp .u8 w < ((256 : Nat) : Int) := fun w => by rw [wrpE, wu8]; omega
  refine forkD (fun h => ?_) (fun h => ?_)
  · refine Ob.intro (by decide) ?_
    refine forkD (fun h => ?_) (fun h => ?_)
    · refine Ob.intro (by decide) ?_
      refine forkD (fun h => ?_) (fun h => ?_)
      · refine Ob.intro (by decide) ?_
        refine Ob.intro (key _) ?_
        refine endE rfl rfl rfl ⟨_, rfl⟩
      · refine Ob.intro (key _) ?_
        refine endE rfl rfl rfl ⟨_, rfl⟩
    · refine forkD (fun h => ?_) (fun h => ?_)
      · refine Ob.intro (by decide) ?_
        refine Ob.intro (key _) ?_
        refine endE rfl rfl rfl ⟨_, rfl⟩
      · refine Ob.intro (key _) ?_
        refine endE rfl rfl rfl ⟨_, rfl⟩
  · refine forkD (fun h => ?_) (fun h => ?_)
    · refine Ob.intro (by decide) ?_
      refine forkD (fun h => ?_) (fun h => ?_)
      · refine Ob.intro (by decide) ?_
        refine Ob.intro (key _) ?_
        refine endE rfl rfl rfl ⟨_, rfl⟩
      · refine Ob.intro (key _) ?_
        refine endE rfl rfl rfl ⟨_, rfl⟩
    · refine forkD (fun h => ?_) (fun h => ?_)
      · refine Ob.intro (by decide) ?_
        refine Ob.intro (key _) ?_
        refine endE rfl rfl rfl ⟨_, rfl⟩
      · refine Ob.intro (key _) ?_
        refine endE rfl rfl rfl ⟨_, rfl⟩
theorem len_ok (n : Nat) (hn : n < 18446744073709551616) : ACalls Try.prog 41 [u64 (n : Nat)] [] (fun E G => ∃ v, IntR v ∧ E = .ret v ∧ G = []) := by
  refine acalls_of_awp hT mixed Try.func41 rfl (by kernel_rfl) (by kernel_rfl) (Nat.le_of_ble_eq_true rfl) ?_
  refine callE (len64_ok n hn) rfl (fun v hv => by obtain ⟨i, rfl⟩ := hv; rfl) ?_
  rintro v ⟨i, rfl⟩
  refine endE rfl rfl rfl ⟨_, rfl⟩
theorem belowL_us (m : Nat) : ∀ l : List Nat, belowL m (l.map u64n) = true
  | [] => rfl
  | x :: l => by show (bif below m (u64n x) then belowL m (l.map u64n) else false) = true; rw [belowL_us m l]; rfl
theorem belowH_us1 (R : List Nat) : belowH 2 [.dead, .row (R.map u64n)] = true := by
  simp only [belowH, belowO, belowL_us]
  rfl
theorem renH_us (r : Nat → Nat) (R : List Nat) : renH r [.row (R.map u64n)] = [.row (R.map u64n)] := by
  simp only [renH, renO_us]
theorem insert_nil : ACalls Try.prog 49 [nilS, i64 0, i64 0] [] (Ret (.tup [])) := by
  refine acalls_of_awp hT mixed Try.func49 rfl (by kernel_rfl) (by kernel_rfl) (Nat.le_of_ble_eq_true rfl) ?_
  refine loopI (α := Unit) (fun z => [(2, i64 0), (6, i64 1)]) (fun z => []) (fun z => 0) () [] ⟨⟨rfl, congrArg i64 (by rw [wrpE, wi64]; rfl), True.intro⟩, True.intro, rfl, rfl, rfl⟩ ?_
  rintro ⟨⟩ K hK
  exact ⟨rfl, [], .tup [], ⟨⟨_, rfl, rfl⟩, True.intro, Nat.le_refl _, rfl⟩, rfl, rfl⟩
theorem pdq_nil (lim : Int) : ACalls Try.prog 40 [nilS, i64 0, i64 0, i64 lim] [] (Ret (.tup [])) := by
  refine acalls_of_awp hT mixed Try.func40 rfl (by kernel_rfl) (by kernel_rfl) (Nat.le_of_ble_eq_true rfl) ?_
  refine loopI (α := Unit) (fun z => [(0, nilS), (1, i64 0), (2, i64 0)]) (fun z => []) (fun z => 0) () [] ⟨⟨rfl, rfl, rfl, True.intro⟩, True.intro, rfl, rfl, rfl⟩ ?_
  rintro ⟨⟩ K hK
  refine forkD (fun h => ?_) (fun h => absurd (show wrp .i64 (0 - 0) ≤ 12 by rw [wrpE, wi64]; decide) h)
  refine callP insert_nil rfl rfl ?_
  exact ⟨rfl, [], .tup [], ⟨⟨_, rfl, rfl⟩, True.intro, Nat.le_refl _, rfl⟩, rfl, rfl⟩
theorem sort_nil : ACalls Try.prog 29 [nilS] [] (Ret (.tup [])) := by
  have hw : wrp .u64 0 = ((0 : Nat) : Int) := by rw [wrpE, wu64]; rfl
  have hl := len_ok 0 (by decide)
  rw [← hw] at hl
  refine acalls_of_awp hT mixed Try.func29 rfl (by kernel_rfl) (by kernel_rfl) (Nat.le_of_ble_eq_true rfl) ?_
  refine callE hl rfl (fun v hv => by obtain ⟨i, rfl⟩ := hv; rfl) ?_
  rintro v ⟨i, rfl⟩
  refine callP (pdq_nil i) rfl rfl ?_
  exact ⟨rfl, [], .tup [], ⟨⟨_, rfl, rfl⟩, True.intro, Nat.le_refl _, rfl⟩, rfl, rfl⟩
theorem compact_nil : ACalls Try.prog 30 [nilS] [] (Ret nilS) := by
  refine acalls_of_awp hT mixed Try.func30 rfl (by kernel_rfl) (by kernel_rfl) (Nat.le_of_ble_eq_true rfl) ?_
  refine end0 rfl rfl rfl rfl
theorem pdq12_ok (R0 : List Nat) (lim : Int) (hn : R0.length ≤ 12) : ACalls Try.prog 40 [.slc 0 0 R0.length 1, i64 ((0 : Nat) : Int), i64 (R0.length : Nat), i64 lim] [.row (R0.map u64n)] (fun E G => ∃ R, SO 0 R0.length R0 R ∧ SI 0 R0.length R ∧ E = .ret (.tup []) ∧ G = [.row (R.map u64n)]) := by
  have hi := insert_ok R0 0 R0.length (Nat.zero_le _) (Nat.le_refl _) (by omega)
  refine acalls_of_awp hT mixed Try.func40 rfl (by kernel_rfl) (by kernel_rfl) (Nat.le_of_ble_eq_true rfl) ?_
  refine loopI (α := Unit) (fun z => [(0, .slc 0 0 R0.length 1), (1, i64 ((0 : Nat) : Int)), (2, i64 (R0.length : Nat))]) (fun z => [.row (R0.map u64n)]) (fun z => 0) () [0] ⟨⟨rfl, rfl, rfl, True.intro⟩, ⟨.inl (by rw [renO_us]; rfl), True.intro⟩, rfl, rfl, rfl⟩ ?_
  rintro ⟨⟩ K hK
  have hw : wrp .i64 ((R0.length : Int) - ((0 : Nat) : Int)) ≤ 12 := by rw [wrpE, wi64]; omega
  refine forkD (fun h => ?_) (fun h => absurd hw h)
  refine callS hi [0] ⟨.inl (by rw [renO_us]; rfl), True.intro⟩ rfl ?_
  rintro E G ⟨R, so, si, rfl, rfl⟩ _
  refine ⟨_, _, rfl, rfl, ?_⟩
  rw [renH_us]
  exact ⟨rfl, [.row (R.map u64n)], .tup [], ⟨⟨_, rfl, rfl⟩, ⟨.inl rfl, True.intro⟩, Nat.le_refl _, belowH_us R⟩, R, so, si, rfl, rfl⟩
theorem sort12_ok (R0 : List Nat) (hn : R0.length ≤ 12) : ACalls Try.prog 29 [.slc 0 0 R0.length 1] [.row (R0.map u64n)] (fun E G => ∃ R, SO 0 R0.length R0 R ∧ SI 0 R0.length R ∧ E = .ret (.tup []) ∧ G = [.row (R.map u64n)]) := by
  have hw : wrp .u64 (R0.length : Nat) = ((R0.length : Nat) : Int) := by rw [wrpE, wu64]; omega
  have hl := len_ok R0.length (by omega)
  rw [← hw] at hl
  refine acalls_of_awp hT mixed Try.func29 rfl (by kernel_rfl) (by kernel_rfl) (Nat.le_of_ble_eq_true rfl) ?_
  refine callE hl rfl (fun v hv => by obtain ⟨i, rfl⟩ := hv; rfl) ?_
  rintro v ⟨i, rfl⟩
  refine callS (pdq12_ok R0 i hn) [0] ⟨.inl (by rw [renO_us]; rfl), True.intro⟩ rfl ?_
  rintro E G ⟨R, so, si, rfl, rfl⟩ _
  refine ⟨_, _, rfl, rfl, ?_⟩
  rw [renH_us]
  exact ⟨rfl, [.row (R.map u64n)], .tup [], ⟨⟨_, rfl, rfl⟩, ⟨.inl rfl, True.intro⟩, Nat.le_refl _, belowH_us R⟩, R, so, si, rfl, rfl⟩
theorem clone_ok (l : List Nat) (hn : l.length ≤ 1000) : ACalls Try.prog 28 [us l] [] (fun E G => (l = [] ∧ E = .ret nilS ∧ G = []) ∨ (E = .ret (.slc 1 0 l.length 1) ∧ G = [.dead, .row (l.map u64n)])) := by
  refine acalls_of_awp hT mixed Try.func28 rfl (by kernel_rfl) (by kernel_rfl) (Nat.le_of_ble_eq_true rfl) ?_
  refine ⟨?_, fun h => ?_⟩
  · refine optK_intro (srcA_us _ l) ?_
    refine Ob.intro (allC_us l) ?_
    refine optK_intro rfl ?_
    refine Ob.intro (show (0 + l.length) * 8 ≤ 140737488355328 ∧ 0 + l.length ≤ 9223372036854775807 by omega) ?_
    refine ⟨rfl, [.dead, .row (l.map u64n)], .slc 1 0 (0 + l.length) 1, ⟨⟨_, rfl, rfl⟩, ⟨.inr rfl, .inl rfl, True.intro⟩, Nat.zero_le _, belowH_us1 l⟩, .inr ⟨?_, rfl⟩⟩
    rw [Nat.zero_add]
  · have hl : l = [] := List.eq_nil_of_length_eq_zero h
    exact ⟨rfl, [], nilS, ⟨⟨_, rfl, rfl⟩, True.intro, Nat.zero_le _, rfl⟩, .inl ⟨hl, rfl, rfl⟩⟩
end Go.Proofs.Ytmfifbclldnpkaa.A

namespace Go.Proofs.Ytmfifbclldnpkaa.A
open Go
set_option linter.unusedVariables false
set_option maxRecDepth 100000
set_option pp.maxSteps 1500

theorem zerosU (n : Nat) : zerosA ti23.zero n = (List.replicate n 0).map u64n := by
  unfold zerosA
  induction n with
  | zero => rfl
  | succ n ih => rw [List.replicate_succ, List.replicate_succ, List.flatten_cons, ih]; rfl
theorem grow_ok (n : Nat) (hn : n ≤ 1000) : ACalls Try.prog 45 [nilS, i64 (n : Nat)] [] (fun E G => (n = 0 ∧ E = .ret nilS ∧ G = []) ∨ ∃ R : List Nat, 0 < n ∧ E = .ret (.slc 0 0 0 1) ∧ G = [.row (R.map u64n)]) := by
  have hw : wrp .i64 ((n : Int) - wrp .i64 (0 - 0)) = ((n : Nat) : Int) := by rw [wrpE, wrpE, wi64, wi64]; omega
  refine acalls_of_awp hT mixed Try.func45 rfl (by kernel_rfl) (by kernel_rfl) (Nat.le_of_ble_eq_true rfl) ?_
  refine forkD (fun h => ?_) (fun h => ?_)
  · have h' : 0 < n := by
      have : wrp .i64 ((n : Int) - wrp .i64 (0 - 0)) > 0 := h
      rw [hw] at this
      omega
    refine Ob.intro ⟨rfl, rfl, rfl⟩ ?_
    refine Ob.intro (show (0 : Int) ≤ wrp .i64 ((n : Int) - wrp .i64 (0 - 0)) ∧ wrp .i64 ((n : Int) - wrp .i64 (0 - 0)) ≤ 140737488355328 ∧ wrp .i64 ((n : Int) - wrp .i64 (0 - 0)) * (8 : Nat) ≤ 140737488355328 by rw [hw]; omega) ?_
    refine If.intro (fun hb => ?_) (fun hb => ?_)
    · exfalso
      have : (wrp .i64 ((n : Int) - wrp .i64 (0 - 0))).toNat = 0 := Nat.eq_of_beq_eq_true hb
      rw [hw] at this
      omega
    refine Ob.intro (show (wrp .i64 ((n : Int) - wrp .i64 (0 - 0))).toNat * 8 ≤ 140737488355328 ∧ (wrp .i64 ((n : Int) - wrp .i64 (0 - 0))).toNat ≤ 9223372036854775807 by rw [hw]; omega) ?_
    refine Ob.intro (show (0 : Int) ≤ 0 ∧ (0 : Int) ≤ 0 ∧ (0 : Int) ≤ (wrp .i64 ((n : Int) - wrp .i64 (0 - 0))).toNat by omega) ?_
    refine ⟨rfl, [.row (zerosA ti23.zero (wrp .i64 ((n : Int) - wrp .i64 (0 - 0))).toNat)], .slc 0 0 0 1, ⟨⟨_, rfl, rfl⟩, ⟨.inl rfl, True.intro⟩, Nat.zero_le _, ?_⟩, .inr ⟨List.replicate n 0, h', rfl, ?_⟩⟩
    · rw [zerosU]
      exact belowH_us _
    · rw [zerosU, hw]
      rfl
  · have h' : n = 0 := by
      have : ¬ wrp .i64 ((n : Int) - wrp .i64 (0 - 0)) > 0 := h
      rw [hw] at this
      omega
    exact ⟨rfl, [], nilS, ⟨⟨_, rfl, rfl⟩, True.intro, Nat.zero_le _, rfl⟩, .inl ⟨h', rfl, rfl⟩⟩
def vws (LL : List (List Nat)) : AV := .view LL.length (LL.map us)
structure CatSt (LL : List (List Nat)) where
  k : Nat
  R : List Nat
  m : Nat
  hk : k ≤ LL.length
  hm : m ≤ R.length
  hR : R.take m = (LL.take k).flatten
theorem flat_le (LL : List (List Nat)) (k : Nat) : (LL.take k).flatten.length ≤ LL.flatten.length := by
  have : LL.flatten = (LL.take k).flatten ++ (LL.drop k).flatten := by rw [← List.flatten_append, List.take_append_drop]
  rw [this, List.length_append]
  omega
theorem concat_ok (LL : List (List Nat)) (hn : LL.flatten.length ≤ 1000) (h2 : LL.length ≤ 1000) : ACalls Try.prog 36 [vws LL] [] (fun E G => (LL.flatten = [] ∧ E = .ret nilS ∧ G = []) ∨ ∃ (R : List Nat) (m : Nat), m ≤ R.length ∧ R.take m = LL.flatten ∧ E = .ret (.slc 0 0 m 1) ∧ G = [.row (R.map u64n)]) := by
  have hg := grow_ok LL.flatten.length hn
  refine acalls_of_awp hT mixed Try.func36 rfl (by kernel_rfl) (by kernel_rfl) (Nat.le_of_ble_eq_true rfl) ?_
  refine loopI (α := { k : Nat // k ≤ LL.length }) (fun z => [(0, vws LL), (3, i64 ((LL.take z.val).flatten.length : Nat)), (9, vws LL), (10, i64 LL.length), (11, i64 (z.val : Nat))]) (fun _ => []) (fun z => LL.length - z.val) ⟨0, Nat.zero_le _⟩ [] ⟨⟨rfl, rfl, rfl, rfl, rfl, True.intro⟩, True.intro, rfl, rfl, rfl⟩ ?_
  rintro ⟨k, hk⟩ K hK
  have hinc : wrp .i64 ((k : Int) + 1) = ((k + 1 : Nat) : Int) := by rw [wrpE, wi64]; omega
  refine forkD (fun h => ?_) (fun h => ?_)
  · have h' : k < LL.length := by have : (k : Int) < (LL.length : Int) := h; omega
    obtain ⟨l, hl⟩ : ∃ l, LL[k]? = some l := ⟨_, List.getElem?_eq_getElem h'⟩
    have hf : (LL.take (k + 1)).flatten = (LL.take k).flatten ++ l := by rw [take_snocA hl, List.flatten_append]; simp
    have hle := flat_le LL (k + 1)
    rw [hf, List.length_append] at hle
    have hw : wrp .i64 (((LL.take k).flatten.length : Int) + (l.length : Int)) = (((LL.take (k + 1)).flatten.length : Nat) : Int) := by rw [hf, List.length_append, wrpE, wi64]; omega
    refine Ob.intro (show (0 : Int) ≤ (k : Nat) ∧ ((k : Nat) : Int) < (LL.length : Nat) by omega) ?_
    refine optK_intro (nth_map hl) ?_
    refine forkD (fun g => ?_) (fun g => ?_)
    · exfalso
      have : wrp .i64 (((LL.take k).flatten.length : Int) + (l.length : Int)) < 0 := g
      rw [hw] at this
      omega
    refine hK ⟨k + 1, h'⟩ [] _ (show LL.length - k = LL.length - (k + 1) + 1 by omega) ⟨⟨rfl, congrArg i64 hw, rfl, rfl, congrArg i64 hinc, True.intro⟩, True.intro, rfl, rfl, rfl⟩
  have h' : k = LL.length := by have : ¬ (k : Int) < (LL.length : Int) := h; omega
  subst h'
  have htk : LL.take LL.length = LL := List.take_length
  rw [← htk] at hg
  refine callS hg [] True.intro rfl ?_
  rintro E G hR _
  rcases hR with ⟨h0, rfl, rfl⟩ | ⟨R, h0, rfl, rfl⟩
  · rw [htk] at h0
    have hnil : LL.flatten = [] := List.eq_nil_of_length_eq_zero h0
    refine ⟨_, _, rfl, rfl, ?_⟩
    refine loopI (α := { k : Nat // k ≤ LL.length }) (fun z => [(6, nilS), (25, vws LL), (26, i64 LL.length), (27, i64 (z.val : Nat))]) (fun _ => []) (fun z => LL.length - z.val) ⟨0, Nat.zero_le _⟩ [] ⟨⟨rfl, rfl, rfl, rfl, True.intro⟩, True.intro, rfl, rfl, rfl⟩ ?_
    rintro ⟨k, hk⟩ K2 hK2
    have hinc : wrp .i64 ((k : Int) + 1) = ((k + 1 : Nat) : Int) := by rw [wrpE, wi64]; omega
    refine forkD (fun h => ?_) (fun h => ?_)
    · have h' : k < LL.length := by have : (k : Int) < (LL.length : Int) := h; omega
      obtain ⟨l, hl⟩ : ∃ l, LL[k]? = some l := ⟨_, List.getElem?_eq_getElem h'⟩
      have hl0 : l = [] := by
        have hm := List.mem_of_getElem? hl
        exact List.flatten_eq_nil_iff.1 hnil l hm
      subst hl0
      refine Ob.intro (show (0 : Int) ≤ (k : Nat) ∧ ((k : Nat) : Int) < (LL.length : Nat) by omega) ?_
      refine optK_intro (nth_map hl) ?_
      refine Ob.intro rfl ?_
      refine hK2 ⟨k + 1, h'⟩ [] _ (show LL.length - k = LL.length - (k + 1) + 1 by omega) ⟨⟨rfl, rfl, rfl, congrArg i64 hinc, True.intro⟩, True.intro, rfl, rfl, rfl⟩
    · exact ⟨rfl, [], nilS, ⟨⟨_, rfl, rfl⟩, True.intro, Nat.zero_le _, rfl⟩, .inl ⟨hnil, rfl, rfl⟩⟩
  · refine ⟨_, [.row (R.map u64n)], rfl, by rw [renH_us]; rfl, ?_⟩
    refine loopI (α := CatSt LL) (fun z => [(6, .slc 0 0 z.m 1), (25, vws LL), (26, i64 LL.length), (27, i64 (z.k : Nat))]) (fun z => [.row (z.R.map u64n)]) (fun z => LL.length - z.k) ⟨0, R, 0, Nat.zero_le _, Nat.zero_le _, rfl⟩ [0] ⟨⟨rfl, rfl, rfl, rfl, True.intro⟩, ⟨.inl (by rw [renO_us]; rfl), True.intro⟩, rfl, rfl, rfl⟩ ?_
    rintro ⟨k, R2, m, hk, hm, hR⟩ K2 hK2
    have hinc : wrp .i64 ((k : Int) + 1) = ((k + 1 : Nat) : Int) := by rw [wrpE, wi64]; omega
    refine forkD (fun h => ?_) (fun h => ?_)
    · have h' : k < LL.length := by have : (k : Int) < (LL.length : Int) := h; omega
      obtain ⟨l, hl⟩ : ∃ l, LL[k]? = some l := ⟨_, List.getElem?_eq_getElem h'⟩
      have hf : (LL.take (k + 1)).flatten = (LL.take k).flatten ++ l := by rw [take_snocA hl, List.flatten_append]; simp
      have hle := flat_le LL (k + 1)
      rw [hf, ← hR, List.length_append, List.length_take, Nat.min_eq_left hm] at hle
      have hrd : rdN [.row (R2.map u64n)] 0 0 (m * 1) = some ((R2.take m).map u64n) := by
        rw [rdN_eq (cs := R2.map u64n) rfl (by rw [List.length_map]; omega), List.drop_zero, Nat.mul_one, List.map_take]
      refine Ob.intro (show (0 : Int) ≤ (k : Nat) ∧ ((k : Nat) : Int) < (LL.length : Nat) by omega) ?_
      refine optK_intro (nth_map hl) ?_
      refine optK_intro (srcA_us _ l) ?_
      refine Ob.intro (allC_us l) ?_
      refine optK_intro hrd ?_
      refine Ob.intro (show (m + l.length) * 8 ≤ 140737488355328 ∧ m + l.length ≤ 9223372036854775807 by omega) ?_
      refine hK2 ⟨k + 1, R2.take m ++ l, m + l.length, h', by rw [List.length_append, List.length_take, Nat.min_eq_left hm]; exact Nat.le_refl _, by rw [hf, ← hR, List.take_of_length_le (by rw [List.length_append, List.length_take, Nat.min_eq_left hm]; exact Nat.le_refl _)]⟩ [1] _ (show LL.length - k = LL.length - (k + 1) + 1 by omega) ⟨⟨rfl, rfl, rfl, congrArg i64 hinc, True.intro⟩, ⟨.inl ?_, True.intro⟩, rfl, rfl, rfl⟩
      show some (AObj.row ((R2.take m).map u64n ++ l.map u64n)) = some (renO _ (.row ((R2.take m ++ l).map u64n)))
      rw [renO_us, List.map_append]
    · have h' : k = LL.length := by have : ¬ (k : Int) < (LL.length : Int) := h; omega
      rw [h', htk] at hR
      exact ⟨rfl, [.row (R2.map u64n)], .slc 0 0 m 1, ⟨⟨_, rfl, rfl⟩, ⟨.inl rfl, True.intro⟩, Nat.zero_le _, belowH_us R2⟩, .inr ⟨R2, m, hm, hR, rfl, rfl⟩⟩
end Go.Proofs.Ytmfifbclldnpkaa.A

namespace Go.Proofs.Ytmfifbclldnpkaa.A
open Go
set_option linter.unusedVariables false
set_option maxRecDepth 100000
set_option pp.maxSteps 1500

/-- The first n, each once where it stands beside itself. -/
def ddN (R : List Nat) : Nat → List Nat
  | 0 => []
  | n + 1 => if n = 0 ∨ atN R n ≠ atN R (n - 1) then ddN R n ++ [atN R n] else ddN R n
theorem ddN_new {R : List Nat} {n : Nat} (h : n = 0 ∨ atN R n ≠ atN R (n - 1)) : ddN R (n + 1) = ddN R n ++ [atN R n] := by
  show (if _ then _ else _) = _
  rw [if_pos h]
theorem ddN_old {R : List Nat} {n : Nat} (h0 : 0 < n) (h : atN R n = atN R (n - 1)) : ddN R (n + 1) = ddN R n := by
  show (if _ then _ else _) = _
  rw [if_neg (fun hh => hh.elim (by omega) (fun k => k h))]
theorem take_at {R : List Nat} {k : Nat} (h : k < R.length) : R.take (k + 1) = R.take k ++ [atN R k] := take_snocA (atN_some h)
theorem setAll_us (R Z : List Nat) (off : Nat) (h : off + Z.length ≤ R.length) : setAll (R.map u64n) off (Z.map u64n) = (R.take off ++ Z ++ R.drop (off + Z.length)).map u64n := by
  apply List.ext_getElem?
  intro k
  rw [setAll_get _ _ _ _ (by rw [List.length_map, List.length_map]; exact h), List.getElem?_map, List.getElem?_map, List.getElem?_map, List.length_map]
  have ht : (R.take off).length = off := by rw [List.length_take]; omega
  by_cases h1 : k < off
  · rw [if_neg (by omega), List.append_assoc, List.getElem?_append_left (by omega), List.getElem?_take_of_lt h1]
  · by_cases h2 : k < off + Z.length
    · rw [if_pos (by omega), List.append_assoc, List.getElem?_append_right (by omega), ht, List.getElem?_append_left (by omega)]
    · rw [if_neg (by omega), List.getElem?_append_right (by rw [List.length_append, ht]; omega), List.length_append, ht, List.getElem?_drop, show off + Z.length + (k - (off + Z.length)) = k by omega]
theorem wr_zeros {K : Heap → Prop} {H : Heap} {p off k n m : Nat} {R : List Nat} (h : nth H p = some (.row (R.map u64n))) (hk : off = k) (hm : n = m) (hl : k + m ≤ R.length) (q : K (H.set p (.row ((R.take k ++ List.replicate m 0 ++ R.drop (k + m)).map u64n)))) : optK (wr H p off (zerosA ti23.zero n)) K := by
  subst hk hm
  rw [zerosU]
  refine optK_intro (wr_eq h (by rw [List.length_map, List.length_map, List.length_replicate]; exact hl)) ?_
  rw [setAll_us _ _ _ (by rw [List.length_replicate]; exact hl), List.length_replicate]
  exact q
structure CpSt (R0 : List Nat) (k : Nat) where
  t : Nat
  i : Nat
  R : List Nat
  ht : 1 ≤ t
  ht2 : t ≤ R0.length - k
  hi : i ≤ k + t - 1
  len : R.length = R0.length
  old : ∀ p, k + t - 1 ≤ p → atN R p = atN R0 p
  hR : R.take i = ddN R0 (k + t)
theorem compact_ok (R0 : List Nat) (hn : R0.length ≤ 1000) : ACalls Try.prog 30 [.slc 0 0 R0.length 1] [.row (R0.map u64n)] (fun E G => ∃ (R : List Nat) (m : Nat), m ≤ R.length ∧ R.take m = ddN R0 R0.length ∧ E = .ret (.slc 0 0 m 1) ∧ G = [.row (R.map u64n)]) := by
  refine acalls_of_awp hT mixed Try.func30 rfl (by kernel_rfl) (by kernel_rfl) (Nat.le_of_ble_eq_true rfl) ?_
  refine forkD (fun h => ?_) (fun h => ?_)
  · have h' : R0.length < 2 := by have : (R0.length : Int) < 2 := h; omega
    refine ⟨rfl, [.row (R0.map u64n)], .slc 0 0 R0.length 1, ⟨⟨_, rfl, rfl⟩, ⟨.inl rfl, True.intro⟩, Nat.le_refl _, belowH_us R0⟩, R0, R0.length, Nat.le_refl _, ?_, rfl, rfl⟩
    match R0, h' with
    | [], _ => rfl
    | [x], _ => rfl
    | _ :: _ :: _, h => simp at h; omega
  have h0 : 2 ≤ R0.length := by have : ¬ (R0.length : Int) < 2 := h; omega
  refine loopI (α := { k : Nat // 1 ≤ k ∧ k ≤ R0.length ∧ R0.take k = ddN R0 k }) (fun z => [(0, .slc 0 0 R0.length 1), (3, i64 (z.val : Nat))]) (fun _ => [.row (R0.map u64n)]) (fun z => R0.length - z.val) ⟨1, Nat.le_refl _, by omega, by rw [take_at (by omega), ddN_new (.inl rfl)]; rfl⟩ [0]
    ⟨⟨rfl, rfl, True.intro⟩, ⟨.inl (by rw [renO_us]; rfl), True.intro⟩, rfl, rfl, rfl⟩ ?_
  rintro ⟨k, k1, k2, hk⟩ K hK
  have hinc : wrp .i64 ((k : Int) + 1) = ((k + 1 : Nat) : Int) := by rw [wrpE, wi64]; omega
  have hdec : wrp .i64 ((k : Int) - 1) = ((k - 1 : Nat) : Int) := by rw [wrpE, wi64]; omega
  refine forkD (fun h => ?_) (fun h => ?_)
  · have h' : k < R0.length := by have : (k : Int) < (R0.length : Int) := h; omega
    have hx := atN_some h'
    have hy := atN_some (show k - 1 < R0.length by omega)
    have hb1 : (0 : Int) ≤ (k : Nat) ∧ ((k : Nat) : Int) < (R0.length : Nat) := by omega
    have hb2 : (0 : Int) ≤ wrp .i64 ((k : Int) - 1) ∧ wrp .i64 ((k : Int) - 1) < (R0.length : Nat) := by rw [hdec]; omega
    refine ⟨[0, 0, 0, 0, 0, 0, 0, 0, 0, 0], [[], [], [0, 1], [0, 1, 2], [], [], [5], [4, 5, 6], [4, 5, 6, 7], [0, 1, 2, 3, 4, 5, 6, 7, 8]], [0, 0, 0, 0, 0, 0, 0, 0, 0, 0], [], [[0], [3], [16, 17], [18], [0], [3], [21], [20, 22], [23], [19, 24]], Ob.intro (by kernel_rfl) ?_⟩
    refine Ob.intro hb1 ?_
    refine optK_intro (rd_us rfl (ofs k) hx) ?_
    refine Ob.intro hb2 ?_
    refine optK_intro (rd_us rfl (ofsW hdec) hy) ?_
    refine fork (fun g => ?_) (fun g => ?_)
    · have g' : atN R0 k = atN R0 (k - 1) := by
        have : ((atN R0 k : Nat) : Int) = ((atN R0 (k - 1) : Nat) : Int) := beq_iff_eq.1 g
        omega
      repeat first | refine same ?_ | refine optK_intro (rd_us rfl (ofs k) hx) ?_ | refine optK_intro (rd_us rfl (ofsW hdec) hy) ?_
      refine Ob.intro (show (0 : Int) ≤ (k : Nat) ∧ ((k : Nat) : Int) ≤ (R0.length : Nat) ∧ ((R0.length : Nat) : Int) ≤ (R0.length : Nat) by omega) ?_
      refine loopI (α := CpSt R0 k) (fun z => [(0, .slc 0 0 R0.length 1), (3, i64 (z.i : Nat)), (4, .slc 0 k (R0.length - k) 1), (5, i64 (z.t : Nat))]) (fun z => [.row (z.R.map u64n)]) (fun z => R0.length - k - z.t) ⟨1, k, R0, Nat.le_refl _, by omega, by omega, rfl, fun _ _ => rfl, by rw [hk, ddN_old (by omega) g']⟩ [0]
        ⟨⟨rfl, rfl, slcE (ofs k) (by show ((R0.length : Nat) : Int).toNat - ((k : Nat) : Int).toNat = _; omega), rfl, True.intro⟩, ⟨.inl (by rw [renO_us]; rfl), True.intro⟩, rfl, rfl, rfl⟩ ?_
      rintro ⟨t, i, R, ht, ht2, hi, len, old, hR⟩ K2 hK2
      have hinct : wrp .i64 ((t : Int) + 1) = ((t + 1 : Nat) : Int) := by rw [wrpE, wi64]; omega
      have hinci : wrp .i64 ((i : Int) + 1) = ((i + 1 : Nat) : Int) := by rw [wrpE, wi64]; omega
      have hdect : wrp .i64 ((t : Int) - 1) = ((t - 1 : Nat) : Int) := by rw [wrpE, wi64]; omega
      refine forkD (fun h => ?_) (fun h => ?_)
      · have h2 : t < R0.length - k := by have : (t : Int) < ((R0.length - k : Nat) : Int) := h; omega
        have hx := atN_some (show k + t < R.length by omega)
        have hy := atN_some (show k + (t - 1) < R.length by omega)
        have e1 := old (k + t) (by omega)
        have e2 := old (k + (t - 1)) (by omega)
        have hb1 : (0 : Int) ≤ (t : Nat) ∧ ((t : Nat) : Int) < (R0.length - k : Nat) := by omega
        have hb2 : (0 : Int) ≤ wrp .i64 ((t : Int) - 1) ∧ wrp .i64 ((t : Int) - 1) < (R0.length - k : Nat) := by rw [hdect]; omega
        have o1 : k + ((t : Nat) : Int).toNat * 1 = k + t := by omega
        have o2 : k + (wrp .i64 ((t : Int) - 1)).toNat * 1 = k + (t - 1) := by rw [hdect]; omega
        refine ⟨[0, 0, 0, 0, 0, 0, 0, 0, 0, 0], [[], [], [0, 1], [0, 1, 2], [], [], [5], [4, 5, 6], [4, 5, 6, 7], [0, 1, 2, 3, 4, 5, 6, 7, 8]], [0, 0, 0, 0, 0, 0, 0, 0, 0, 0], [], [[4], [5], [35, 36], [37], [4], [5], [40], [39, 41], [42], [38, 43]], Ob.intro (by kernel_rfl) ?_⟩
        refine Ob.intro hb1 ?_
        refine optK_intro (rd_us rfl o1 hx) ?_
        refine Ob.intro hb2 ?_
        refine optK_intro (rd_us rfl o2 hy) ?_
        refine fork (fun g => ?_) (fun g => ?_)
        · have g2 : atN R (k + t) ≠ atN R (k + (t - 1)) := by
            have : ((atN R (k + t) : Nat) : Int) ≠ ((atN R (k + (t - 1)) : Nat) : Int) := bne_iff_ne.1 g
            omega
          rw [e1, e2] at g2
          repeat first | refine same ?_ | refine optK_intro (rd_us rfl o1 hx) ?_ | refine optK_intro (rd_us rfl o2 hy) ?_
          refine Ob.intro hb1 ?_
          refine optK_intro (rd_us rfl o1 hx) ?_
          refine Ob.intro (show (0 : Int) ≤ (i : Nat) ∧ ((i : Nat) : Int) < (R0.length : Nat) by omega) ?_
          refine wr_us (k := i) (x := atN R (k + t)) rfl rfl (ofs i) (show i < R.length by omega) ?_
          refine hK2 ⟨t + 1, i + 1, R.set i (atN R (k + t)), by omega, by omega, by omega, by rw [List.length_set]; exact len, fun p hp => ?_, ?_⟩ [0] _ (show R0.length - k - t = R0.length - k - (t + 1) + 1 by omega) ⟨⟨rfl, congrArg i64 hinci, rfl, congrArg i64 hinct, True.intro⟩, ⟨.inl (by rw [renO_us]; rfl), True.intro⟩, rfl, rfl, rfl⟩
          · rw [← old p (by omega)]
            unfold atN
            rw [List.getD_eq_getElem?_getD, List.getElem?_set_ne (by omega), ← List.getD_eq_getElem?_getD]
          · rw [show k + (t + 1) = k + t + 1 by omega, ddN_new (.inr (by rw [show k + t - 1 = k + (t - 1) by omega]; exact g2)), ← hR, ← e1]
            rw [take_snocA (x := atN R (k + t)) (by rw [List.getElem?_set_self (by omega)]), List.take_set_of_le (Nat.le_refl _)]
        · have g2 : atN R (k + t) = atN R (k + (t - 1)) := by
            have : ((atN R (k + t) : Nat) : Int) = ((atN R (k + (t - 1)) : Nat) : Int) := bne_eq_false_iff_eq.1 g
            omega
          rw [e1, e2] at g2
          repeat first | refine same ?_ | refine optK_intro (rd_us rfl o1 hx) ?_ | refine optK_intro (rd_us rfl o2 hy) ?_
          refine hK2 ⟨t + 1, i, R, by omega, by omega, by omega, len, fun p hp => old p (by omega), ?_⟩ [0] _ (show R0.length - k - t = R0.length - k - (t + 1) + 1 by omega) ⟨⟨rfl, rfl, rfl, congrArg i64 hinct, True.intro⟩, ⟨.inl (by rw [renO_us]; rfl), True.intro⟩, rfl, rfl, rfl⟩
          rw [show k + (t + 1) = k + t + 1 by omega, ddN_old (by omega) (by rw [show k + t - 1 = k + (t - 1) by omega]; exact g2), hR]
      · have h2 : t = R0.length - k := by have : ¬ (t : Int) < ((R0.length - k : Nat) : Int) := h; omega
        have hil : i ≤ R.length := by omega
        refine Ob.intro (show (0 : Int) ≤ (i : Nat) ∧ ((i : Nat) : Int) ≤ (R0.length : Nat) ∧ ((R0.length : Nat) : Int) ≤ (R0.length : Nat) by omega) ?_
        refine wr_zeros (k := i) (m := R0.length - i) rfl (ofs i) (by show ((R0.length : Nat) : Int).toNat - ((i : Nat) : Int).toNat = _; omega) (show i + (R0.length - i) ≤ R.length by omega) ?_
        refine Ob.intro (show (0 : Int) ≤ 0 ∧ (0 : Int) ≤ (i : Nat) ∧ ((i : Nat) : Int) ≤ (R0.length : Nat) by omega) ?_
        refine ⟨rfl, [.row ((R.take i ++ List.replicate (R0.length - i) 0 ++ R.drop (i + (R0.length - i))).map u64n)], .slc 0 0 i 1, ⟨⟨_, rfl, rfl⟩, ⟨.inl rfl, True.intro⟩, Nat.le_refl _, belowH_us _⟩, _, i, ?_, ?_, rfl, rfl⟩
        · rw [List.length_append, List.length_append, List.length_take, Nat.min_eq_left hil]
          omega
        · have ht3 : (R.take i).length = i := by rw [List.length_take]; omega
          rw [List.append_assoc, List.take_left' ht3, hR, h2]
          congr 1
          omega
    · have g' : atN R0 k ≠ atN R0 (k - 1) := by
        have : ((atN R0 k : Nat) : Int) ≠ ((atN R0 (k - 1) : Nat) : Int) := beq_eq_false_iff_ne.1 g
        omega
      repeat first | refine same ?_ | refine optK_intro (rd_us rfl (ofs k) hx) ?_ | refine optK_intro (rd_us rfl (ofsW hdec) hy) ?_
      refine hK ⟨k + 1, by omega, h', by rw [take_at h', ddN_new (.inr g'), hk]⟩ [0] _ (show R0.length - k = R0.length - (k + 1) + 1 by omega) ⟨⟨rfl, congrArg i64 hinc, True.intro⟩, ⟨.inl (by rw [renO_us]; rfl), True.intro⟩, rfl, rfl, rfl⟩
  · have h' : k = R0.length := by have : ¬ (k : Int) < (R0.length : Int) := h; omega
    rw [h'] at hk
    exact ⟨rfl, [.row (R0.map u64n)], .slc 0 0 R0.length 1, ⟨⟨_, rfl, rfl⟩, ⟨.inl rfl, True.intro⟩, Nat.le_refl _, belowH_us R0⟩, R0, R0.length, Nat.le_refl _, hk, rfl, rfl⟩
end Go.Proofs.Ytmfifbclldnpkaa.A

namespace Go.Proofs.Ytmfifbclldnpkaa.A
open Go
set_option linter.unusedVariables false
set_option maxRecDepth 100000
set_option pp.maxSteps 1500

def Srt (l : List Nat) : Prop := l.Pairwise (· < ·)
theorem srt_uniq : ∀ {a b : List Nat}, Srt a → Srt b → (∀ x, x ∈ a ↔ x ∈ b) → a = b
  | [], [], _, _, _ => rfl
  | [], y :: b, _, _, h => absurd ((h y).2 (List.mem_cons_self ..)) (List.not_mem_nil)
  | x :: a, [], _, _, h => absurd ((h x).1 (List.mem_cons_self ..)) (List.not_mem_nil)
  | x :: a, y :: b, ha, hb, h => by
    obtain ⟨ha1, ha2⟩ := List.pairwise_cons.1 ha
    obtain ⟨hb1, hb2⟩ := List.pairwise_cons.1 hb
    have hxy : x = y := by
      rcases List.mem_cons.1 ((h x).1 (List.mem_cons_self ..)) with e | e
      · exact e
      · rcases List.mem_cons.1 ((h y).2 (List.mem_cons_self ..)) with e2 | e2
        · exact e2.symm
        · have := hb1 x e
          have := ha1 y e2
          omega
    subst hxy
    rw [srt_uniq ha2 hb2 fun z => ?_]
    constructor
    · intro hz
      rcases List.mem_cons.1 ((h z).1 (List.mem_cons_of_mem _ hz)) with e | e
      · have := ha1 z hz
        omega
      · exact e
    · intro hz
      rcases List.mem_cons.1 ((h z).2 (List.mem_cons_of_mem _ hz)) with e | e
      · have := hb1 z hz
        omega
      · exact e
def putL : List Nat → Nat → List Nat
  | [], t => [t]
  | x :: l, t => if t < x then t :: x :: l else if t = x then x :: l else x :: putL l t
theorem mem_putL (t x : Nat) : ∀ l : List Nat, x ∈ putL l t ↔ x = t ∨ x ∈ l
  | [] => by simp [putL]
  | y :: l => by
    unfold putL
    by_cases h1 : t < y
    · rw [if_pos h1]
      simp
    · rw [if_neg h1]
      by_cases h2 : t = y
      · rw [if_pos h2]
        simp [h2]
      · rw [if_neg h2]
        simp only [List.mem_cons, mem_putL t x l]
        constructor
        · rintro (h | h | h)
          · exact .inr (.inl h)
          · exact .inl h
          · exact .inr (.inr h)
        · rintro (h | h | h)
          · exact .inr (.inl h)
          · exact .inl h
          · exact .inr (.inr h)
theorem len_putL (t : Nat) : ∀ l : List Nat, (putL l t).length ≤ l.length + 1
  | [] => by simp [putL]
  | y :: l => by
    have := len_putL t l
    unfold putL
    by_cases h1 : t < y
    · rw [if_pos h1]
      simp
    · rw [if_neg h1]
      by_cases h2 : t = y
      · rw [if_pos h2]
        simp
      · rw [if_neg h2]
        simp only [List.length_cons]
        omega
theorem srt_putL (t : Nat) : ∀ {l : List Nat}, Srt l → Srt (putL l t)
  | [], _ => by simp [putL, Srt]
  | y :: l, h => by
    obtain ⟨h1, h2⟩ := List.pairwise_cons.1 h
    unfold putL
    by_cases q1 : t < y
    · rw [if_pos q1]
      refine List.pairwise_cons.2 ⟨fun z hz => ?_, h⟩
      rcases List.mem_cons.1 hz with rfl | hz
      · exact q1
      · have := h1 z hz
        omega
    · rw [if_neg q1]
      by_cases q2 : t = y
      · rw [if_pos q2]
        exact h
      · rw [if_neg q2]
        refine List.pairwise_cons.2 ⟨fun z hz => ?_, srt_putL t h2⟩
        rcases (mem_putL t z l).1 hz with rfl | hz
        · omega
        · exact h1 z hz
/-- Of tags, each once, in their order. -/
def ofL (tags : List Nat) : List Nat := tags.foldl putL []
theorem ofL_snoc (l : List Nat) (t : Nat) : ofL (l ++ [t]) = putL (ofL l) t := by unfold ofL; rw [List.foldl_append]; rfl
theorem foldl_put : ∀ (tags l : List Nat), Srt l → Srt (tags.foldl putL l) ∧ ∀ x, x ∈ tags.foldl putL l ↔ x ∈ l ∨ x ∈ tags
  | [], l, h => ⟨h, fun x => by simp⟩
  | t :: tags, l, h => by
    obtain ⟨h1, h2⟩ := foldl_put tags (putL l t) (srt_putL t h)
    refine ⟨h1, fun x => ?_⟩
    rw [List.foldl_cons, h2, mem_putL, List.mem_cons]
    constructor
    · rintro ((h | h) | h)
      · exact .inr (.inl h)
      · exact .inl h
      · exact .inr (.inr h)
    · rintro (h | h | h)
      · exact .inl (.inr h)
      · exact .inl (.inl h)
      · exact .inr h
theorem srt_ofL (tags : List Nat) : Srt (ofL tags) := (foldl_put tags [] List.Pairwise.nil).1
theorem mem_ofL (tags : List Nat) (x : Nat) : x ∈ ofL tags ↔ x ∈ tags := by
  unfold ofL
  rw [(foldl_put tags [] List.Pairwise.nil).2]
  simp
theorem srt_snoc {l : List Nat} {x : Nat} (h : Srt l) (hx : ∀ y ∈ l, y < x) : Srt (l ++ [x]) := by
  unfold Srt
  rw [List.pairwise_append]
  exact ⟨h, List.pairwise_singleton .., fun a ha b hb => by rw [List.mem_singleton.1 hb]; exact hx a ha⟩
theorem ddN_ok (R : List Nat) (hs : SI 0 R.length R) : ∀ n, n ≤ R.length → Srt (ddN R n) ∧ (∀ x, x ∈ ddN R n ↔ ∃ k, k < n ∧ atN R k = x)
  | 0, _ => ⟨List.Pairwise.nil, fun x => by simp [ddN]⟩
  | n + 1, hn => by
    obtain ⟨h1, h2⟩ := ddN_ok R hs n (by omega)
    by_cases hc : n = 0 ∨ atN R n ≠ atN R (n - 1)
    · rw [ddN_new hc]
      refine ⟨srt_snoc h1 fun y hy => ?_, fun x => ?_⟩
      · obtain ⟨k, hk, rfl⟩ := (h2 y).1 hy
        have a1 := hs k n (Nat.zero_le _) hk (by omega)
        have a2 := hs (n - 1) n (Nat.zero_le _) (by omega) (by omega)
        by_cases hkn : k = n - 1
        · subst hkn
          omega
        · have a3 := hs k (n - 1) (Nat.zero_le _) (by omega) (by omega)
          omega
      · rw [List.mem_append, h2, List.mem_singleton]
        constructor
        · rintro (⟨k, hk, e⟩ | e)
          · exact ⟨k, by omega, e⟩
          · exact ⟨n, by omega, e.symm⟩
        · rintro ⟨k, hk, e⟩
          by_cases hkn : k = n
          · subst hkn
            exact .inr e.symm
          · exact .inl ⟨k, by omega, e⟩
    · have hc2 : 0 < n ∧ atN R n = atN R (n - 1) := ⟨by omega, Classical.byContradiction fun h => hc (.inr h)⟩
      rw [ddN_old hc2.1 hc2.2]
      refine ⟨h1, fun x => ?_⟩
      rw [h2]
      constructor
      · rintro ⟨k, hk, e⟩
        exact ⟨k, by omega, e⟩
      · rintro ⟨k, hk, e⟩
        by_cases hkn : k = n
        · subst hkn
          exact ⟨k - 1, by omega, by rw [← hc2.2]; exact e⟩
        · exact ⟨k, by omega, e⟩
theorem mem_atN (R : List Nat) (x : Nat) : x ∈ R ↔ ∃ k, k < R.length ∧ atN R k = x := by
  rw [List.mem_iff_getElem?]
  constructor
  · rintro ⟨k, hk⟩
    have h := (List.getElem?_eq_some_iff.1 hk).1
    refine ⟨k, h, ?_⟩
    rw [atN_some h] at hk
    exact Option.some.inj hk
  · rintro ⟨k, hk, rfl⟩
    exact ⟨k, atN_some hk⟩
/-- What is sorted, and each once, is what the document says. -/
theorem ddN_ofL {R0 R : List Nat} (so : SO 0 R0.length R0 R) (si : SI 0 R0.length R) : ddN R R.length = ofL R0 := by
  rw [← so.len] at si
  obtain ⟨h1, h2⟩ := ddN_ok R si R.length (Nat.le_refl _)
  refine srt_uniq h1 (srt_ofL R0) fun x => ?_
  rw [h2, ← mem_atN, mem_ofL]
  exact so.perm.mem_iff
structure PutSt (l : List Nat) (t : Nat) where
  i : Nat
  put : Bool
  out : List Nat
  hi : i ≤ l.length
  srt : Srt out
  mem : ∀ x, x ∈ out ↔ (x ∈ l.take i ∧ x ≠ t) ∨ (put = true ∧ x = t)
  hp : put = true ↔ ∃ x, x ∈ l.take i ∧ t ≤ x
  len : out.length ≤ l.length + 1
theorem rput_ok (l : List Nat) (t : Nat) (hs : Srt l) (hn : l.length ≤ 1000) : ACalls Try.prog 31 [us l, u64n t] [] (Ret (us (putL l t))) := by
  refine acalls_of_awp hT mixed Try.func31 rfl (by kernel_rfl) (by kernel_rfl) (Nat.le_of_ble_eq_true rfl) ?_
  refine loopI (α := PutSt l t) (fun z => [(0, us l), (1, u64n t), (5, .slc 0 0 z.out.length 1), (6, bo z.put), (7, i64 (z.i : Nat))]) (fun z => [.row (z.out.map u64n)]) (fun z => l.length - z.i) ⟨0, false, [], Nat.zero_le _, List.Pairwise.nil, by simp, by simp, by simp⟩ [0]
    ⟨⟨rfl, rfl, rfl, rfl, rfl, True.intro⟩, ⟨.inl rfl, True.intro⟩, rfl, rfl, rfl⟩ ?_
  rintro ⟨i, put, out, hi, srt, mem, hp, len⟩ K hK
  have hinc : wrp .i64 ((i : Int) + 1) = ((i + 1 : Nat) : Int) := by rw [wrpE, wi64]; omega
  have hrd : ∀ G : Heap, rdN (.row (out.map u64n) :: G) 0 0 (out.length * 1) = some (out.map u64n) := fun G => rdN_all rfl (by rw [List.length_map]; omega)
  have hlt : ∀ x, x ∈ l.take i → ∀ y, l[i]? = some y → x < y := fun x hx y hy => by
    have hd : l.drop i = y :: l.drop (i + 1) := by
      obtain ⟨h1, rfl⟩ := List.getElem?_eq_some_iff.1 hy
      exact List.drop_eq_getElem_cons h1
    have : Srt (l.take i ++ l.drop i) := by rw [List.take_append_drop]; exact hs
    unfold Srt at this
    rw [List.pairwise_append] at this
    exact this.2.2 x hx y (by rw [hd]; exact List.mem_cons_self ..)
  refine forkD (fun h => ?_) (fun h => ?_)
  · have h' : i < l.length := by have : (i : Int) < (l.length : Int) := h; omega
    obtain ⟨y, hy⟩ : ∃ y, l[i]? = some y := ⟨_, List.getElem?_eq_getElem h'⟩
    have hb := (show (0 : Int) ≤ (i : Nat) ∧ ((i : Nat) : Int) < (l.length : Nat) by omega)
    have htk : l.take (i + 1) = l.take i ++ [y] := take_snocA hy
    have hlt := fun x hx => hlt x hx y hy
    have hm : l.length - i = l.length - (i + 1) + 1 := by omega
    cases put with
    | false =>
      have hp0 : ∀ x, x ∈ l.take i → x < t := fun x hx => Classical.byContradiction fun hh => by
        have := hp.2 ⟨x, hx, by omega⟩
        cases this
      have hout : ∀ x, x ∈ out ↔ x ∈ l.take i := fun x => by
        rw [mem]
        constructor
        · rintro (h | ⟨h, _⟩)
          · exact h.1
          · cases h
        · intro h
          have := hp0 x h
          exact .inl ⟨h, by omega⟩
      refine Ob.intro hb ?_
      refine optK_intro (nth_map hy) ?_
      refine forkD (fun g => ?_) (fun g => ?_)
      · have g' : t ≤ y := by have : (t : Int) ≤ (y : Int) := g; omega
        have hs1 : Srt (out ++ [t]) := srt_snoc srt fun x hx => hp0 x ((hout x).1 hx)
        refine Ob.intro rfl ?_
        refine optK_intro (hrd _) ?_
        refine Ob.intro (show (out.length + 1) * 8 ≤ 140737488355328 ∧ out.length + 1 ≤ 9223372036854775807 by omega) ?_
        refine Ob.intro hb ?_
        refine optK_intro (nth_map hy) ?_
        have hlen : out.length ≤ l.length := by
          have : out = l.take i := srt_uniq srt (hs.sublist (List.take_sublist ..)) hout
          rw [this, List.length_take]
          omega
        refine fork (fun e => ?_) (fun e => ?_)
        · have e' : y ≠ t := by
            have : ((y : Nat) : Int) ≠ (t : Nat) := bne_iff_ne.1 e
            omega
          refine Ob.intro hb ?_
          refine optK_intro (nth_map hy) ?_
          refine Ob.intro rfl ?_
          refine optK_intro (a := (out.map u64n ++ [u64n t])) (rdN_all rfl (show (out.length + 1) * 1 = (out.map u64n ++ [u64n t]).length by rw [List.length_append, List.length_map, Nat.mul_one]; rfl)) ?_
          refine Ob.intro (show (out.length + 1 + 1) * 8 ≤ 140737488355328 ∧ out.length + 1 + 1 ≤ 9223372036854775807 by omega) ?_
          refine hK ⟨i + 1, true, out ++ [t] ++ [y], h', srt_snoc hs1 fun x hx => ?_, fun x => ?_, ?_, ?_⟩ [4] _ hm ⟨⟨rfl, rfl, slcE rfl (by simp only [List.length_append]; rfl), rfl, congrArg i64 hinc, True.intro⟩, ⟨.inl ?_, True.intro⟩, rfl, rfl, rfl⟩
          · rcases List.mem_append.1 hx with hx | hx
            · exact hlt x ((hout x).1 hx)
            · rw [List.mem_singleton.1 hx]
              omega
          · rw [htk]
            simp only [List.mem_append, List.mem_singleton, hout]
            constructor
            · rintro ((hx | rfl) | rfl)
              · exact .inl ⟨.inl hx, by have := hp0 x hx; omega⟩
              · exact .inr ⟨trivial, rfl⟩
              · exact .inl ⟨.inr rfl, e'⟩
            · rintro (⟨hx | rfl, hne⟩ | ⟨_, rfl⟩)
              · exact .inl (.inl hx)
              · exact .inr rfl
              · exact .inl (.inr rfl)
          · rw [htk]
            exact ⟨fun _ => ⟨y, by simp, g'⟩, fun _ => rfl⟩
          · simp only [List.length_append, List.length_singleton]
            have : out.length < l.length := by
              have h5 : out = l.take i := srt_uniq srt (hs.sublist (List.take_sublist ..)) hout
              rw [h5, List.length_take]
              omega
            omega
          · show some (AObj.row ((out.map u64n ++ [u64n t]) ++ [u64n y])) = some (renO _ (.row ((out ++ [t] ++ [y]).map u64n)))
            rw [renO_us, List.map_append, List.map_append]
            rfl
        · have e' : y = t := by
            have : ((y : Nat) : Int) = (t : Nat) := bne_eq_false_iff_eq.1 e
            omega
          refine hK ⟨i + 1, true, out ++ [t], h', hs1, fun x => ?_, ?_, ?_⟩ [2] _ hm ⟨⟨rfl, rfl, slcE rfl (by simp only [List.length_append]; rfl), rfl, congrArg i64 hinc, True.intro⟩, ⟨.inl ?_, True.intro⟩, rfl, rfl, rfl⟩
          · rw [htk]
            simp only [List.mem_append, List.mem_singleton, hout]
            constructor
            · rintro (hx | rfl)
              · exact .inl ⟨.inl hx, by have := hp0 x hx; omega⟩
              · exact .inr ⟨trivial, rfl⟩
            · rintro (⟨hx | rfl, hne⟩ | ⟨_, rfl⟩)
              · exact .inl hx
              · exact absurd e' hne
              · exact .inr rfl
          · rw [htk]
            exact ⟨fun _ => ⟨y, by simp, g'⟩, fun _ => rfl⟩
          · rw [List.length_append, List.length_singleton]
            omega
          · show some (AObj.row (out.map u64n ++ [u64n t])) = some (renO _ (.row ((out ++ [t]).map u64n)))
            rw [renO_us, List.map_append]
            rfl
      · have g' : y < t := by have : ¬ (t : Int) ≤ (y : Int) := g; omega
        refine Ob.intro hb ?_
        refine optK_intro (nth_map hy) ?_
        refine fork (fun e => ?_) (fun e => ?_)
        · refine Ob.intro hb ?_
          refine optK_intro (nth_map hy) ?_
          refine Ob.intro rfl ?_
          refine optK_intro (hrd _) ?_
          refine Ob.intro (show (out.length + 1) * 8 ≤ 140737488355328 ∧ out.length + 1 ≤ 9223372036854775807 by omega) ?_
          refine hK ⟨i + 1, false, out ++ [y], h', srt_snoc srt fun x hx => hlt x ((hout x).1 hx), fun x => ?_, ?_, ?_⟩ [2] _ hm ⟨⟨rfl, rfl, slcE rfl (by simp only [List.length_append]; rfl), rfl, congrArg i64 hinc, True.intro⟩, ⟨.inl ?_, True.intro⟩, rfl, rfl, rfl⟩
          · rw [htk]
            simp only [List.mem_append, List.mem_singleton, hout]
            constructor
            · rintro (hx | rfl)
              · exact .inl ⟨.inl hx, by have := hp0 x hx; omega⟩
              · exact .inl ⟨.inr rfl, by omega⟩
            · rintro (⟨hx, hne⟩ | ⟨h, _⟩)
              · exact hx
              · cases h
          · rw [htk]
            constructor
            · intro h
              cases h
            · rintro ⟨x, hx, hge⟩
              exfalso
              rcases List.mem_append.1 hx with hx | hx
              · have := hp0 x hx
                omega
              · rw [List.mem_singleton.1 hx] at hge
                omega
          · rw [List.length_append, List.length_singleton]
            have h5 : out = l.take i := srt_uniq srt (hs.sublist (List.take_sublist ..)) hout
            rw [h5, List.length_take]
            omega
          · show some (AObj.row (out.map u64n ++ [u64n y])) = some (renO _ (.row ((out ++ [y]).map u64n)))
            rw [renO_us, List.map_append]
            rfl
        · exfalso
          have : ((y : Nat) : Int) = (t : Nat) := bne_eq_false_iff_eq.1 e
          omega
    | true =>
      obtain ⟨z, hz, hzt⟩ := hp.1 rfl
      have hyt : t < y := by have := hlt z hz; omega
      refine Ob.intro hb ?_
      refine optK_intro (nth_map hy) ?_
      refine fork (fun e => ?_) (fun e => ?_)
      · refine Ob.intro hb ?_
        refine optK_intro (nth_map hy) ?_
        refine Ob.intro rfl ?_
        refine optK_intro (hrd _) ?_
        refine Ob.intro (show (out.length + 1) * 8 ≤ 140737488355328 ∧ out.length + 1 ≤ 9223372036854775807 by omega) ?_
        have hs1 : Srt (out ++ [y]) := srt_snoc srt fun x hx => by
          rcases (mem x).1 hx with ⟨h, _⟩ | ⟨_, rfl⟩
          · exact hlt x h
          · exact hyt
        have hmem : ∀ x, x ∈ out ++ [y] ↔ (x ∈ l.take (i + 1) ∧ x ≠ t) ∨ (true = true ∧ x = t) := fun x => by
          rw [htk]
          simp only [List.mem_append, List.mem_singleton, mem]
          constructor
          · rintro ((⟨hx, hne⟩ | ⟨_, rfl⟩) | rfl)
            · exact .inl ⟨.inl hx, hne⟩
            · exact .inr ⟨trivial, rfl⟩
            · exact .inl ⟨.inr rfl, by omega⟩
          · rintro (⟨hx | rfl, hne⟩ | ⟨_, rfl⟩)
            · exact .inl (.inl ⟨hx, hne⟩)
            · exact .inr rfl
            · exact .inl (.inr ⟨trivial, rfl⟩)
        refine hK ⟨i + 1, true, out ++ [y], h', hs1, hmem, ?_, ?_⟩ [2] _ hm ⟨⟨rfl, rfl, slcE rfl (by simp only [List.length_append]; rfl), rfl, congrArg i64 hinc, True.intro⟩, ⟨.inl ?_, True.intro⟩, rfl, rfl, rfl⟩
        · rw [htk]
          exact ⟨fun _ => ⟨z, by simp [hz], hzt⟩, fun _ => rfl⟩
        · have h5 : out ++ [y] = putL (l.take (i + 1)) t := by
            refine srt_uniq hs1 (srt_putL t (hs.sublist (List.take_sublist ..))) fun x => ?_
            rw [hmem, mem_putL]
            constructor
            · rintro (⟨h, _⟩ | ⟨_, h⟩)
              · exact .inr h
              · exact .inl h
            · rintro (h | h)
              · exact .inr ⟨rfl, h⟩
              · by_cases he : x = t
                · exact .inr ⟨rfl, he⟩
                · exact .inl ⟨h, he⟩
          rw [h5]
          have := len_putL t (l.take (i + 1))
          rw [List.length_take] at this
          omega
        · show some (AObj.row (out.map u64n ++ [u64n y])) = some (renO _ (.row ((out ++ [y]).map u64n)))
          rw [renO_us, List.map_append]
          rfl
      · exfalso
        have : ((y : Nat) : Int) = (t : Nat) := bne_eq_false_iff_eq.1 e
        omega
  · have h' : i = l.length := by have : ¬ (i : Int) < (l.length : Int) := h; omega
    rw [h', List.take_length] at mem hp
    cases put with
    | false =>
      refine Ob.intro rfl ?_
      refine optK_intro (hrd _) ?_
      refine Ob.intro (show (out.length + 1) * 8 ≤ 140737488355328 ∧ out.length + 1 ≤ 9223372036854775807 by omega) ?_
      have hout : out ++ [t] = putL l t := by
        refine srt_uniq (srt_snoc srt fun x hx => ?_) (srt_putL t hs) fun x => ?_
        · rcases (mem x).1 hx with ⟨h, _⟩ | ⟨h, _⟩
          · refine Classical.byContradiction fun hh => ?_
            have := hp.2 ⟨x, h, by omega⟩
            cases this
          · cases h
        · rw [mem_putL, List.mem_append, List.mem_singleton, mem]
          constructor
          · rintro ((h | h) | h)
            · exact .inr h.1
            · cases h.1
            · exact .inl h
          · rintro (h | h)
            · exact .inr h
            · by_cases he : x = t
              · exact .inr he
              · exact .inl (.inl ⟨h, he⟩)
      refine ⟨rfl, [], us (putL l t), ⟨⟨_, rfl, ?_⟩, True.intro, Nat.le_refl _, rfl⟩, rfl, rfl⟩
      rw [← hout]
      exact frz_us3 (l := out ++ [t]) (k := 6) (by show some (AObj.row _) = _; rw [List.map_append]; rfl) (by rw [List.length_append]; rfl) rfl
    | true =>
      have hout : out = putL l t := by
        refine srt_uniq srt (srt_putL t hs) fun x => ?_
        rw [mem_putL, mem]
        constructor
        · rintro (h | h)
          · exact .inr h.1
          · exact .inl h.2
        · rintro (h | h)
          · exact .inr ⟨rfl, h⟩
          · by_cases he : x = t
            · exact .inr ⟨rfl, he⟩
            · exact .inl ⟨h, he⟩
      refine ⟨rfl, [], us (putL l t), ⟨⟨_, rfl, ?_⟩, True.intro, Nat.le_refl _, rfl⟩, rfl, rfl⟩
      rw [← hout]
      exact frz_us3 (l := out) (k := 6) rfl rfl rfl
end Go.Proofs.Ytmfifbclldnpkaa.A

namespace Go.Proofs.Ytmfifbclldnpkaa.A
open Go
set_option linter.unusedVariables false
set_option maxRecDepth 100000
set_option pp.maxSteps 1500

theorem len_foldl_put : ∀ (tags l : List Nat), (tags.foldl putL l).length ≤ l.length + tags.length
  | [], l => by simp
  | t :: tags, l => by
    have h1 := len_foldl_put tags (putL l t)
    have h2 := len_putL t l
    rw [List.foldl_cons, List.length_cons]
    omega
theorem len_ofL (tags : List Nat) : (ofL tags).length ≤ tags.length := by
  have := len_foldl_put tags []
  unfold ofL
  simpa using this
inductive OfSt where
  | start
  | mid (k : Nat)
def OfSt.L (tags : List Nat) : OfSt → List (Nat × AV)
  | .start => [(0, us tags), (3, .slc 0 0 0 1), (4, i64 0)]
  | .mid k => [(0, us tags), (3, us (ofL (tags.take k))), (4, i64 (k : Nat))]
def OfSt.H : OfSt → Heap
  | .start => [.row []]
  | .mid _ => []
def OfSt.m (tags : List Nat) : OfSt → Nat
  | .start => tags.length
  | .mid k => tags.length - k
theorem rof_ok (tags : List Nat) (hn : tags.length ≤ 900) : ACalls Try.prog 11 [us tags] [] (Ret (us (ofL tags))) := by
  refine acalls_of_awp hT mixed Try.func11 rfl (by kernel_rfl) (by kernel_rfl) (Nat.le_of_ble_eq_true rfl) ?_
  refine loopI (α := { z : OfSt // match z with | .start => True | .mid k => k ≤ tags.length }) (fun z => z.val.L tags) (fun z => z.val.H) (fun z => z.val.m tags) ⟨.start, True.intro⟩ [0] ⟨⟨rfl, rfl, rfl, True.intro⟩, ⟨.inl rfl, True.intro⟩, rfl, rfl, rfl⟩ ?_
  rintro ⟨z, hz⟩ K hK
  cases z with
  | start =>
    refine forkD (fun h => ?_) (fun h => ?_)
    · have h' : 0 < tags.length := by have : (0 : Int) < (tags.length : Int) := h; omega
      obtain ⟨y, hy⟩ : ∃ y, tags[0]? = some y := ⟨_, List.getElem?_eq_getElem h'⟩
      refine Ob.intro (show (0 : Int) ≤ 0 ∧ (0 : Int) < (tags.length : Nat) by omega) ?_
      refine optK_intro (nth_map (k := 0) hy) ?_
      refine callCut (H := [.row []]) (bs := [us [], u64n y]) 0 rfl ?_
      refine callP (rput_ok [] y List.Pairwise.nil (by decide)) rfl rfl ?_
      refine hK ⟨.mid 1, h'⟩ [] _ (show tags.length = tags.length - 1 + 1 by omega) ⟨⟨rfl, congrArg us (by rw [take_snocA hy]; rfl), congrArg i64 (by rw [wrpE, wi64]; rfl), True.intro⟩, True.intro, rfl, rfl, rfl⟩
    · have h' : tags = [] := List.eq_nil_of_length_eq_zero (by have : ¬ (0 : Int) < (tags.length : Int) := h; omega)
      subst h'
      exact ⟨rfl, [], us [], ⟨⟨_, rfl, rfl⟩, True.intro, Nat.le_refl _, rfl⟩, rfl, rfl⟩
  | mid k =>
    have hinc : wrp .i64 ((k : Int) + 1) = ((k + 1 : Nat) : Int) := by
      have : k ≤ tags.length := hz
      rw [wrpE, wi64]
      omega
    refine forkD (fun h => ?_) (fun h => ?_)
    · have h' : k < tags.length := by have : (k : Int) < (tags.length : Int) := h; omega
      obtain ⟨y, hy⟩ : ∃ y, tags[k]? = some y := ⟨_, List.getElem?_eq_getElem h'⟩
      have hl := len_ofL (tags.take k)
      rw [List.length_take] at hl
      refine Ob.intro (show (0 : Int) ≤ (k : Nat) ∧ ((k : Nat) : Int) < (tags.length : Nat) by omega) ?_
      refine optK_intro (nth_map hy) ?_
      refine callP (rput_ok (ofL (tags.take k)) y (srt_ofL _) (by omega)) rfl rfl ?_
      refine hK ⟨.mid (k + 1), h'⟩ [] _ (show tags.length - k = tags.length - (k + 1) + 1 by omega) ⟨⟨rfl, congrArg us (by rw [take_snocA hy, ofL_snoc]), congrArg i64 hinc, True.intro⟩, True.intro, rfl, rfl, rfl⟩
    · have h' : k = tags.length := by
        have h1 : ¬ (k : Int) < (tags.length : Int) := h
        have h2 : k ≤ tags.length := hz
        omega
      subst h'
      refine end0 rfl rfl rfl ?_
      show us (ofL (tags.take tags.length)) = _
      rw [List.take_length]
theorem frz_usT {H : Heap} {i n m k : Nat} {R : List Nat} (h : nth H i = some (.row (R.map u64n))) (hn : n ≤ R.length) (hm : Nat.blt i m = false) : frz H m (k + 2) (.slc i 0 n 1) = some (us (R.take n)) := by
  have h1 : rdN H i 0 (n * 1) = some ((R.take n).map u64n) := by
    rw [rdN_eq h (by rw [List.length_map]; omega), List.drop_zero, Nat.mul_one, List.map_take]
  have h2 : mapO (frz0 H m (k + 1)) ((R.take n).map u64n) = some ((R.take n).map u64n) := mapO_map (f := frz0 H m (k + 1)) (g := u64n) (h := u64n) (fun _ => rfl) (R.take n)
  have h3 : (R.take n).length = n := by rw [List.length_take]; omega
  have h4 : us (R.take n) = .view n ((R.take n).map u64n) := by unfold us; rw [h3]
  rw [h4]
  simp only [frz, frz0, hm, cond_false, h1, h2]
def ofP (tags : List Nat) : List Nat × Int := if 0 ∈ tags then ([], 1) else if 6 < (ofL tags).length then ([], 5) else (ofL tags, 0)
theorem of_gen (tags : List Nat) (hn : tags.length ≤ 900) (hs : ACalls Try.prog 29 [.slc 0 0 tags.length 1] [.row (tags.map u64n)] (fun E G => ∃ R, SO 0 tags.length tags R ∧ SI 0 tags.length R ∧ E = .ret (.tup []) ∧ G = [.row (R.map u64n)])) : ACalls Try.prog 10 [us tags] [] (Ret (.tup [us (ofP tags).1, i64 (ofP tags).2])) := by
  refine ACalls.weakR (R := fun E G => (E = .ret (.tup [us (ofP tags).1, i64 (ofP tags).2]) ∨ ((ofP tags).1 = [] ∧ E = .ret (.tup [nilS, i64 (ofP tags).2]))) ∧ G = []) ?_ ?_
  · refine acalls_of_awp hT mixed Try.func10 rfl (by kernel_rfl) (by kernel_rfl) (Nat.le_of_ble_eq_true rfl) ?_
    refine callS (clone_ok tags (by omega)) [] True.intro rfl ?_
    rintro E G (⟨hnil, rfl, rfl⟩ | ⟨rfl, rfl⟩) _
    · subst hnil
      refine ⟨_, _, rfl, rfl, ?_⟩
      refine callP sort_nil rfl rfl ?_
      refine callP compact_nil rfl rfl ?_
      exact ⟨rfl, [], .tup [nilS, i64 0], ⟨⟨_, rfl, rfl⟩, True.intro, Nat.le_refl _, rfl⟩, .inr ⟨rfl, rfl⟩, rfl⟩
    · refine ⟨_, [.dead, .row (tags.map u64n)], rfl, by show [AObj.dead, renO _ (.row (tags.map u64n))] = _; rw [renO_us], ?_⟩
      refine callS hs [1] ⟨.inl (by rw [renO_us]; rfl), True.intro⟩ rfl ?_
      rintro E G ⟨R, so, si, rfl, rfl⟩ _
      refine ⟨_, [.dead, .row (R.map u64n)], rfl, by rw [renH_us]; rfl, ?_⟩
      have hc := compact_ok R (by rw [so.len]; omega)
      rw [ddN_ofL so si, so.len] at hc
      refine callS hc [1] ⟨.inl (by rw [renO_us]; rfl), True.intro⟩ rfl ?_
      rintro E G ⟨S, m, hm, hS, rfl, rfl⟩ _
      refine ⟨_, [.dead, .row (S.map u64n)], rfl, by rw [renH_us]; rfl, ?_⟩
      have hml : (ofL tags).length = m := by rw [← hS, List.length_take]; omega
      have hz : 0 ∈ tags ↔ 0 < m ∧ atN S 0 = 0 := by
        rw [← mem_ofL]
        have hsr := srt_ofL tags
        constructor
        · intro h
          have hpos : 0 < m := by rw [← hml]; exact List.length_pos_of_mem h
          refine ⟨hpos, ?_⟩
          have h0 : (ofL tags)[0]? = some (atN S 0) := by rw [← hS, List.getElem?_take_of_lt hpos]; exact atN_some (by omega)
          obtain ⟨h1, h2⟩ := List.getElem?_eq_some_iff.1 h0
          generalize ofL tags = q at *
          match q, h1, h2 with
          | x :: q, _, h2 =>
            have h2' : x = atN S 0 := h2
            rcases List.mem_cons.1 h with e | e
            · omega
            · have := (List.pairwise_cons.1 hsr).1 0 e
              omega
        · rintro ⟨hpos, h0⟩
          have h1 : (ofL tags)[0]? = some (atN S 0) := by rw [← hS, List.getElem?_take_of_lt hpos]; exact atN_some (by omega)
          rw [h0] at h1
          exact List.mem_of_getElem? h1
      have hf : frz [.dead, .row (S.map u64n)] 0 7 (.slc 1 0 m 1) = some (us (ofL tags)) := by rw [← hS]; exact frz_usT (k := 5) rfl hm rfl
      have hfr : frz [.dead, .row (S.map u64n)] 0 8 (.tup [.slc 1 0 m 1, i64 0]) = some (.tup [us (ofL tags), i64 0]) := frz_tup (by simp only [mapO, hf]; rfl)
      refine forkD (fun h => ?_) (fun h => ?_)
      · have h' : 0 < m := by have : (m : Int) > 0 := h; omega
        refine Ob.intro (show (0 : Int) ≤ 0 ∧ (0 : Int) < (m : Nat) by omega) ?_
        refine optK_intro (rd_us (k := 0) rfl rfl (atN_some (by omega))) ?_
        refine fork (fun g => ?_) (fun g => ?_)
        · have g' : atN S 0 = 0 := by
            have : ((atN S 0 : Nat) : Int) = 0 := beq_iff_eq.1 g
            omega
          have hp : ofP tags = ([], 1) := by unfold ofP; rw [if_pos (hz.2 ⟨h', g'⟩)]
          rw [hp]
          exact ⟨rfl, [], .tup [nilS, i64 1], ⟨⟨_, rfl, rfl⟩, True.intro, Nat.le_refl _, rfl⟩, .inr ⟨rfl, rfl⟩, rfl⟩
        · have g' : ¬ 0 ∈ tags := fun hh => by
            have := (hz.1 hh).2
            have g2 : ((atN S 0 : Nat) : Int) ≠ 0 := beq_eq_false_iff_ne.1 g
            omega
          refine forkD (fun h6 => ?_) (fun h6 => ?_)
          · have h6' : 6 < m := by have : (m : Int) > 6 := h6; omega
            have hp : ofP tags = ([], 5) := by unfold ofP; rw [if_neg g', if_pos (by omega)]
            rw [hp]
            exact ⟨rfl, [], .tup [nilS, i64 5], ⟨⟨_, rfl, rfl⟩, True.intro, Nat.le_refl _, rfl⟩, .inr ⟨rfl, rfl⟩, rfl⟩
          · have h6' : ¬ 6 < m := by have : ¬ (m : Int) > 6 := h6; omega
            have hp : ofP tags = (ofL tags, 0) := by unfold ofP; rw [if_neg g', if_neg (by omega)]
            rw [hp]
            refine ⟨rfl, [], .tup [us (ofL tags), i64 0], ⟨⟨_, rfl, ?_⟩, True.intro, Nat.le_refl _, rfl⟩, .inl rfl, rfl⟩
            exact hfr
      · have h' : m = 0 := by have : ¬ (m : Int) > 0 := h; omega
        have g' : ¬ 0 ∈ tags := fun hh => by
          have := (hz.1 hh).1
          omega
        refine forkD (fun h6 => ?_) (fun h6 => ?_)
        · have h6' : 6 < m := by have : (m : Int) > 6 := h6; omega
          omega
        · have hp : ofP tags = (ofL tags, 0) := by unfold ofP; rw [if_neg g', if_neg (by omega)]
          rw [hp]
          refine ⟨rfl, [], .tup [us (ofL tags), i64 0], ⟨⟨_, rfl, ?_⟩, True.intro, Nat.le_refl _, rfl⟩, .inl rfl, rfl⟩
          exact hfr
  · rintro E G ⟨rfl | ⟨h, rfl⟩, rfl⟩
    · exact ⟨_, ⟨rfl, rfl⟩, EndR_refl _⟩
    · rw [h]
      exact ⟨_, ⟨rfl, rfl⟩, EndR_nilT _⟩
end Go.Proofs.Ytmfifbclldnpkaa.A

namespace Go.Proofs.Ytmfifbclldnpkaa.A
open Go
set_option linter.unusedVariables false
set_option maxRecDepth 100000
set_option pp.maxSteps 1500

def joinP (a b : List Nat) : List Nat × Int := if rightB a = true ∧ rightB b = true then ofP (a ++ b) else ([], 1)
theorem rightB_len {l : List Nat} (h : rightB l = true) : l.length ≤ 6 := by
  unfold rightB at h
  rw [Bool.and_eq_true] at h
  exact of_decide_eq_true h.1
theorem of12_ok (tags : List Nat) (hn : tags.length ≤ 12) : ACalls Try.prog 10 [us tags] [] (Ret (.tup [us (ofP tags).1, i64 (ofP tags).2])) := of_gen tags (by omega) (sort12_ok tags hn)
theorem join_ok (a b : List Nat) (ha : a.length < 9223372036854775807) (hb : b.length < 9223372036854775807) : ACalls Try.prog 22 [us a, us b] [] (Ret (.tup [us (joinP a b).1, i64 (joinP a b).2])) := by
  have ca := right_ok a ha
  have cb := right_ok b hb
  have bad : ¬ (rightB a = true ∧ rightB b = true) → ACalls Try.prog 22 [us a, us b] [] (Ret (.tup [nilS, i64 1])) := fun h => by
    cases h1 : rightB a with
    | false =>
      rw [h1] at ca
      refine acalls_of_awp hT mixed Try.func22 rfl (by kernel_rfl) (by kernel_rfl) (Nat.le_of_ble_eq_true rfl) ?_
      refine callP ca rfl rfl ?_
      refine end0 rfl rfl rfl rfl
    | true =>
      have h2 : rightB b = false := by cases h2 : rightB b with
        | false => rfl
        | true => exact absurd ⟨h1, h2⟩ h
      rw [h1] at ca
      rw [h2] at cb
      refine acalls_of_awp hT mixed Try.func22 rfl (by kernel_rfl) (by kernel_rfl) (Nat.le_of_ble_eq_true rfl) ?_
      refine callP ca rfl rfl ?_
      refine callP cb rfl rfl ?_
      refine end0 rfl rfl rfl rfl
  by_cases h : rightB a = true ∧ rightB b = true
  · have hp : joinP a b = ofP (a ++ b) := by unfold joinP; rw [if_pos h]
    rw [hp]
    have la := rightB_len h.1
    have lb := rightB_len h.2
    have hfl : [a, b].flatten = a ++ b := by simp
    have hc := concat_ok [a, b] (by rw [hfl, List.length_append]; omega) (show 2 ≤ 1000 by omega)
    have ho := of12_ok (a ++ b) (by rw [List.length_append]; omega)
    rw [hfl] at hc
    rw [h.1] at ca
    rw [h.2] at cb
    generalize ofP (a ++ b) = q at *
    obtain ⟨q1, q2⟩ := q
    refine acalls_of_awp hT mixed Try.func22 rfl (by kernel_rfl) (by kernel_rfl) (Nat.le_of_ble_eq_true rfl) ?_
    refine callP ca rfl rfl ?_
    refine callP cb rfl rfl ?_
    refine callCut (H := [.row [us a, us b]]) (bs := [vws [a, b]]) 0 rfl ?_
    refine callS hc [] True.intro rfl ?_
    rintro E G (⟨h0, rfl, rfl⟩ | ⟨R, m, hm, hR, rfl, rfl⟩) _
    · rw [h0] at ho
      refine ⟨_, _, rfl, rfl, ?_⟩
      refine callS (nilArg ho) [] True.intro rfl ?_
      rintro E G ⟨rfl, rfl⟩ _
      refine ⟨_, _, rfl, rfl, ?_⟩
      exact ⟨rfl, [], .tup [us q1, i64 q2], ⟨⟨_, rfl, rfl⟩, True.intro, Nat.zero_le _, rfl⟩, rfl, rfl⟩
    · refine ⟨_, [.dead, .row (R.map u64n)], rfl, by rw [renH_us]; rfl, ?_⟩
      have hfz : frz [.dead, .row (R.map u64n)] 0 8 (.slc 1 0 m 1) = some (us (a ++ b)) := by rw [← hR]; exact frz_usT (k := 6) rfl hm rfl
      have hfm : mapO (frz [.dead, .row (R.map u64n)] 0 8) [.slc 1 0 m 1] = some [us (a ++ b)] := by simp only [mapO, hfz]
      refine callCut (H := [.dead, .row (R.map u64n)]) (bs := [us (a ++ b)]) 0 hfm ?_
      refine callS ho [] True.intro rfl ?_
      rintro E G ⟨rfl, rfl⟩ _
      refine ⟨_, _, rfl, rfl, ?_⟩
      exact ⟨rfl, [], .tup [us q1, i64 q2], ⟨⟨_, rfl, rfl⟩, True.intro, Nat.zero_le _, rfl⟩, rfl, rfl⟩
  · have hp : joinP a b = ([], 1) := by unfold joinP; rw [if_neg h]
    rw [hp]
    refine (bad h).weakR ?_
    rintro E G ⟨rfl, rfl⟩
    exact ⟨_, ⟨rfl, rfl⟩, EndR_nilT _⟩
end Go.Proofs.Ytmfifbclldnpkaa.A

namespace Go.Proofs.Ytmfifbclldnpkaa.A
open Go
set_option linter.unusedVariables false
set_option maxRecDepth 100000
set_option pp.maxSteps 1500

end Go.Proofs.Ytmfifbclldnpkaa.A

namespace Go.Proofs.Ytmfifbclldnpkaa.A
open Go
set_option linter.unusedVariables false
set_option maxRecDepth 100000
set_option pp.maxSteps 1500

def packN (l : List Nat) : List Nat := l.length :: l.flatMap be8
def packB (l : List Nat) : ByteArray := BA (packN l)
def pkN (l : List Nat) (k : Nat) : List Nat := l.length :: (l.take k).flatMap be8
theorem pkN_succ {l : List Nat} {k x : Nat} (h : l[k]? = some x) : pkN l (k + 1) = pkN l k ++ be8 x := by
  unfold pkN
  rw [take_snocA h, List.flatMap_append, List.cons_append]
  simp
theorem pkN_len (l : List Nat) (k : Nat) (hk : k ≤ l.length) : (pkN l k).length = 1 + 8 * k := by
  have h : ∀ m : List Nat, (m.flatMap be8).length = 8 * m.length := fun m => by
    induction m with
    | nil => rfl
    | cons x m ih => rw [List.flatMap_cons, List.length_append, ih, List.length_cons]; show (beN x 8).length + _ = _; rw [beN_len]; omega
  unfold pkN
  rw [List.length_cons, h, List.length_take]
  omega
/-- The first j bytes of a number. -/
def beF (t j : Nat) : List Nat := (be8 t).take j
theorem be8_at (t j : Nat) (h : j < 8) : (be8 t)[j]? = some (t / 256 ^ (7 - j) % 256) := by
  have key : ∀ n j, j < n → (beN t n)[j]? = some (t / 256 ^ (n - 1 - j) % 256) := by
    intro n
    induction n with
    | zero => intro j h; omega
    | succ n ih =>
      intro j h
      cases j with
      | zero => rfl
      | succ j =>
        show (beN t n)[j]? = _
        rw [ih j (by omega), show n + 1 - 1 - (j + 1) = n - 1 - j by omega]
  exact key 8 j h
theorem beF_succ (t j : Nat) (h : j < 8) : beF t (j + 1) = beF t j ++ [t / 256 ^ (7 - j) % 256] := take_snocA (be8_at t j h)
theorem beF_len (t j : Nat) (h : j ≤ 8) : (beF t j).length = j := by
  unfold beF
  rw [List.length_take]
  show min j (beN t 8).length = j
  rw [beN_len]
  omega
theorem shr_byte (t j : Nat) (h : j < 8) : wrp .u8 (hd ((t : Int).fdiv (2 ^ min (wrp .i64 (8 * wrp .i64 (7 - (j : Int)))).toNat IntKind.u64.bits))) = ((t / 256 ^ (7 - j) % 256 : Nat) : Int) := by
  have e1 : wrp .i64 (7 - (j : Int)) = ((7 - j : Nat) : Int) := by rw [wrpE, wi64]; omega
  have e2 : wrp .i64 (8 * ((7 - j : Nat) : Int)) = ((8 * (7 - j) : Nat) : Int) := by rw [wrpE, wi64]; omega
  rw [e1, e2, hd_eq, Int.toNat_natCast]
  have e3 : min (8 * (7 - j)) IntKind.u64.bits = 8 * (7 - j) := Nat.min_eq_left (show 8 * (7 - j) ≤ 64 by omega)
  have e4 : (2 : Int) ^ (8 * (7 - j)) = ((256 ^ (7 - j) : Nat) : Int) := by
    rw [Int.pow_mul, Int.natCast_pow]
    rfl
  rw [e3, e4, Int.fdiv_eq_ediv_of_nonneg _ (Int.natCast_nonneg _), ← Int.natCast_ediv]
  exact byteW _
structure PkIn (l : List Nat) (k x : Nat) where
  j : Nat
  R : List Nat
  hj : j ≤ 8
  hR : R = pkN l k ++ beF x j
structure PkOut (l : List Nat) where
  k : Nat
  R : List Nat
  hk : k ≤ l.length
  hR : R = pkN l k
def packP (l : List Nat) : ByteArray × Int := if rightB l = true then (packB l, 0) else (emp, 1)
theorem lpack_ok (l : List Nat) (hn : l.length < 9223372036854775807) : ACalls Try.prog 17 [us l] [] (Ret (.tup [str (packP l).1, i64 (packP l).2])) := by
  have hc := right_ok l hn
  cases hr : rightB l with
  | false =>
    have hp : packP l = (emp, 1) := by unfold packP; rw [hr]; rfl
    rw [hp]
    rw [hr] at hc
    refine acalls_of_awp hT mixed Try.func17 rfl (by kernel_rfl) (by kernel_rfl) (Nat.le_of_ble_eq_true rfl) ?_
    refine callP hc rfl rfl ?_
    refine end0 rfl rfl rfl rfl
  | true =>
    have hp : packP l = (packB l, 0) := by unfold packP; rw [if_pos hr]
    rw [hp]
    rw [hr] at hc
    have h6 := rightB_len hr
    refine acalls_of_awp hT mixed Try.func17 rfl (by kernel_rfl) (by kernel_rfl) (Nat.le_of_ble_eq_true rfl) ?_
    refine callP hc rfl rfl ?_
    have hw : wrp .u8 (l.length : Int) = ((l.length : Nat) : Int) := by rw [wrpE, wu8]; omega
    refine loopI (α := PkOut l) (fun z => [(4, .slc 0 0 z.R.length 1), (15, us l), (16, i64 l.length), (17, i64 (z.k : Nat))]) (fun z => [.row (z.R.map u8n)]) (fun z => l.length - z.k) ⟨0, [l.length], Nat.zero_le _, rfl⟩ [0]
      ⟨⟨rfl, rfl, rfl, rfl, True.intro⟩, ⟨.inl (by show some (AObj.row [.sc (.int .u8 (wrp .u8 (l.length : Int)))]) = some (renO _ (.row ([l.length].map u8n))); rw [renO_u8, hw]; rfl), True.intro⟩, rfl, rfl, rfl⟩ ?_
    rintro ⟨k, R, hk, hR⟩ K hK
    have hinc : wrp .i64 ((k : Int) + 1) = ((k + 1 : Nat) : Int) := by rw [wrpE, wi64]; omega
    have hRl : R.length = 1 + 8 * k := by rw [hR, pkN_len l k hk]
    refine forkD (fun h => ?_) (fun h => ?_)
    · have h' : k < l.length := by have : (k : Int) < (l.length : Int) := h; omega
      obtain ⟨x, hx⟩ : ∃ x, l[k]? = some x := ⟨_, List.getElem?_eq_getElem h'⟩
      refine Ob.intro (show (0 : Int) ≤ (k : Nat) ∧ ((k : Nat) : Int) < (l.length : Nat) by omega) ?_
      refine optK_intro (nth_map hx) ?_
      refine loopI (α := PkIn l k x) (fun z => [(4, .slc 0 0 z.R.length 1), (6, u64n x), (15, us l), (16, i64 l.length), (17, i64 (k : Nat)), (21, i64 (z.j : Nat))]) (fun z => [.row (z.R.map u8n)]) (fun z => 8 - z.j) ⟨0, R, Nat.zero_le _, by rw [hR]; simp [beF]⟩ [0]
        ⟨⟨rfl, rfl, rfl, rfl, rfl, rfl, True.intro⟩, ⟨.inl (by rw [renO_u8]; rfl), True.intro⟩, rfl, rfl, rfl⟩ ?_
      rintro ⟨j, R2, hj, hR2⟩ K2 hK2
      have hincj : wrp .i64 ((j : Int) + 1) = ((j + 1 : Nat) : Int) := by rw [wrpE, wi64]; omega
      have hRl2 : R2.length = 1 + 8 * k + j := by rw [hR2, List.length_append, pkN_len l k hk, beF_len x j hj]
      refine forkD (fun h => ?_) (fun h => ?_)
      · have h2 : j < 8 := by have : (j : Int) < 8 := h; omega
        refine Ob.intro (show (0 : Int) ≤ wrp .i64 (8 * wrp .i64 (7 - (j : Int))) by rw [wrpE, wrpE, wi64, wi64]; omega) ?_
        refine Ob.intro rfl ?_
        refine optK_intro (rdN_all (cs := R2.map u8n) rfl (by rw [List.length_map, Nat.mul_one])) ?_
        refine Ob.intro (show (R2.length + 1) * 1 ≤ 140737488355328 ∧ R2.length + 1 ≤ 9223372036854775807 by omega) ?_
        refine hK2 ⟨j + 1, R2 ++ [x / 256 ^ (7 - j) % 256], h2, by rw [hR2, beF_succ x j h2, List.append_assoc]⟩ [2] _ (show 8 - j = 8 - (j + 1) + 1 by omega) ⟨⟨slcE rfl (by rw [List.length_append]; rfl), rfl, rfl, rfl, rfl, congrArg i64 hincj, True.intro⟩, ⟨.inl ?_, True.intro⟩, rfl, rfl, rfl⟩
        show some (AObj.row (R2.map u8n ++ [.sc (.int .u8 (wrp .u8 (hd ((x : Int).fdiv (2 ^ min (wrp .i64 (8 * wrp .i64 (7 - (j : Int)))).toNat IntKind.u64.bits)))))])) = some (renO _ (.row ((R2 ++ [x / 256 ^ (7 - j) % 256]).map u8n)))
        rw [renO_u8, shr_byte x j h2, List.map_append]
        rfl
      · have h2 : j = 8 := by have : ¬ (j : Int) < 8 := h; omega
        refine hK ⟨k + 1, R2, h', by rw [hR2, h2, pkN_succ hx]; rfl⟩ [0] _ (show l.length - k = l.length - (k + 1) + 1 by omega) ⟨⟨rfl, rfl, rfl, congrArg i64 hinc, True.intro⟩, ⟨.inl (by rw [renO_u8]; rfl), True.intro⟩, rfl, rfl, rfl⟩
    · have h' : k = l.length := by have : ¬ (k : Int) < (l.length : Int) := h; omega
      have hRp : R = packN l := by rw [hR, h']; unfold pkN packN; rw [List.take_length]
      refine optK_intro (a := R.map u8n) (src_all rfl (by rw [List.length_map])) ?_
      refine optK_intro (a := R.map UInt8.ofNat) (textA_u8 R) ?_
      refine end0 rfl rfl rfl ?_
      show AV.tup [str (BA R), i64 0] = _
      rw [hRp]
      rfl
theorem packB_size {l : List Nat} : (packB l).size = 1 + 8 * l.length := by
  unfold packB
  rw [BA_size]
  have := pkN_len l l.length (Nat.le_refl _)
  unfold pkN at this
  rw [List.take_length] at this
  exact this
end Go.Proofs.Ytmfifbclldnpkaa.A

namespace Go.Proofs.Ytmfifbclldnpkaa.A
open Go
set_option linter.unusedVariables false
set_option maxRecDepth 100000
set_option pp.maxSteps 1500

end Go.Proofs.Ytmfifbclldnpkaa.A

namespace Go.Proofs.Ytmfifbclldnpkaa.A
open Go
set_option linter.unusedVariables false
set_option maxRecDepth 100000
set_option pp.maxSteps 1500

theorem awakeL_raw (p : ByteArray) (hp : p.size = 25) (cj : ACalls Try.prog 22 [us [1, 3], us [2, 3]] [] (Ret (.tup [us [1, 2, 3], i64 0]))) (cp : ACalls Try.prog 17 [us [1, 2, 3]] [] (Ret (.tup [str p, i64 0]))) : ACalls Try.prog 8 [] [] (Ret (bo true)) := by
  refine acalls_of_awp hT mixed Try.func8 rfl (by kernel_rfl) (by kernel_rfl) (Nat.le_of_ble_eq_true rfl) ?_
  refine callCut (H := [.row [u64n 1, u64n 3], .row [u64n 2, u64n 3]]) (bs := [us [1, 3], us [2, 3]]) 0 rfl ?_
  refine callS cj [] True.intro rfl ?_
  rintro E G ⟨rfl, rfl⟩ _
  refine ⟨_, _, rfl, rfl, ?_⟩
  refine callP cp rfl rfl ?_
  refine fork (fun h => ?_) (fun h => ?_)
  · exact ⟨rfl, [], bo true, ⟨⟨_, rfl, rfl⟩, True.intro, Nat.le_refl _, rfl⟩, rfl, rfl⟩
  · exfalso
    have : (p.size : Int) ≠ 25 := beq_eq_false_iff_ne.1 h
    omega
theorem awakeL_ok : ACalls Try.prog 8 [] [] (Ret (bo true)) :=
  awakeL_raw (packB [1, 2, 3]) packB_size (join_ok [1, 3] [2, 3] (by decide) (by decide)) (lpack_ok [1, 2, 3] (by decide))
theorem farL_nil (a : List Nat) : ACalls Try.prog 9 [us a, nilS] [] (Ret (bo (decide (60 < a.length)))) := by
  refine acalls_of_awp hT mixed Try.func9 rfl (by kernel_rfl) (by kernel_rfl) (Nat.le_of_ble_eq_true rfl) ?_
  refine forkD (fun h => ?_) (fun h => ?_)
  · have h' : 60 < a.length := by have : (a.length : Int) > 60 := h; omega
    refine end0 rfl rfl rfl (congrArg bo (decide_eq_true h').symm)
  · have h' : ¬ 60 < a.length := by have : ¬ (a.length : Int) > 60 := h; omega
    refine end0 rfl rfl rfl (congrArg bo (decide_eq_false h').symm)
/-! ### Packs -/
theorem size_append (a b : ByteArray) : (a ++ b).size = a.size + b.size := by
  rw [← listB, appendB, List.length_append, listB, listB]
end Go.Proofs.Ytmfifbclldnpkaa.A
