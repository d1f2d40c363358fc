/- label: the document's Right, the orders, who is in whom. No condition. -/
import Derived.Test.YthebddjpnkimjaaLa
namespace Go.Proofs.Ythebddjpnkimjaa.A
open Go
set_option linter.unusedVariables false
set_option maxRecDepth 100000
set_option pp.maxSteps 1500

def prevL (l : List Nat) : Nat → Nat
  | 0 => 0
  | j + 1 => l.getD j 0
theorem rright_ok (l : List Nat) (hn : l.length ≤ 9223372036854775807) : ACalls Try.prog 54 [us l] [] (Ret (bo (rightB l))) := by
  refine acalls_of_awp hT mixed Try.func54 rfl (by kernel_rfl) (by kernel_rfl) (Nat.le_of_ble_eq_true rfl) ?_
  refine loopI (α := { k : Nat // k ≤ l.length ∧ risB (prevL l k) (l.drop k) = risB 0 l }) (fun z => [(0, us l), (3, i64 (z.val : Nat))]) (fun _ => []) (fun z => l.length - z.val) ⟨0, Nat.zero_le _, rfl⟩ [] ⟨⟨rfl, rfl, True.intro⟩, True.intro, rfl, rfl, rfl⟩ ?_
  rintro ⟨k, hk, hp⟩ K hK
  refine forkD (fun h => ?_) (fun h => ?_)
  · have h' : k < l.length := by have : (k : Int) < (l.length : Int) := h; omega
    have hinc : wrp .i64 ((k : Int) + 1) = ((k + 1 : Nat) : Int) := by rw [wrpE, wi64]; omega
    obtain ⟨y, hy⟩ : ∃ y, l[k]? = some y := ⟨_, List.getElem?_eq_getElem h'⟩
    rw [risB_drop hy] at hp
    have hb := (show (0 : Int) ≤ (k : Nat) ∧ ((k : Nat) : Int) < (l.length : Nat) by omega)
    have hpv : prevL l (k + 1) = y := by show l.getD k 0 = y; rw [List.getD_eq_getElem?_getD, hy]; rfl
    have next : prevL l k < y → K ⟨frL [(0, us l), (3, i64 ((k + 1 : Nat) : Int))], [], []⟩ → True := fun _ _ => True.intro
    refine ⟨[0, 0, 0, 0, 0, 0, 0, 0, 0, 0, 0, 0, 0, 0, 0, 0, 0, 0, 0, 0, 0], [[], [], [0, 1], [0, 1, 2], [0, 1, 2, 3], [0, 1, 2, 3, 4], [0, 1, 2, 3, 4, 5], [0, 1, 2, 3, 4, 5, 6], [0, 1, 2, 3, 4, 5, 6, 7], [0, 1, 2, 3, 4, 5, 6, 7, 8], [0, 1, 2, 3, 4, 5, 6, 7, 8], [0, 1, 2, 3, 4, 5, 6, 7, 8, 10], [0, 1, 2, 3, 4, 5, 6, 7, 8, 9, 10, 11], [0, 1, 2, 3, 4, 5, 6, 7, 8, 9, 10, 11, 12], [0, 1, 2, 3, 4, 5, 6, 7, 8], [0, 1, 2, 3, 4, 5, 6, 7, 8], [0, 1, 2, 3, 4, 5, 6, 7, 8, 14, 15], [0, 1, 2, 3, 4, 5, 6, 7, 8, 14, 15, 16], [0, 1, 2, 3, 4, 5, 6, 7, 8, 9, 10, 11, 12, 13, 14, 15, 16, 17], [0, 1, 2, 3, 4, 5, 6, 7, 8, 9, 10, 11, 12, 13, 14, 15, 16, 17, 18], [0, 1, 2, 3, 4, 5, 6, 7, 8, 9, 10, 11, 12, 13, 14, 15, 16, 17, 18, 19]], [0, 0, 0, 0, 0, 0, 0, 0, 0, 0, 0, 0, 0, 0, 0, 0, 0, 0, 0, 0, 0], [], [[0], [3], [10, 11], [12], [13], [14], [3, 15], [16, 15], [17, 15], [0, 18], [3, 18], [20, 18], [19, 21, 18], [22, 18], [0, 18], [3, 18], [24, 25, 18], [26, 18], [23, 27, 18], [18, 28, 15], [15, 29]], Ob.intro (by kernel_rfl) ?_⟩
    refine Ob.intro hb ?_
    refine optK_intro (nth_map hy) ?_
    refine fork (fun g => ?_) (fun g => ?_)
    · have g' : ¬ prevL l k < y := by
        have : (y : Int) = 0 := beq_iff_eq.1 g
        omega
      rw [decide_eq_false g', Bool.false_and] at hp
      repeat first | refine same ?_ | refine optK_intro (nth_map hy) ?_
      refine end0 rfl rfl rfl (congrArg bo ?_)
      unfold rightB
      rw [← hp, Bool.and_false]
    have g' : y ≠ 0 := by
      have : (y : Int) ≠ 0 := beq_eq_false_iff_ne.1 g
      omega
    refine forkD (fun g2 => ?_) (fun g2 => ?_)
    · have g2' : 0 < k := by have : (k : Int) > 0 := g2; omega
      obtain ⟨j, rfl⟩ : ∃ j, k = j + 1 := ⟨k - 1, by omega⟩
      have hw : wrp .i64 (((j + 1 : Nat) : Int) - 1) = ((j : Nat) : Int) := by rw [wrpE, wi64]; omega
      obtain ⟨z, hz⟩ : ∃ z, l[j]? = some z := ⟨_, List.getElem?_eq_getElem (by omega)⟩
      have hz2 : l[(wrp .i64 (((j + 1 : Nat) : Int) - 1)).toNat]? = some z := by rw [hw, Int.toNat_natCast]; exact hz
      have hb2 : (0 : Int) ≤ wrp .i64 (((j + 1 : Nat) : Int) - 1) ∧ wrp .i64 (((j + 1 : Nat) : Int) - 1) < (l.length : Nat) := by rw [hw]; omega
      have hzp : prevL l (j + 1) = z := by show l.getD j 0 = z; rw [List.getD_eq_getElem?_getD, hz]; rfl
      rw [hzp] at hp
      refine Ob.intro hb2 ?_
      refine optK_intro (nth_mapI hz2) ?_
      refine Ob.intro hb ?_
      refine optK_intro (nth_map hy) ?_
      refine forkD (fun g3 => ?_) (fun g3 => ?_)
      · have g3' : ¬ z < y := by have : (z : Int) ≥ (y : Int) := g3; omega
        rw [decide_eq_false g3', Bool.false_and] at hp
        refine optK_intro (nth_map hy) ?_
        refine same ?_
        refine optK_intro (nth_mapI hz2) ?_
        refine same ?_
        refine optK_intro (nth_map hy) ?_
        refine same ?_
        refine end0 rfl rfl rfl (congrArg bo ?_)
        unfold rightB
        rw [← hp, Bool.and_false]
      · have g3' : z < y := by have : ¬ (z : Int) ≥ (y : Int) := g3; omega
        rw [decide_eq_true g3', Bool.true_and] at hp
        refine optK_intro (nth_map hy) ?_
        refine same ?_
        refine optK_intro (nth_mapI hz2) ?_
        refine same ?_
        refine optK_intro (nth_map hy) ?_
        refine same ?_
        refine hK ⟨j + 1 + 1, h', by rw [hpv]; exact hp⟩ [] _ (show l.length - (j + 1) = l.length - (j + 1 + 1) + 1 by omega) ⟨⟨rfl, congrArg i64 hinc, True.intro⟩, True.intro, rfl, rfl, rfl⟩
    · have g2' : k = 0 := by have : ¬ (k : Int) > 0 := g2; omega
      subst g2'
      have g3' : prevL l 0 < y := by show 0 < y; omega
      rw [decide_eq_true g3', Bool.true_and] at hp
      repeat first | refine same ?_ | refine optK_intro (nth_map hy) ?_
      refine hK ⟨0 + 1, h', by rw [hpv]; exact hp⟩ [] _ (show l.length - 0 = l.length - (0 + 1) + 1 by omega) ⟨⟨rfl, congrArg i64 hinc, True.intro⟩, True.intro, rfl, rfl, rfl⟩
  · have h' : k = l.length := by have : ¬ (k : Int) < (l.length : Int) := h; omega
    rw [h', List.drop_length] at hp
    have hr : rightB l = decide (l.length ≤ 6) := by unfold rightB; rw [← hp]; exact Bool.and_true _
    refine forkD (fun g => ?_) (fun g => ?_)
    · have g' : l.length ≤ 6 := by have : (l.length : Int) ≤ 6 := g; omega
      refine end0 rfl rfl rfl (congrArg bo (by rw [hr, decide_eq_true g']))
    · have g' : ¬ l.length ≤ 6 := by have : ¬ (l.length : Int) ≤ 6 := g; omega
      refine end0 rfl rfl rfl (congrArg bo (by rw [hr, decide_eq_false g']))
def ints (l : List Int) : AV := .view l.length (l.map i64)
def orI : List Int → Int
  | [] => 0
  | x :: l => if x = 0 then orI l else x
theorem orI_drop {l : List Int} {k : Nat} {x : Int} (hx : l[k]? = some x) : orI (l.drop k) = if x = 0 then orI (l.drop (k + 1)) else x := by
  obtain ⟨h1, rfl⟩ := List.getElem?_eq_some_iff.1 hx
  rw [List.drop_eq_getElem_cons h1, orI]
/-- Which of two lists stands ahead, as slices.Compare says. -/
def lexS : List Nat → List Nat → Int
  | x :: a, y :: b => if sgI x y = 0 then lexS a b else sgI x y
  | _ :: _, [] => 1
  | [], _ :: _ => -1
  | [], [] => 0
theorem lexS_drop {a b : List Nat} {k x y : Nat} (hx : a[k]? = some x) (hy : b[k]? = some y) : lexS (a.drop k) (b.drop k) = if sgI x y = 0 then lexS (a.drop (k + 1)) (b.drop (k + 1)) else sgI x y := by
  obtain ⟨h1, rfl⟩ := List.getElem?_eq_some_iff.1 hx
  obtain ⟨h2, rfl⟩ := List.getElem?_eq_some_iff.1 hy
  rw [List.drop_eq_getElem_cons h1, List.drop_eq_getElem_cons h2, lexS]
theorem lexS_lexI : ∀ {a b : List Nat}, a.length = b.length → lexS a b = lexI a b
  | [], [], _ => rfl
  | [], _ :: _, h => by simp at h
  | _ :: _, [], h => by simp at h
  | x :: a, y :: b, h => by
    unfold lexS lexI sgI
    rw [lexS_lexI (a := a) (b := b) (by simpa using h)]
    by_cases h1 : x < y
    · rw [if_pos (show (x : Int) < y by omega), if_pos h1]
      rfl
    · rw [if_neg (show ¬ (x : Int) < y by omega), if_neg h1]
      by_cases h2 : y < x
      · rw [if_pos (show (y : Int) < x by omega), if_pos h2]
        rfl
      · rw [if_neg (show ¬ (y : Int) < x by omega), if_neg h2]
        rfl
theorem cmpL_or (a b : List Nat) : orI [sgI a.length b.length, lexS a b] = cmpL a b := by
  unfold orI cmpL sgI
  by_cases h1 : a.length < b.length
  · rw [if_pos (show (a.length : Int) < b.length by omega), if_pos h1]
    rfl
  · rw [if_neg (show ¬ (a.length : Int) < b.length by omega), if_neg h1]
    by_cases h2 : b.length < a.length
    · rw [if_pos (show (b.length : Int) < a.length by omega), if_pos h2]
      rfl
    · rw [if_neg (show ¬ (b.length : Int) < a.length by omega), if_neg h2, if_pos rfl, lexS_lexI (by omega)]
      unfold orI
      by_cases h3 : lexI a b = 0
      · rw [if_pos h3, h3]
        rfl
      · rw [if_neg h3]
end Go.Proofs.Ythebddjpnkimjaa.A
