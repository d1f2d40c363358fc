/- Lists of tags: looked up, compared, made of bits and of rights. No condition. -/
import Derived.Test.YtofinmlloefocaaCp
namespace Go.Proofs.Ytofinmlloefocaa.A
open Go
set_option linter.unusedVariables false
set_option maxRecDepth 100000
set_option pp.maxSteps 1500

theorem has2_ok (l : List Nat) (x : Nat) (hn : l.length < 9223372036854775807) : ACalls Try.prog 41 [us l, u64 x] [] (Ret (bo (decide (x ∈ l)))) := by
  refine acalls_of_awp hT mixed Try.func41 rfl (by kernel_rfl) (by kernel_rfl) (Nat.le_of_ble_eq_true rfl) ?_
  refine loopI (α := { k : Nat // k ≤ l.length ∧ x ∉ l.take k }) (fun k => [(0, us l), (1, u64 x), (5, i64 (k.val : Nat))]) (fun _ => []) (fun k => l.length - k.val) ⟨0, Nat.zero_le _, by simp⟩ [] ⟨⟨rfl, rfl, rfl, True.intro⟩, True.intro, rfl, rfl, rfl⟩ ?_
  intro z K hK
  obtain ⟨k, hk, hx⟩ := z
  have hinc : wrp .i64 ((k : Int) + 1) = ((k + 1 : Nat) : Int) := by rw [wrpE, wi64]; omega
  refine forkD (fun h => ?_) (fun h => ?_)
  · have h' : k < l.length := by have : (k : Int) < (l.length : Int) := h; omega
    obtain ⟨y, hy⟩ : ∃ y, l[k]? = some y := ⟨_, List.getElem?_eq_getElem h'⟩
    refine Ob.intro (show (0 : Int) ≤ (k : Nat) ∧ ((k : Nat) : Int) < (l.length : Nat) by omega) ?_
    refine optK_intro (nth_map hy) ?_
    refine fork (fun g => ?_) (fun g => ?_)
    · have hxy : y = x := by
        have := beq_iff_eq.1 g
        omega
      refine end0 rfl rfl rfl (congrArg bo (decide_eq_true ?_).symm)
      rw [← hxy]
      exact List.mem_of_getElem? hy
    · have hxy : ¬ y = x := by
        have := beq_eq_false_iff_ne.1 g
        omega
      refine hK ⟨k + 1, h', ?_⟩ [] _ (show l.length - k = l.length - (k + 1) + 1 by omega) ⟨⟨rfl, rfl, congrArg i64 hinc, True.intro⟩, True.intro, rfl, rfl, rfl⟩
      rw [take_snoc hy]
      simp only [List.mem_append, List.mem_singleton]
      exact fun hh => hh.elim hx (fun e => hxy e.symm)
  · have h' : k = l.length := by have : ¬ (k : Int) < (l.length : Int) := h; omega
    rw [h', List.take_length] at hx
    refine end0 rfl rfl rfl (congrArg bo (decide_eq_false hx).symm)
theorem compSelf_ok (l : List Nat) (hn : l.length < 9223372036854775807) : ACalls Try.prog 42 [us l, us l] [] (Ret (i64 0)) := by
  refine acalls_of_awp hT mixed Try.func42 rfl (by kernel_rfl) (by kernel_rfl) (Nat.le_of_ble_eq_true rfl) ?_
  refine forkD (fun h => absurd h (Int.lt_irrefl _)) (fun h => ?_)
  refine forkD (fun h => absurd h (Int.lt_irrefl _)) (fun h => ?_)
  refine loopI (α := { k : Nat // k ≤ l.length }) (fun k => [(0, us l), (1, us l), (5, i64 (k.val : Nat))]) (fun _ => []) (fun k => l.length - k.val) ⟨0, Nat.zero_le _⟩ [] ⟨⟨rfl, rfl, rfl, True.intro⟩, True.intro, rfl, rfl, rfl⟩ ?_
  rintro ⟨k, hk⟩ K hK
  have hinc : wrp .i64 ((k : Int) + 1) = ((k + 1 : Nat) : Int) := by rw [wrpE, wi64]; omega
  refine forkD (fun h => ?_) (fun h => end0 rfl rfl rfl rfl)
  have h' : k < l.length := by have : (k : Int) < (l.length : Int) := h; omega
  obtain ⟨y, hy⟩ : ∃ y, l[k]? = some y := ⟨_, List.getElem?_eq_getElem h'⟩
  have hb := (show (0 : Int) ≤ (k : Nat) ∧ ((k : Nat) : Int) < (l.length : Nat) by omega)
  refine ⟨[0, 0, 0, 0, 0, 0, 0, 0, 0], [[], [], [0, 1], [0, 1, 2], [], [], [4, 5], [4, 5, 6], [0, 1, 2, 3, 4, 5, 6, 7]], [0, 0, 0, 0, 0, 0, 0, 0, 0], [], [[0], [5], [22, 23], [24], [1], [5], [26, 27], [28], [25, 29]], Ob.intro (by kernel_rfl) ?_⟩
  refine Ob.intro hb ?_
  refine optK_intro (nth_map hy) ?_
  refine Ob.intro hb ?_
  refine optK_intro (nth_map hy) ?_
  refine forkD (fun h => absurd h (Int.lt_irrefl _)) (fun h => ?_)
  refine optK_intro (nth_map hy) ?_
  refine same ?_
  refine optK_intro (nth_map hy) ?_
  refine same ?_
  refine ⟨[0, 0, 0, 0, 0, 0, 0, 0, 0], [[], [], [0, 1], [0, 1, 2], [], [], [4, 5], [4, 5, 6], [0, 1, 2, 3, 4, 5, 6, 7]], [0, 0, 0, 0, 0, 0, 0, 0, 0], [], [[0], [5], [31, 32], [33], [1], [5], [35, 36], [37], [34, 38]], Ob.intro (by kernel_rfl) ?_⟩
  refine Ob.intro hb ?_
  refine optK_intro (nth_map hy) ?_
  refine Ob.intro hb ?_
  refine optK_intro (nth_map hy) ?_
  refine forkD (fun h => absurd h (Int.lt_irrefl _)) (fun h => ?_)
  refine optK_intro (nth_map hy) ?_
  refine same ?_
  refine optK_intro (nth_map hy) ?_
  refine same ?_
  refine hK ⟨k + 1, h'⟩ [] _ (show l.length - k = l.length - (k + 1) + 1 by omega) ⟨⟨rfl, rfl, congrArg i64 hinc, True.intro⟩, True.intro, rfl, rfl, rfl⟩
theorem sameSelf_ok (l : List Nat) (hn : l.length < 9223372036854775807) : ACalls Try.prog 35 [us l, us l] [] (Ret (bo true)) := by
  refine acalls_of_awp hT mixed Try.func35 rfl (by kernel_rfl) (by kernel_rfl) (Nat.le_of_ble_eq_true rfl) ?_
  refine callP (compSelf_ok l hn) rfl rfl ?_
  refine end0 rfl rfl rfl rfl
/-- The tags of a set, as far as they were looked at. -/
def upto (p : Nat → Bool) (k : Nat) : List Nat := (List.range' 1 k).filter p
theorem upto_succ (p : Nat → Bool) (k : Nat) : upto p (k + 1) = if p (k + 1) = true then upto p k ++ [k + 1] else upto p k := by
  unfold upto
  rw [List.range'_concat, List.filter_append, show 1 + 1 * k = k + 1 by omega]
  split
  · rename_i h
    simp [h]
  · rename_i h
    simp [h]
theorem upto_len (p : Nat → Bool) (k : Nat) : (upto p k).length ≤ k := by
  unfold upto
  refine Nat.le_trans (List.length_filter_le ..) ?_
  rw [List.length_range']
  exact Nat.le_refl _
theorem frz_us3 {H : Heap} {i n m k : Nat} {l : List Nat} (h : nth H i = some (.row (l.map u64n))) (hn : n = l.length) (hm : Nat.blt i m = false) : frz H m (k + 2) (.slc i 0 n 1) = some (us l) := by
  subst hn
  have h1 : rdN H i 0 (l.length * 1) = some (l.map u64n) := rdN_all h (by rw [List.length_map]; omega)
  have h2 : mapO (frz0 H m (k + 1)) (l.map u64n) = some (l.map u64n) := mapO_map (f := frz0 H m (k + 1)) (g := u64n) (h := u64n) (fun _ => rfl) l
  simp only [frz, frz0, hm, cond_false, h1, h2]
  rfl
theorem list_ok (s : Nat) (hs : s < 18446744073709551616) : ACalls Try.prog 37 [u64 s] [] (Ret (us (listS s))) := by
  refine acalls_of_awp hT mixed Try.func37 rfl (by kernel_rfl) (by kernel_rfl) (Nat.le_of_ble_eq_true rfl) ?_
  refine loopG (α := { x : Nat × List Nat // x.1 ≤ 16 ∧ x.2 = upto (fun x => hasS s x) x.1 }) (fun x => [(0, u64 s), (3, .slc 0 0 x.val.2.length 1), (4, u64 (x.val.1 + 1 : Nat))]) (fun x => [.row (x.val.2.map u64n)]) [] (fun x => 16 - x.val.1) ⟨(0, []), Nat.zero_le _, rfl⟩ [.at_ 3 1] [0] ⟨⟨rfl, rfl, rfl, True.intro⟩, ⟨.inl rfl, True.intro⟩, rfl, rfl, rfl⟩ ?_
  rintro ⟨⟨k, l⟩, hk, hl⟩ K hK
  replace hk : k ≤ 16 := hk
  replace hl : l = upto (fun x => hasS s x) k := hl
  have hlen : l.length ≤ k := by rw [hl]; exact upto_len _ _
  have hinc : wrp .u64 (((k + 1 : Nat) : Int) + 1) = ((k + 1 + 1 : Nat) : Int) := by rw [wrpE, wu64]; omega
  have hsucc := upto_succ (fun x => hasS s x) k
  refine forkD (fun h => ?_) (fun h => ?_)
  · have h' : k < 16 := by have : ((k + 1 : Nat) : Int) ≤ 16 := h; omega
    refine callP (hasS_ok s (k + 1) hs (by omega)) rfl rfl ?_
    refine fork (fun g => ?_) (fun g => ?_)
    · refine Ob.intro rfl ?_
      refine optK_intro (rdN_all rfl (show l.length * 1 = (l.map u64n).length by rw [List.length_map]; omega)) ?_
      refine Ob.intro (show (l.length + 1) * 8 ≤ 140737488355328 ∧ l.length + 1 ≤ 9223372036854775807 by omega) ?_
      rw [if_pos g, ← hl] at hsucc
      refine hK ⟨(k + 1, l ++ [k + 1]), h', hsucc.symm⟩ [] [2] _ (show 16 - k = 16 - (k + 1) + 1 by omega) ⟨⟨rfl, ?_, congrArg u64 hinc, True.intro⟩, ⟨.inl ?_, True.intro⟩, rfl, rfl, rfl⟩
      · show AV.slc 2 0 (l.length + 1) 1 = AV.slc 2 0 (l ++ [k + 1]).length 1
        rw [List.length_append]
        rfl
      · rw [renO_us, List.map_append]
        rfl
    · rw [if_neg (by rw [g]; decide), ← hl] at hsucc
      refine hK ⟨(k + 1, l), h', hsucc.symm⟩ [] [0] _ (show 16 - k = 16 - (k + 1) + 1 by omega) ⟨⟨rfl, rfl, congrArg u64 hinc, True.intro⟩, ⟨.inl ?_, True.intro⟩, rfl, rfl, rfl⟩
      rw [renO_us]
      rfl
  · have h' : k = 16 := by have : ¬ ((k + 1 : Nat) : Int) ≤ 16 := h; omega
    rw [h'] at hl
    refine end0 rfl rfl (frz_us3 rfl rfl rfl) (congrArg us hl)
end Go.Proofs.Ytofinmlloefocaa.A
