/- each once: Compact. No condition. -/
import Derived.Test.YtmfifbclldnpkaaLe
namespace Go.Proofs.Ytmfifbclldnpkaa.A
open Go
set_option linter.unusedVariables false
set_option maxRecDepth 100000
set_option pp.maxSteps 1500

/-- The first n, each once where it stands beside itself. -/
def ddN (R : List Nat) : Nat → List Nat
  | 0 => []
  | n + 1 => if n = 0 ∨ atN R n ≠ atN R (n - 1) then ddN R n ++ [atN R n] else ddN R n
theorem ddN_new {R : List Nat} {n : Nat} (h : n = 0 ∨ atN R n ≠ atN R (n - 1)) : ddN R (n + 1) = ddN R n ++ [atN R n] := by
  show (if _ then _ else _) = _
  rw [if_pos h]
theorem ddN_old {R : List Nat} {n : Nat} (h0 : 0 < n) (h : atN R n = atN R (n - 1)) : ddN R (n + 1) = ddN R n := by
  show (if _ then _ else _) = _
  rw [if_neg (fun hh => hh.elim (by omega) (fun k => k h))]
theorem take_at {R : List Nat} {k : Nat} (h : k < R.length) : R.take (k + 1) = R.take k ++ [atN R k] := take_snocA (atN_some h)
theorem setAll_us (R Z : List Nat) (off : Nat) (h : off + Z.length ≤ R.length) : setAll (R.map u64n) off (Z.map u64n) = (R.take off ++ Z ++ R.drop (off + Z.length)).map u64n := by
  apply List.ext_getElem?
  intro k
  rw [setAll_get _ _ _ _ (by rw [List.length_map, List.length_map]; exact h), List.getElem?_map, List.getElem?_map, List.getElem?_map, List.length_map]
  have ht : (R.take off).length = off := by rw [List.length_take]; omega
  by_cases h1 : k < off
  · rw [if_neg (by omega), List.append_assoc, List.getElem?_append_left (by omega), List.getElem?_take_of_lt h1]
  · by_cases h2 : k < off + Z.length
    · rw [if_pos (by omega), List.append_assoc, List.getElem?_append_right (by omega), ht, List.getElem?_append_left (by omega)]
    · rw [if_neg (by omega), List.getElem?_append_right (by rw [List.length_append, ht]; omega), List.length_append, ht, List.getElem?_drop, show off + Z.length + (k - (off + Z.length)) = k by omega]
theorem wr_zeros {K : Heap → Prop} {H : Heap} {p off k n m : Nat} {R : List Nat} (h : nth H p = some (.row (R.map u64n))) (hk : off = k) (hm : n = m) (hl : k + m ≤ R.length) (q : K (H.set p (.row ((R.take k ++ List.replicate m 0 ++ R.drop (k + m)).map u64n)))) : optK (wr H p off (zerosA ti23.zero n)) K := by
  subst hk hm
  rw [zerosU]
  refine optK_intro (wr_eq h (by rw [List.length_map, List.length_map, List.length_replicate]; exact hl)) ?_
  rw [setAll_us _ _ _ (by rw [List.length_replicate]; exact hl), List.length_replicate]
  exact q
structure CpSt (R0 : List Nat) (k : Nat) where
  t : Nat
  i : Nat
  R : List Nat
  ht : 1 ≤ t
  ht2 : t ≤ R0.length - k
  hi : i ≤ k + t - 1
  len : R.length = R0.length
  old : ∀ p, k + t - 1 ≤ p → atN R p = atN R0 p
  hR : R.take i = ddN R0 (k + t)
theorem compact_ok (R0 : List Nat) (hn : R0.length ≤ 1000) : ACalls Try.prog 30 [.slc 0 0 R0.length 1] [.row (R0.map u64n)] (fun E G => ∃ (R : List Nat) (m : Nat), m ≤ R.length ∧ R.take m = ddN R0 R0.length ∧ E = .ret (.slc 0 0 m 1) ∧ G = [.row (R.map u64n)]) := by
  refine acalls_of_awp hT mixed Try.func30 rfl (by kernel_rfl) (by kernel_rfl) (Nat.le_of_ble_eq_true rfl) ?_
  refine forkD (fun h => ?_) (fun h => ?_)
  · have h' : R0.length < 2 := by have : (R0.length : Int) < 2 := h; omega
    refine ⟨rfl, [.row (R0.map u64n)], .slc 0 0 R0.length 1, ⟨⟨_, rfl, rfl⟩, ⟨.inl rfl, True.intro⟩, Nat.le_refl _, belowH_us R0⟩, R0, R0.length, Nat.le_refl _, ?_, rfl, rfl⟩
    match R0, h' with
    | [], _ => rfl
    | [x], _ => rfl
    | _ :: _ :: _, h => simp at h; omega
  have h0 : 2 ≤ R0.length := by have : ¬ (R0.length : Int) < 2 := h; omega
  refine loopI (α := { k : Nat // 1 ≤ k ∧ k ≤ R0.length ∧ R0.take k = ddN R0 k }) (fun z => [(0, .slc 0 0 R0.length 1), (3, i64 (z.val : Nat))]) (fun _ => [.row (R0.map u64n)]) (fun z => R0.length - z.val) ⟨1, Nat.le_refl _, by omega, by rw [take_at (by omega), ddN_new (.inl rfl)]; rfl⟩ [0]
    ⟨⟨rfl, rfl, True.intro⟩, ⟨.inl (by rw [renO_us]; rfl), True.intro⟩, rfl, rfl, rfl⟩ ?_
  rintro ⟨k, k1, k2, hk⟩ K hK
  have hinc : wrp .i64 ((k : Int) + 1) = ((k + 1 : Nat) : Int) := by rw [wrpE, wi64]; omega
  have hdec : wrp .i64 ((k : Int) - 1) = ((k - 1 : Nat) : Int) := by rw [wrpE, wi64]; omega
  refine forkD (fun h => ?_) (fun h => ?_)
  · have h' : k < R0.length := by have : (k : Int) < (R0.length : Int) := h; omega
    have hx := atN_some h'
    have hy := atN_some (show k - 1 < R0.length by omega)
    have hb1 : (0 : Int) ≤ (k : Nat) ∧ ((k : Nat) : Int) < (R0.length : Nat) := by omega
    have hb2 : (0 : Int) ≤ wrp .i64 ((k : Int) - 1) ∧ wrp .i64 ((k : Int) - 1) < (R0.length : Nat) := by rw [hdec]; omega
    refine ⟨[0, 0, 0, 0, 0, 0, 0, 0, 0, 0], [[], [], [0, 1], [0, 1, 2], [], [], [5], [4, 5, 6], [4, 5, 6, 7], [0, 1, 2, 3, 4, 5, 6, 7, 8]], [0, 0, 0, 0, 0, 0, 0, 0, 0, 0], [], [[0], [3], [16, 17], [18], [0], [3], [21], [20, 22], [23], [19, 24]], Ob.intro (by kernel_rfl) ?_⟩
    refine Ob.intro hb1 ?_
    refine optK_intro (rd_us rfl (ofs k) hx) ?_
    refine Ob.intro hb2 ?_
    refine optK_intro (rd_us rfl (ofsW hdec) hy) ?_
    refine fork (fun g => ?_) (fun g => ?_)
    · have g' : atN R0 k = atN R0 (k - 1) := by
        have : ((atN R0 k : Nat) : Int) = ((atN R0 (k - 1) : Nat) : Int) := beq_iff_eq.1 g
        omega
      repeat first | refine same ?_ | refine optK_intro (rd_us rfl (ofs k) hx) ?_ | refine optK_intro (rd_us rfl (ofsW hdec) hy) ?_
      refine Ob.intro (show (0 : Int) ≤ (k : Nat) ∧ ((k : Nat) : Int) ≤ (R0.length : Nat) ∧ ((R0.length : Nat) : Int) ≤ (R0.length : Nat) by omega) ?_
      refine loopI (α := CpSt R0 k) (fun z => [(0, .slc 0 0 R0.length 1), (3, i64 (z.i : Nat)), (4, .slc 0 k (R0.length - k) 1), (5, i64 (z.t : Nat))]) (fun z => [.row (z.R.map u64n)]) (fun z => R0.length - k - z.t) ⟨1, k, R0, Nat.le_refl _, by omega, by omega, rfl, fun _ _ => rfl, by rw [hk, ddN_old (by omega) g']⟩ [0]
        ⟨⟨rfl, rfl, slcE (ofs k) (by show ((R0.length : Nat) : Int).toNat - ((k : Nat) : Int).toNat = _; omega), rfl, True.intro⟩, ⟨.inl (by rw [renO_us]; rfl), True.intro⟩, rfl, rfl, rfl⟩ ?_
      rintro ⟨t, i, R, ht, ht2, hi, len, old, hR⟩ K2 hK2
      have hinct : wrp .i64 ((t : Int) + 1) = ((t + 1 : Nat) : Int) := by rw [wrpE, wi64]; omega
      have hinci : wrp .i64 ((i : Int) + 1) = ((i + 1 : Nat) : Int) := by rw [wrpE, wi64]; omega
      have hdect : wrp .i64 ((t : Int) - 1) = ((t - 1 : Nat) : Int) := by rw [wrpE, wi64]; omega
      refine forkD (fun h => ?_) (fun h => ?_)
      · have h2 : t < R0.length - k := by have : (t : Int) < ((R0.length - k : Nat) : Int) := h; omega
        have hx := atN_some (show k + t < R.length by omega)
        have hy := atN_some (show k + (t - 1) < R.length by omega)
        have e1 := old (k + t) (by omega)
        have e2 := old (k + (t - 1)) (by omega)
        have hb1 : (0 : Int) ≤ (t : Nat) ∧ ((t : Nat) : Int) < (R0.length - k : Nat) := by omega
        have hb2 : (0 : Int) ≤ wrp .i64 ((t : Int) - 1) ∧ wrp .i64 ((t : Int) - 1) < (R0.length - k : Nat) := by rw [hdect]; omega
        have o1 : k + ((t : Nat) : Int).toNat * 1 = k + t := by omega
        have o2 : k + (wrp .i64 ((t : Int) - 1)).toNat * 1 = k + (t - 1) := by rw [hdect]; omega
        refine ⟨[0, 0, 0, 0, 0, 0, 0, 0, 0, 0], [[], [], [0, 1], [0, 1, 2], [], [], [5], [4, 5, 6], [4, 5, 6, 7], [0, 1, 2, 3, 4, 5, 6, 7, 8]], [0, 0, 0, 0, 0, 0, 0, 0, 0, 0], [], [[4], [5], [35, 36], [37], [4], [5], [40], [39, 41], [42], [38, 43]], Ob.intro (by kernel_rfl) ?_⟩
        refine Ob.intro hb1 ?_
        refine optK_intro (rd_us rfl o1 hx) ?_
        refine Ob.intro hb2 ?_
        refine optK_intro (rd_us rfl o2 hy) ?_
        refine fork (fun g => ?_) (fun g => ?_)
        · have g2 : atN R (k + t) ≠ atN R (k + (t - 1)) := by
            have : ((atN R (k + t) : Nat) : Int) ≠ ((atN R (k + (t - 1)) : Nat) : Int) := bne_iff_ne.1 g
            omega
          rw [e1, e2] at g2
          repeat first | refine same ?_ | refine optK_intro (rd_us rfl o1 hx) ?_ | refine optK_intro (rd_us rfl o2 hy) ?_
          refine Ob.intro hb1 ?_
          refine optK_intro (rd_us rfl o1 hx) ?_
          refine Ob.intro (show (0 : Int) ≤ (i : Nat) ∧ ((i : Nat) : Int) < (R0.length : Nat) by omega) ?_
          refine wr_us (k := i) (x := atN R (k + t)) rfl rfl (ofs i) (show i < R.length by omega) ?_
          refine hK2 ⟨t + 1, i + 1, R.set i (atN R (k + t)), by omega, by omega, by omega, by rw [List.length_set]; exact len, fun p hp => ?_, ?_⟩ [0] _ (show R0.length - k - t = R0.length - k - (t + 1) + 1 by omega) ⟨⟨rfl, congrArg i64 hinci, rfl, congrArg i64 hinct, True.intro⟩, ⟨.inl (by rw [renO_us]; rfl), True.intro⟩, rfl, rfl, rfl⟩
          · rw [← old p (by omega)]
            unfold atN
            rw [List.getD_eq_getElem?_getD, List.getElem?_set_ne (by omega), ← List.getD_eq_getElem?_getD]
          · rw [show k + (t + 1) = k + t + 1 by omega, ddN_new (.inr (by rw [show k + t - 1 = k + (t - 1) by omega]; exact g2)), ← hR, ← e1]
            rw [take_snocA (x := atN R (k + t)) (by rw [List.getElem?_set_self (by omega)]), List.take_set_of_le (Nat.le_refl _)]
        · have g2 : atN R (k + t) = atN R (k + (t - 1)) := by
            have : ((atN R (k + t) : Nat) : Int) = ((atN R (k + (t - 1)) : Nat) : Int) := bne_eq_false_iff_eq.1 g
            omega
          rw [e1, e2] at g2
          repeat first | refine same ?_ | refine optK_intro (rd_us rfl o1 hx) ?_ | refine optK_intro (rd_us rfl o2 hy) ?_
          refine hK2 ⟨t + 1, i, R, by omega, by omega, by omega, len, fun p hp => old p (by omega), ?_⟩ [0] _ (show R0.length - k - t = R0.length - k - (t + 1) + 1 by omega) ⟨⟨rfl, rfl, rfl, congrArg i64 hinct, True.intro⟩, ⟨.inl (by rw [renO_us]; rfl), True.intro⟩, rfl, rfl, rfl⟩
          rw [show k + (t + 1) = k + t + 1 by omega, ddN_old (by omega) (by rw [show k + t - 1 = k + (t - 1) by omega]; exact g2), hR]
      · have h2 : t = R0.length - k := by have : ¬ (t : Int) < ((R0.length - k : Nat) : Int) := h; omega
        have hil : i ≤ R.length := by omega
        refine Ob.intro (show (0 : Int) ≤ (i : Nat) ∧ ((i : Nat) : Int) ≤ (R0.length : Nat) ∧ ((R0.length : Nat) : Int) ≤ (R0.length : Nat) by omega) ?_
        refine wr_zeros (k := i) (m := R0.length - i) rfl (ofs i) (by show ((R0.length : Nat) : Int).toNat - ((i : Nat) : Int).toNat = _; omega) (show i + (R0.length - i) ≤ R.length by omega) ?_
        refine Ob.intro (show (0 : Int) ≤ 0 ∧ (0 : Int) ≤ (i : Nat) ∧ ((i : Nat) : Int) ≤ (R0.length : Nat) by omega) ?_
        refine ⟨rfl, [.row ((R.take i ++ List.replicate (R0.length - i) 0 ++ R.drop (i + (R0.length - i))).map u64n)], .slc 0 0 i 1, ⟨⟨_, rfl, rfl⟩, ⟨.inl rfl, True.intro⟩, Nat.le_refl _, belowH_us _⟩, _, i, ?_, ?_, rfl, rfl⟩
        · rw [List.length_append, List.length_append, List.length_take, Nat.min_eq_left hil]
          omega
        · have ht3 : (R.take i).length = i := by rw [List.length_take]; omega
          rw [List.append_assoc, List.take_left' ht3, hR, h2]
          congr 1
          omega
    · have g' : atN R0 k ≠ atN R0 (k - 1) := by
        have : ((atN R0 k : Nat) : Int) ≠ ((atN R0 (k - 1) : Nat) : Int) := beq_eq_false_iff_ne.1 g
        omega
      repeat first | refine same ?_ | refine optK_intro (rd_us rfl (ofs k) hx) ?_ | refine optK_intro (rd_us rfl (ofsW hdec) hy) ?_
      refine hK ⟨k + 1, by omega, h', by rw [take_at h', ddN_new (.inr g'), hk]⟩ [0] _ (show R0.length - k = R0.length - (k + 1) + 1 by omega) ⟨⟨rfl, congrArg i64 hinc, True.intro⟩, ⟨.inl (by rw [renO_us]; rfl), True.intro⟩, rfl, rfl, rfl⟩
  · have h' : k = R0.length := by have : ¬ (k : Int) < (R0.length : Int) := h; omega
    rw [h'] at hk
    exact ⟨rfl, [.row (R0.map u64n)], .slc 0 0 R0.length 1, ⟨⟨_, rfl, rfl⟩, ⟨.inl rfl, True.intro⟩, Nat.le_refl _, belowH_us R0⟩, R0, R0.length, Nat.le_refl _, hk, rfl, rfl⟩
end Go.Proofs.Ytmfifbclldnpkaa.A
