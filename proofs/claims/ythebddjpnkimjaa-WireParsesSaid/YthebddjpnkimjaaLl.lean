/- label: read from bytes. No condition. -/
import Derived.Test.YthebddjpnkimjaaLk
namespace Go.Proofs.Ythebddjpnkimjaa.A
open Go
set_option linter.unusedVariables false
set_option maxRecDepth 100000
set_option pp.maxSteps 1500

/-- The first k numbers of eight bytes behind the first byte. -/
def tagsB (s : ByteArray) : Nat → List Nat
  | 0 => []
  | k + 1 => tagsB s k ++ [valB s (1 + 8 * k) 8]
theorem tagsB_len (s : ByteArray) : ∀ k, (tagsB s k).length = k
  | 0 => rfl
  | k + 1 => by simp [tagsB, tagsB_len s k]
theorem tagsB_lt (s : ByteArray) : ∀ k, ∀ x ∈ tagsB s k, x < 18446744073709551616
  | 0, x, h => by cases h
  | k + 1, x, h => by
    rcases List.mem_append.1 h with h | h
    · exact tagsB_lt s k x h
    · rw [List.mem_singleton.1 h]
      exact valB_64 s _
structure UnP where
  l : List Nat
  n : Int
  e : Int
def unpL (s : ByteArray) : UnP :=
  if s.size = 0 then ⟨[], 0, 3⟩ else if 6 < octB s 0 then ⟨[], 0, 4⟩ else if s.size < 1 + 8 * octB s 0 then ⟨[], 0, 3⟩ else
    if rightB (tagsB s (octB s 0)) = true then ⟨tagsB s (octB s 0), (1 + 8 * octB s 0 : Nat), 0⟩ else ⟨[], 0, 4⟩
theorem unW {P : Program} {g : FuncId} {s : ByteArray} {args : List AV} {H : Heap} (h : ACalls P g args H (fun E G => ((E = .ret (.tup [us (unpL s).l, i64 (unpL s).n, i64 (unpL s).e])) ∨ ((unpL s).l = [] ∧ E = .ret (.tup [nilS, i64 (unpL s).n, i64 (unpL s).e]))) ∧ G = [])) : ACalls P g args H (Ret (.tup [us (unpL s).l, i64 (unpL s).n, i64 (unpL s).e])) := by
  refine h.weakR ?_
  rintro E G ⟨rfl | ⟨h, rfl⟩, rfl⟩
  · exact ⟨_, ⟨rfl, rfl⟩, EndR_refl _⟩
  · rw [h]
    exact ⟨_, ⟨rfl, rfl⟩, EndR_nilT _⟩
structure UnIn (s : ByteArray) (k : Nat) where
  j : Nat
  hj : j ≤ 8
structure UnOut (s : ByteArray) where
  k : Nat
  R : List Nat
  hk : k ≤ octB s 0
  hR : R = tagsB s k
theorem lunpack_ok (s : ByteArray) : ACalls Try.prog 47 [str s] [] (Ret (.tup [us (unpL s).l, i64 (unpL s).n, i64 (unpL s).e])) := by
  refine unW ?_
  refine acalls_of_awp hT mixed Try.func47 rfl (by kernel_rfl) (by kernel_rfl) (Nat.le_of_ble_eq_true rfl) ?_
  refine fork (fun h => ?_) (fun h => ?_)
  · have h0 : s.size = 0 := by
      have : s = ⟨#[]⟩ := strEq_iff.1 h
      rw [this]
      rfl
    have hu : unpL s = ⟨[], 0, 3⟩ := by unfold unpL; rw [if_pos h0]
    rw [hu]
    exact ⟨rfl, [], .tup [nilS, i64 0, i64 3], ⟨⟨_, rfl, rfl⟩, True.intro, Nat.zero_le _, rfl⟩, .inr ⟨rfl, rfl⟩, rfl⟩
  have h0 : s.size ≠ 0 := fun hh => by
    have : s = ⟨#[]⟩ := by
      apply ext_BA
      exact List.eq_nil_of_length_eq_zero (by rw [listB]; exact hh)
    rw [strEq_iff.2 this] at h
    cases h
  have hn := octB_lt s 0
  have e1 : wrp .i64 (octB s 0 : Int) = ((octB s 0 : Nat) : Int) := byteI _ (by omega)
  have e20 : wrp .i64 (8 * ((octB s 0 : Nat) : Int)) = ((8 * octB s 0 : Nat) : Int) := by rw [wrpE, wi64]; omega
  have e2 : wrp .i64 (1 + wrp .i64 (8 * ((octB s 0 : Nat) : Int))) = ((1 + 8 * octB s 0 : Nat) : Int) := by rw [e20, wrpE, wi64]; omega
  refine Ob.intro (show (0 : Int) ≤ 0 ∧ 0 < (s.size : Int) by omega) ?_
  refine forkD (fun h => ?_) (fun h => ?_)
  · have h6 : 6 < octB s 0 := by
      have : wrp .i64 (octB s 0 : Int) > 6 := h
      rw [e1] at this
      omega
    have hu : unpL s = ⟨[], 0, 4⟩ := by unfold unpL; rw [if_neg h0, if_pos h6]
    rw [hu]
    exact ⟨rfl, [], .tup [nilS, i64 0, i64 4], ⟨⟨_, rfl, rfl⟩, True.intro, Nat.zero_le _, rfl⟩, .inr ⟨rfl, rfl⟩, rfl⟩
  have h6 : ¬ 6 < octB s 0 := by
    have : ¬ wrp .i64 (octB s 0 : Int) > 6 := h
    rw [e1] at this
    omega
  refine forkD (fun h => ?_) (fun h => ?_)
  · have hs : s.size < 1 + 8 * octB s 0 := by
      have : (s.size : Int) < wrp .i64 (1 + wrp .i64 (8 * wrp .i64 (octB s 0 : Int))) := h
      rw [e1, e2] at this
      omega
    have hu : unpL s = ⟨[], 0, 3⟩ := by unfold unpL; rw [if_neg h0, if_neg h6, if_pos hs]
    rw [hu]
    exact ⟨rfl, [], .tup [nilS, i64 0, i64 3], ⟨⟨_, rfl, rfl⟩, True.intro, Nat.zero_le _, rfl⟩, .inr ⟨rfl, rfl⟩, rfl⟩
  have hs : ¬ s.size < 1 + 8 * octB s 0 := by
    have : ¬ (s.size : Int) < wrp .i64 (1 + wrp .i64 (8 * wrp .i64 (octB s 0 : Int))) := h
    rw [e1, e2] at this
    omega
  refine loopG (α := UnOut s) (fun z => [(0, str s), (6, i64 (1 + 8 * octB s 0 : Nat)), (7, .slc 0 0 z.R.length 1), (8, i64 (1 + 8 * z.k : Nat))]) (fun z => [.row (z.R.map u64n)]) [] (fun z => octB s 0 - z.k) ⟨0, [], Nat.zero_le _, rfl⟩ [.at_ 7 1] [0]
    ⟨⟨rfl, congrArg i64 (by show wrp .i64 (1 + wrp .i64 (8 * wrp .i64 (octB s 0 : Int))) = _; rw [e1, e2]), rfl, rfl, True.intro⟩, ⟨.inl rfl, True.intro⟩, rfl, rfl, rfl⟩ ?_
  rintro ⟨k, R, hk, hR⟩ K hK
  have hRl : R.length = k := by rw [hR, tagsB_len]
  have e8 : wrp .i64 (((1 + 8 * k : Nat) : Int) + 8) = ((1 + 8 * (k + 1) : Nat) : Int) := by rw [wrpE, wi64]; omega
  refine forkD (fun h => ?_) (fun h => ?_)
  · have h' : k < octB s 0 := by have : ((1 + 8 * k : Nat) : Int) < ((1 + 8 * octB s 0 : Nat) : Int) := h; omega
    have hsz : (s.extract (1 + 8 * k) (1 + 8 * (k + 1))).size = 8 := by rw [ext_size (by omega)]; omega
    refine Ob.intro (show (0 : Int) ≤ (1 + 8 * k : Nat) ∧ ((1 + 8 * k : Nat) : Int) ≤ wrp .i64 (((1 + 8 * k : Nat) : Int) + 8) ∧ wrp .i64 (((1 + 8 * k : Nat) : Int) + 8) ≤ (s.size : Int) by rw [e8]; omega) ?_
    refine loopI (α := UnIn s k) (fun z => [(0, str s), (6, i64 (1 + 8 * octB s 0 : Nat)), (7, .slc 0 0 R.length 1), (8, i64 (1 + 8 * k : Nat)), (9, u64n (valB s (1 + 8 * k) z.j)), (38, .view 8 (bytesA (s.extract (1 + 8 * k) (1 + 8 * (k + 1))))), (39, i64 8), (40, i64 (z.j : Nat))]) (fun z => [.row (R.map u64n)]) (fun z => 8 - z.j) ⟨0, Nat.zero_le _⟩ [0]
      ⟨⟨rfl, rfl, rfl, rfl, rfl, ?_, ?_, rfl, True.intro⟩, ⟨.inl (by rw [renO_us]; rfl), True.intro⟩, rfl, rfl, rfl⟩ ?_
    · show AV.view (s.extract ((1 + 8 * k : Nat) : Int).toNat (wrp .i64 (((1 + 8 * k : Nat) : Int) + 8)).toNat).size (bytesA (s.extract ((1 + 8 * k : Nat) : Int).toNat (wrp .i64 (((1 + 8 * k : Nat) : Int) + 8)).toNat)) = .view 8 _
      rw [e8, Int.toNat_natCast, Int.toNat_natCast, hsz]
    · show AV.sc (.int .i64 ((s.extract ((1 + 8 * k : Nat) : Int).toNat (wrp .i64 (((1 + 8 * k : Nat) : Int) + 8)).toNat).size : Nat)) = i64 8
      rw [e8, Int.toNat_natCast, Int.toNat_natCast, hsz]
      rfl
    rintro ⟨j, hj⟩ K2 hK2
    have hincj : wrp .i64 ((j : Int) + 1) = ((j + 1 : Nat) : Int) := by rw [wrpE, wi64]; omega
    refine forkD (fun h => ?_) (fun h => ?_)
    · have h2 : j < 8 := by have : (j : Int) < 8 := h; omega
      have hx : (byL (s.extract (1 + 8 * k) (1 + 8 * (k + 1))))[j]? = some (octB s (1 + 8 * k + j)) := by
        rw [byL_at (by rw [hsz]; exact h2), ext_at (by omega) (by omega)]
      refine Ob.intro (show (0 : Int) ≤ (j : Nat) ∧ ((j : Nat) : Int) < ((8 : Nat) : Int) by omega) ?_
      refine optK_intro (a := u8n (octB s (1 + 8 * k + j))) (by rw [bytesA_u8]; exact nth_map hx) ?_
      refine Ob.intro (by decide) ?_
      refine hK2 ⟨j + 1, h2⟩ [0] _ (show 8 - j = 8 - (j + 1) + 1 by omega) ⟨⟨rfl, rfl, rfl, rfl, congrArg (fun z => AV.sc (.int .u64 z)) (or_byte64 _ _ (valB_lt8 s _ j h2) (octB_lt s _)), rfl, rfl, congrArg i64 hincj, True.intro⟩, ⟨.inl (by rw [renO_us]; rfl), True.intro⟩, rfl, rfl, rfl⟩
    · have h2 : j = 8 := by have : ¬ (j : Int) < 8 := h; omega
      subst h2
      refine Ob.intro rfl ?_
      refine optK_intro (rdN_all (cs := R.map u64n) rfl (by rw [List.length_map, Nat.mul_one])) ?_
      refine Ob.intro (show (R.length + 1) * 8 ≤ 140737488355328 ∧ R.length + 1 ≤ 9223372036854775807 by omega) ?_
      refine hK ⟨k + 1, R ++ [valB s (1 + 8 * k) 8], h', by rw [hR]; rfl⟩ [] [2] _ (show octB s 0 - k = octB s 0 - (k + 1) + 1 by omega) ⟨⟨rfl, rfl, slcE rfl (by rw [List.length_append]; rfl), congrArg i64 e8, True.intro⟩, ⟨.inl ?_, True.intro⟩, rfl, rfl, rfl⟩
      show some (AObj.row (R.map u64n ++ [u64n (valB s (1 + 8 * k) 8)])) = some (renO _ (.row ((R ++ [valB s (1 + 8 * k) 8]).map u64n)))
      rw [renO_us, List.map_append]
      rfl
  · have h' : k = octB s 0 := by have : ¬ ((1 + 8 * k : Nat) : Int) < ((1 + 8 * octB s 0 : Nat) : Int) := h; omega
    rw [h'] at hR
    have hc := right_ok R (by omega)
    have hfz : frz [.row (R.map u64n)] 0 8 (.slc 0 0 R.length 1) = some (us R) := frz_us3 (k := 6) rfl rfl rfl
    have hfz7 : frz [.row (R.map u64n)] 0 7 (.slc 0 0 R.length 1) = some (us R) := frz_us3 (k := 5) rfl rfl rfl
    have hfm : mapO (frz [.row (R.map u64n)] 0 8) [.slc 0 0 R.length 1] = some [us R] := by simp only [mapO, hfz]
    cases hr : rightB R with
    | false =>
      have hu : unpL s = ⟨[], 0, 4⟩ := by unfold unpL; rw [if_neg h0, if_neg h6, if_neg hs, ← hR, hr]; rfl
      rw [hr] at hc
      refine callF hc hfm rfl ?_
      rw [hu]
      exact ⟨rfl, [], .tup [nilS, i64 0, i64 4], ⟨⟨_, rfl, rfl⟩, True.intro, Nat.zero_le _, rfl⟩, .inr ⟨rfl, rfl⟩, rfl⟩
    | true =>
      have hu : unpL s = ⟨R, (1 + 8 * octB s 0 : Nat), 0⟩ := by unfold unpL; rw [if_neg h0, if_neg h6, if_neg hs, ← hR, if_pos hr]
      rw [hr] at hc
      refine callF hc hfm rfl ?_
      rw [hu]
      have hft : frz [.row (R.map u64n)] 0 8 (.tup [.slc 0 0 R.length 1, i64 (1 + 8 * octB s 0 : Nat), i64 0]) = some (.tup [us R, i64 (1 + 8 * octB s 0 : Nat), i64 0]) := frz_tup (by simp only [mapO, hfz7]; rfl)
      exact ⟨rfl, [], .tup [us R, i64 (1 + 8 * octB s 0 : Nat), i64 0], ⟨⟨_, rfl, hft⟩, True.intro, Nat.zero_le _, rfl⟩, .inl rfl, rfl⟩
theorem runpack_ok (s : ByteArray) (hsz : s.size < 4611686018427387904) : ACalls Try.prog 48 [str s] [] (Ret (.tup [us (unpL s).l, i64 (unpL s).n, i64 (unpL s).e])) := by
  refine unW ?_
  refine acalls_of_awp hT mixed Try.func48 rfl (by kernel_rfl) (by kernel_rfl) (Nat.le_of_ble_eq_true rfl) ?_
  refine fork (fun h => ?_) (fun h => ?_)
  · have h0 : s.size = 0 := by
      have : (s.size : Int) = 0 := beq_iff_eq.1 h
      omega
    have hu : unpL s = ⟨[], 0, 3⟩ := by unfold unpL; rw [if_pos h0]
    rw [hu]
    exact ⟨rfl, [], .tup [nilS, i64 0, i64 3], ⟨⟨_, rfl, rfl⟩, True.intro, Nat.zero_le _, rfl⟩, .inr ⟨rfl, rfl⟩, rfl⟩
  have h0 : s.size ≠ 0 := fun hh => by
    have : (s.size : Int) ≠ 0 := beq_eq_false_iff_ne.1 h
    omega
  have hn := octB_lt s 0
  have e1 : wrp .i64 (octB s 0 : Int) = ((octB s 0 : Nat) : Int) := byteI _ (by omega)
  refine Ob.intro (show (0 : Int) ≤ 0 ∧ 0 < (s.size : Int) by omega) ?_
  refine forkD (fun h => ?_) (fun h => ?_)
  · have h6 : 6 < octB s 0 := by
      have : wrp .i64 (octB s 0 : Int) > 6 := h
      rw [e1] at this
      omega
    have hu : unpL s = ⟨[], 0, 4⟩ := by unfold unpL; rw [if_neg h0, if_pos h6]
    rw [hu]
    exact ⟨rfl, [], .tup [nilS, i64 0, i64 4], ⟨⟨_, rfl, rfl⟩, True.intro, Nat.zero_le _, rfl⟩, .inr ⟨rfl, rfl⟩, rfl⟩
  have h6 : ¬ 6 < octB s 0 := by
    have : ¬ wrp .i64 (octB s 0 : Int) > 6 := h
    rw [e1] at this
    omega
  have e2 : wrp .i64 (8 * ((octB s 0 : Nat) : Int)) = ((8 * octB s 0 : Nat) : Int) := by rw [wrpE, wi64]; omega
  have e3 : wrp .i64 ((s.size : Int) - 1) = ((s.size - 1 : Nat) : Int) := by rw [wrpE, wi64]; omega
  refine forkD (fun h => ?_) (fun h => ?_)
  · have hs : s.size < 1 + 8 * octB s 0 := by
      have : wrp .i64 ((s.size : Int) - 1) < wrp .i64 (8 * wrp .i64 (octB s 0 : Int)) := h
      rw [e1, e2, e3] at this
      omega
    have hu : unpL s = ⟨[], 0, 3⟩ := by unfold unpL; rw [if_neg h0, if_neg h6, if_pos hs]
    rw [hu]
    exact ⟨rfl, [], .tup [nilS, i64 0, i64 3], ⟨⟨_, rfl, rfl⟩, True.intro, Nat.zero_le _, rfl⟩, .inr ⟨rfl, rfl⟩, rfl⟩
  have hs : ¬ s.size < 1 + 8 * octB s 0 := by
    have : ¬ wrp .i64 ((s.size : Int) - 1) < wrp .i64 (8 * wrp .i64 (octB s 0 : Int)) := h
    rw [e1, e2, e3] at this
    omega
  refine loopI (α := UnOut s) (fun z => [(0, str s), (5, i64 (octB s 0 : Nat)), (6, .slc 0 0 z.R.length 1), (7, i64 (z.k : Nat))]) (fun z => [.row (z.R.map u64n)]) (fun z => octB s 0 - z.k) ⟨0, [], Nat.zero_le _, rfl⟩ [0]
    ⟨⟨rfl, congrArg i64 e1, rfl, rfl, True.intro⟩, ⟨.inl rfl, True.intro⟩, rfl, rfl, rfl⟩ ?_
  rintro ⟨k, R, hk, hR⟩ K hK
  have hRl : R.length = k := by rw [hR, tagsB_len]
  have hinc : wrp .i64 ((k : Int) + 1) = ((k + 1 : Nat) : Int) := by rw [wrpE, wi64]; omega
  refine forkD (fun h => ?_) (fun h => ?_)
  · have h' : k < octB s 0 := by have : (k : Int) < (octB s 0 : Int) := h; omega
    refine loopI (α := UnIn s k) (fun z => [(0, str s), (5, i64 (octB s 0 : Nat)), (6, .slc 0 0 R.length 1), (7, i64 (k : Nat)), (8, u64n (valB s (1 + 8 * k) z.j)), (9, i64 (z.j : Nat))]) (fun z => [.row (R.map u64n)]) (fun z => 8 - z.j) ⟨0, Nat.zero_le _⟩ [0]
      ⟨⟨rfl, rfl, rfl, rfl, rfl, rfl, True.intro⟩, ⟨.inl (by rw [renO_us]; rfl), True.intro⟩, rfl, rfl, rfl⟩ ?_
    rintro ⟨j, hj⟩ K2 hK2
    have hincj : wrp .i64 ((j : Int) + 1) = ((j + 1 : Nat) : Int) := by rw [wrpE, wi64]; omega
    refine forkD (fun h => ?_) (fun h => ?_)
    · have h2 : j < 8 := by have : (j : Int) < 8 := h; omega
      have e41 : wrp .i64 (8 * (k : Int)) = ((8 * k : Nat) : Int) := by rw [wrpE, wi64]; omega
      have e42 : wrp .i64 (1 + ((8 * k : Nat) : Int)) = ((1 + 8 * k : Nat) : Int) := by rw [wrpE, wi64]; omega
      have e4 : wrp .i64 (wrp .i64 (1 + wrp .i64 (8 * (k : Int))) + (j : Int)) = ((1 + 8 * k + j : Nat) : Int) := by rw [e41, e42, wrpE, wi64]; omega
      refine Ob.intro (show (0 : Int) ≤ wrp .i64 (wrp .i64 (1 + wrp .i64 (8 * (k : Int))) + (j : Int)) ∧ wrp .i64 (wrp .i64 (1 + wrp .i64 (8 * (k : Int))) + (j : Int)) < (s.size : Int) by rw [e4]; omega) ?_
      refine hK2 ⟨j + 1, h2⟩ [0] _ (show 8 - j = 8 - (j + 1) + 1 by omega) ⟨⟨rfl, rfl, rfl, rfl, congrArg (fun z => AV.sc (.int .u64 z)) ?_, congrArg i64 hincj, True.intro⟩, ⟨.inl (by rw [renO_us]; rfl), True.intro⟩, rfl, rfl, rfl⟩
      show wrp .u64 (wrp .u64 (((valB s (1 + 8 * k) j : Nat) : Int) * 256) + wrp .u64 ((s.data.toList.getD (wrp .i64 (wrp .i64 (1 + wrp .i64 (8 * (k : Int))) + (j : Int))).toNat 0).toNat : Nat)) = ((valB s (1 + 8 * k) (j + 1) : Nat) : Int)
      rw [e4, Int.toNat_natCast]
      exact mul_byte64 _ _ (valB_lt8 s _ j h2) (octB_lt s _)
    · have h2 : j = 8 := by have : ¬ (j : Int) < 8 := h; omega
      subst h2
      refine Ob.intro rfl ?_
      refine optK_intro (rdN_all (cs := R.map u64n) rfl (by rw [List.length_map, Nat.mul_one])) ?_
      refine Ob.intro (show (R.length + 1) * 8 ≤ 140737488355328 ∧ R.length + 1 ≤ 9223372036854775807 by omega) ?_
      refine hK ⟨k + 1, R ++ [valB s (1 + 8 * k) 8], h', by rw [hR]; rfl⟩ [2] _ (show octB s 0 - k = octB s 0 - (k + 1) + 1 by omega) ⟨⟨rfl, rfl, slcE rfl (by rw [List.length_append]; rfl), congrArg i64 hinc, True.intro⟩, ⟨.inl ?_, True.intro⟩, rfl, rfl, rfl⟩
      show some (AObj.row (R.map u64n ++ [u64n (valB s (1 + 8 * k) 8)])) = some (renO _ (.row ((R ++ [valB s (1 + 8 * k) 8]).map u64n)))
      rw [renO_us, List.map_append]
      rfl
  · have h' : k = octB s 0 := by have : ¬ (k : Int) < (octB s 0 : Int) := h; omega
    rw [h'] at hR
    have hc := rright_ok R (by omega)
    have hfz : frz [.row (R.map u64n)] 0 8 (.slc 0 0 R.length 1) = some (us R) := frz_us3 (k := 6) rfl rfl rfl
    have hfz7 : frz [.row (R.map u64n)] 0 7 (.slc 0 0 R.length 1) = some (us R) := frz_us3 (k := 5) rfl rfl rfl
    have hfm : mapO (frz [.row (R.map u64n)] 0 8) [.slc 0 0 R.length 1] = some [us R] := by simp only [mapO, hfz]
    have e5 : wrp .i64 (1 + wrp .i64 (8 * ((octB s 0 : Nat) : Int))) = ((1 + 8 * octB s 0 : Nat) : Int) := by rw [e2, wrpE, wi64]; omega
    cases hr : rightB R with
    | false =>
      have hu : unpL s = ⟨[], 0, 4⟩ := by unfold unpL; rw [if_neg h0, if_neg h6, if_neg hs, ← hR, hr]; rfl
      rw [hr] at hc
      refine callF hc hfm rfl ?_
      rw [hu]
      exact ⟨rfl, [], .tup [nilS, i64 0, i64 4], ⟨⟨_, rfl, rfl⟩, True.intro, Nat.zero_le _, rfl⟩, .inr ⟨rfl, rfl⟩, rfl⟩
    | true =>
      have hu : unpL s = ⟨R, (1 + 8 * octB s 0 : Nat), 0⟩ := by unfold unpL; rw [if_neg h0, if_neg h6, if_neg hs, ← hR, if_pos hr]
      rw [hr] at hc
      refine callF hc hfm rfl ?_
      rw [hu]
      have hft : frz [.row (R.map u64n)] 0 8 (.tup [.slc 0 0 R.length 1, i64 (wrp .i64 (1 + wrp .i64 (8 * ((octB s 0 : Nat) : Int)))), i64 0]) = some (.tup [us R, i64 (wrp .i64 (1 + wrp .i64 (8 * ((octB s 0 : Nat) : Int)))), i64 0]) := frz_tup (by simp only [mapO, hfz7]; rfl)
      exact ⟨rfl, [], .tup [us R, i64 (wrp .i64 (1 + wrp .i64 (8 * ((octB s 0 : Nat) : Int)))), i64 0], ⟨⟨_, rfl, hft⟩, True.intro, Nat.zero_le _, rfl⟩, .inl (by rw [e5]), rfl⟩
end Go.Proofs.Ythebddjpnkimjaa.A
