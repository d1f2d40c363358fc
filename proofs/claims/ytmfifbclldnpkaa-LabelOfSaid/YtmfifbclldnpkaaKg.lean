/- sorting many: all of it. No condition. -/
import Derived.Test.YtmfifbclldnpkaaKf
namespace Go.Proofs.Ytmfifbclldnpkaa.A
open Go
set_option linter.unusedVariables false
set_option linter.unusedSimpArgs false
set_option maxRecDepth 100000
set_option pp.maxSteps 600

def SrtR (R0 : List Nat) (a b : Nat) : AEnd → Heap → Prop := fun E G => ∃ R, SO a b R0 R ∧ SI a b R ∧ E = .ret (.tup []) ∧ G = [.row (R.map u64n)]
structure Pd (R0 : List Nat) (a b : Nat) where
  c : Nat
  d : Nat
  lim : Int
  wb : Bool
  wp : Bool
  R : List Nat
  fu : Nat
  h1 : a ≤ c
  h2 : c ≤ d
  h3 : d ≤ b
  so : SO a b R0 R
  cr : Crs a b c d R
  lw : Low c d R
  hf : d - c ≤ fu
structure P15 (R : List Nat) (c d : Nat) where
  S : List Nat
  p : Nat
  h : Int
  so : SO c d R S
  p1 : c ≤ p
  p2 : p < d
structure P17 (R : List Nat) (c d : Nat) where
  S : List Nat
  p : Nat
  so : SO c d R S
  p1 : c ≤ p
  p2 : p < d
theorem low_cut {c d e : Nat} {R : List Nat} (h : Low c d R) (he : e ≤ d) : Low c e R := fun h0 i h1 h2 => h h0 i h1 (by omega)
/-- Behind a partition and a sorting of the left. -/
theorem pd_left {c d m : Nat} {R S : List Nat} (hm : c ≤ m ∧ m < d) (hd : d ≤ R.length) (lo : ∀ k, c ≤ k → k < m → atN R k < atN R m) (hi : ∀ k, m < k → k < d → atN R m ≤ atN R k) (so : SO c m R S) (si : SI c m S) : Crs c d (m + 1) d S ∧ Low (m + 1) d S := by
  have o1 : ∀ k, m ≤ k → atN S k = atN R k := fun k hk => so.out k (.inr hk)
  have lw := so.all hm.1 (by omega) (P := fun x => x ≤ atN R m) fun k k1 k2 => Nat.le_of_lt (lo k k1 k2)
  refine ⟨fun i j h1 h2 h3 h4 => ?_, fun h0 i h1 h2 => ?_⟩
  · by_cases him : i < m
    · by_cases hjm : j < m
      · exact si i j h1 h2 hjm
      · rw [o1 j (by omega)]
        refine Nat.le_trans (lw i h1 him) ?_
        by_cases e : j = m
        · rw [e]; exact Nat.le_refl _
        · exact hi j (by omega) h3
    · have e : i = m := by omega
      rw [o1 i (by omega), o1 j (by omega), e]
      exact hi j (by omega) h3
  · rw [show m + 1 - 1 = m by omega, o1 m (Nat.le_refl _), o1 i (by omega)]
    exact hi i (by omega) h2
theorem pd_right {c d m : Nat} {R S : List Nat} (hm : c ≤ m ∧ m < d) (hd : d ≤ R.length) (lo : ∀ k, c ≤ k → k < m → atN R k < atN R m) (hi : ∀ k, m < k → k < d → atN R m ≤ atN R k) (so : SO (m + 1) d R S) (si : SI (m + 1) d S) (hl : Low c d R) : Crs c d c m S ∧ Low c m S := by
  have o1 : ∀ k, k ≤ m → atN S k = atN R k := fun k hk => so.out k (.inl (by omega))
  have hg := so.all (by omega) hd (P := fun x => atN R m ≤ x) fun k k1 k2 => hi k (by omega) k2
  refine ⟨fun i j h1 h2 h3 h4 => ?_, fun h0 i h1 h2 => ?_⟩
  · have hjm : m ≤ j := by omega
    by_cases hi2 : m < i
    · exact si i j (by omega) h2 h3
    · rw [o1 i (by omega)]
      have e1 : atN R i ≤ atN R m := by
        by_cases e : i = m
        · rw [e]; exact Nat.le_refl _
        · exact Nat.le_of_lt (lo i h1 (by omega))
      by_cases e : j = m
      · rw [e, o1 m (Nat.le_refl _)]; exact e1
      · exact Nat.le_trans e1 (hg j (by omega) h3)
  · rw [o1 (c - 1) (by omega), o1 i (by omega)]
    exact hl h0 i h1 (by omega)
set_option maxHeartbeats 1000000 in
theorem pdq_ok : ∀ (n : Nat) (R0 : List Nat) (a b : Nat) (lim : Int), b - a = n → a ≤ b → b ≤ R0.length → R0.length ≤ 63 → Low a b R0 → ACalls Try.prog 40 [.slc 0 0 R0.length 1, i64 (a : Nat), i64 (b : Nat), i64 lim] [.row (R0.map u64n)] (SrtR R0 a b) := by
  intro n
  induction n using Nat.strongRecOn with
  | ind n ih =>
  intro R0 a b lim hn hab hb hR hlow
  refine acalls_of_awpC [10, 15, 17, 20] hT mixed Try.func40 rfl (by kernel_rfl) (by kernel_rfl) (Nat.le_of_ble_eq_true rfl) ?_
  refine loopI (α := Pd R0 a b) (fun z => [(0, .slc 0 0 R0.length 1), (1, i64 (z.c : Nat)), (2, i64 (z.d : Nat)), (3, i64 z.lim), (8, bo z.wb), (9, bo z.wp)]) (fun z => [.row (z.R.map u64n)]) (fun z => z.fu) ⟨a, b, lim, true, true, R0, b - a, Nat.le_refl _, hab, Nat.le_refl _, SO.refl .., Crs.refl a b R0, hlow, Nat.le_refl _⟩ [0] ⟨⟨rfl, rfl, rfl, rfl, rfl, rfl, True.intro⟩, ⟨.inl (by rw [renO_us]; rfl), True.intro⟩, rfl, rfl, rfl⟩ ?_
  clear lim hlow
  rintro ⟨c, d, lim, wb, wp, R, fu, h1, h2, h3, so, cr, lw, hf⟩ K hK
  dsimp only at h1 h2 h3 so cr lw hf hK ⊢
  have hlen := so.len
  have el : wrp .i64 ((d : Int) - (c : Int)) = ((d - c : Nat) : Int) := by rw [wid (by omega)]; omega
  refine forkD (fun g => ?_) (fun g => ?_)
  · have hi := insert_ok R c d h2 (by omega) (by omega)
    rw [hlen] at hi
    refine callS hi [0] ⟨.inl (by rw [renO_us]; rfl), True.intro⟩ rfl ?_
    rintro E G ⟨S, s2, si, rfl, rfl⟩ _
    refine ⟨_, [.row (S.map u64n)], rfl, by simp only [renH, renO_us]; rfl, ?_⟩
    exact ⟨rfl, [.row (S.map u64n)], .tup [], ⟨⟨_, rfl, rfl⟩, ⟨.inl rfl, True.intro⟩, Nat.le_refl _, belowH_us _⟩, S, so.trans (s2.wide h1 h3), (cr.so s2 h2 (by omega) h1 h3).si si, rfl, rfl⟩
  have g' : c + 13 ≤ d := by
    have : ¬ wrp .i64 ((d : Int) - (c : Int)) ≤ 12 := g
    rw [el] at this
    omega
  refine fork (fun _ => ?_) (fun _ => ?_)
  · have hi := heap_ok R c d (by omega) (by omega) (by omega)
    rw [hlen] at hi
    refine callS hi [0] ⟨.inl (by rw [renO_us]; rfl), True.intro⟩ rfl ?_
    rintro E G ⟨S, s2, si, rfl, rfl⟩ _
    refine ⟨_, [.row (S.map u64n)], rfl, by simp only [renH, renO_us]; rfl, ?_⟩
    exact ⟨rfl, [.row (S.map u64n)], .tup [], ⟨⟨_, rfl, rfl⟩, ⟨.inl rfl, True.intro⟩, Nat.le_refl _, belowH_us _⟩, S, so.trans (s2.wide h1 h3), (cr.so s2 h2 (by omega) h1 h3).si si, rfl, rfl⟩
  refine cutI (α := { z : List Nat × Int // SO c d R z.1 }) (fun z => [(0, .slc 0 0 R0.length 1), (1, i64 (c : Nat)), (2, i64 (d : Nat)), (3, i64 z.val.2), (8, bo wb), (9, bo wp), (10, i64 (d - c : Nat))]) (fun z => [.row (z.val.1.map u64n)]) [] (fun K1 hK1 => ?_) (fun z => ?_)
  · clear hK
    refine fork (fun _ => ?_) (fun _ => ?_)
    · exact hK1 ⟨(R, lim), SO.refl ..⟩ [] [0] _ ⟨⟨rfl, rfl, rfl, rfl, rfl, rfl, congrArg i64 el, True.intro⟩, ⟨.inl (by rw [renO_us]; rfl), True.intro⟩, rfl, rfl, rfl⟩
    · have hi := break_ok R c d (by omega) (by omega) (by omega)
      rw [hlen] at hi
      refine callS hi [0] ⟨.inl (by rw [renO_us]; rfl), True.intro⟩ rfl ?_
      rintro E G ⟨S, s2, rfl, rfl⟩ _
      refine ⟨_, [.row (S.map u64n)], rfl, by simp only [renH, renO_us]; rfl, ?_⟩
      exact hK1 ⟨(S, _), s2⟩ [] [0] _ ⟨⟨rfl, rfl, rfl, rfl, rfl, rfl, congrArg i64 el, True.intro⟩, ⟨.inl (by rw [renO_us]; rfl), True.intro⟩, rfl, rfl, rfl⟩
  obtain ⟨⟨S, lim⟩, s1⟩ := z
  dsimp only at s1 ⊢
  have hlenS := s1.len
  have hi := pivot_ok S c d (by omega) (by omega) (by omega)
  rw [hlenS, hlen] at hi
  refine callS hi [0] ⟨.inl (by rw [renO_us]; rfl), True.intro⟩ rfl ?_
  rintro E G ⟨p, hh, ⟨p1, p2⟩, rfl, rfl⟩ _
  refine ⟨_, [.row (S.map u64n)], rfl, by simp only [renH, renO_us]; rfl, ?_⟩
  clear hi
  refine cutI (α := P15 R c d) (fun z => [(0, .slc 0 0 R0.length 1), (1, i64 (c : Nat)), (2, i64 (d : Nat)), (3, i64 lim), (8, bo wb), (9, bo wp), (10, i64 (d - c : Nat)), (11, i64 (z.p : Nat)), (12, i64 z.h)]) (fun z => [.row (z.S.map u64n)]) [] (fun K1 hK1 => ?_) (fun z => ?_)
  · clear hK
    refine fork (fun _ => ?_) (fun _ => ?_)
    · have hi := reverse_ok S c d (by omega) (by omega) (by omega)
      rw [hlenS, hlen] at hi
      refine callS hi [0] ⟨.inl (by rw [renO_us]; rfl), True.intro⟩ rfl ?_
      rintro E G ⟨S2, s2, rfl, rfl⟩ _
      refine ⟨_, [.row (S2.map u64n)], rfl, by simp only [renH, renO_us]; rfl, ?_⟩
      have ep : wrp .i64 (wrp .i64 ((d : Int) - 1) - wrp .i64 ((p : Int) - (c : Int))) = ((d - 1 - (p - c) : Nat) : Int) := by
        rw [wid (z := (d : Int) - 1) (by omega), wid (z := (p : Int) - (c : Int)) (by omega), wid (by omega)]
        omega
      exact hK1 ⟨S2, d - 1 - (p - c), 1, s1.trans s2, by omega, by omega⟩ [] [0] _ ⟨⟨rfl, rfl, rfl, rfl, rfl, rfl, rfl, congrArg i64 ep, rfl, True.intro⟩, ⟨.inl (by rw [renO_us]; rfl), True.intro⟩, rfl, rfl, rfl⟩
    · exact hK1 ⟨S, p, hh, s1, p1, p2⟩ [] [0] _ ⟨⟨rfl, rfl, rfl, rfl, rfl, rfl, rfl, rfl, rfl, True.intro⟩, ⟨.inl (by rw [renO_us]; rfl), True.intro⟩, rfl, rfl, rfl⟩
  clear s1 hlenS p1 p2
  obtain ⟨S, p, hh, s1, p1, p2⟩ := z
  dsimp only at s1 p1 p2 ⊢
  have hlenS := s1.len
  refine cutI (α := P17 R c d) (fun z => [(0, .slc 0 0 R0.length 1), (1, i64 (c : Nat)), (2, i64 (d : Nat)), (3, i64 lim), (8, bo wb), (9, bo wp), (10, i64 (d - c : Nat)), (11, i64 (z.p : Nat))]) (fun z => [.row (z.S.map u64n)]) [] (fun K1 hK1 => ?_) (fun z => ?_)
  · clear hK
    have go : ∀ (s : St), Weak (([AObj.row (R0.map u64n)] : Heap).length) (ghosts s []) [0] [(0, .slc 0 0 R0.length 1), (1, i64 (c : Nat)), (2, i64 (d : Nat)), (3, i64 lim), (8, bo wb), (9, bo wp), (10, i64 (d - c : Nat)), (11, i64 (p : Nat))] [.row (S.map u64n)] [] → K1 s := fun s hw => hK1 ⟨S, p, s1, p1, p2⟩ [] [0] s hw
    refine fork (fun _ => ?_) (fun _ => ?_)
    rotate_left
    · exact go _ ⟨⟨rfl, rfl, rfl, rfl, rfl, rfl, rfl, rfl, True.intro⟩, ⟨.inl (by rw [renO_us]; rfl), True.intro⟩, rfl, rfl, rfl⟩
    refine fork (fun _ => ?_) (fun _ => ?_)
    rotate_left
    · exact go _ ⟨⟨rfl, rfl, rfl, rfl, rfl, rfl, rfl, rfl, True.intro⟩, ⟨.inl (by rw [renO_us]; rfl), True.intro⟩, rfl, rfl, rfl⟩
    refine fork (fun _ => ?_) (fun _ => ?_)
    rotate_left
    · exact go _ ⟨⟨rfl, rfl, rfl, rfl, rfl, rfl, rfl, rfl, True.intro⟩, ⟨.inl (by rw [renO_us]; rfl), True.intro⟩, rfl, rfl, rfl⟩
    have hi := pins_ok S c d (by omega) (by omega) (by omega) (lw.so s1 h2 (by omega))
    rw [hlenS, hlen] at hi
    refine callS hi [0] ⟨.inl (by rw [renO_us]; rfl), True.intro⟩ rfl ?_
    rintro E G ⟨S2, q, s2, hq, rfl, rfl⟩ _
    refine ⟨_, [.row (S2.map u64n)], rfl, by simp only [renH, renO_us]; rfl, ?_⟩
    cases q with
    | true =>
      exact ⟨rfl, [.row (S2.map u64n)], .tup [], ⟨⟨_, rfl, rfl⟩, ⟨.inl rfl, True.intro⟩, Nat.le_refl _, belowH_us _⟩, S2, so.trans ((s1.trans s2).wide h1 h3), (cr.so (s1.trans s2) h2 (by omega) h1 h3).si (hq rfl), rfl, rfl⟩
    | false => exact hK1 ⟨S2, p, s1.trans s2, p1, p2⟩ [] [0] _ ⟨⟨rfl, rfl, rfl, rfl, rfl, rfl, rfl, rfl, True.intro⟩, ⟨.inl (by rw [renO_us]; rfl), True.intro⟩, rfl, rfl, rfl⟩
  clear s1 hlenS p1 p2
  obtain ⟨S, p, s1, p1, p2⟩ := z
  dsimp only at s1 p1 p2 ⊢
  have hlenS := s1.len
  have lwS := lw.so s1 h2 (by omega)
  have crS := cr.so s1 h2 (by omega) h1 h3
  have soS := so.trans (s1.wide h1 h3)
  clear so cr lw s1
  have hc0 : c < S.length := by omega
  have hpR : p < S.length := by omega
  have bp : (0 : Int) ≤ (p : Nat) ∧ ((p : Nat) : Int) < (R0.length : Nat) := by omega
  have hlenR : S.length = R0.length := by omega
  refine cutI (α := Unit) (fun _ => [(0, .slc 0 0 R0.length 1), (1, i64 (c : Nat)), (2, i64 (d : Nat)), (3, i64 lim), (8, bo wb), (9, bo wp), (10, i64 (d - c : Nat)), (11, i64 (p : Nat))]) (fun _ => [.row (S.map u64n)]) [] (fun K1 hK1 => ?_) (fun _ => ?_)
  · have go : ∀ (s : St), Weak (([AObj.row (R0.map u64n)] : Heap).length) (ghosts s []) [0] [(0, .slc 0 0 R0.length 1), (1, i64 (c : Nat)), (2, i64 (d : Nat)), (3, i64 lim), (8, bo wb), (9, bo wp), (10, i64 (d - c : Nat)), (11, i64 (p : Nat))] [.row (S.map u64n)] [] → K1 s := fun s hw => hK1 () [] [0] s hw
    refine ⟨[0, 0, 0, 0, 0, 0, 0, 0, 0, 0, 0, 0, 1, 1, 1], [[], [0], [0, 1], [0, 1, 2], [0, 1, 2], [0, 1, 2, 4], [0, 1, 2, 3, 4, 5], [0, 1, 2, 3, 4, 5, 6], [0, 1, 2], [0, 1, 2], [0, 1, 2, 8, 9], [0, 1, 2, 8, 9, 10], [0, 1, 2, 3, 4, 5, 6, 7, 8, 9, 10, 11], [0, 1, 2, 3, 4, 5, 6, 7, 8, 9, 10, 11, 12], [0, 1, 2, 3, 4, 5, 6, 7, 8, 9, 10, 11, 12, 13]], [0, 0, 0, 0, 0, 0, 0, 0, 0, 0, 0, 0, 0, 0, 0], [12], [[1], [73], [74], [0, 75], [1, 75], [77, 75], [76, 78, 75], [79, 75], [0, 75], [11, 75], [81, 82, 75], [83, 75], [80, 84, 75], [85, 75], [75, 86]], Ob.intro (by kernel_rfl) ?_⟩
    refine forkD (fun g2 => ?_) (fun g2 => ?_)
    rotate_left
    · repeat refine same ?_
      exact go _ ⟨⟨rfl, rfl, rfl, rfl, rfl, rfl, rfl, rfl, True.intro⟩, ⟨.inl (by rw [renO_us]; rfl), True.intro⟩, rfl, rfl, rfl⟩
    have g2' : 0 < c := by have : (c : Int) > 0 := g2; omega
    have em : wrp .i64 ((c : Int) - 1) = ((c - 1 : Nat) : Int) := by rw [wid (by omega)]; omega
    have hmR : c - 1 < S.length := by omega
    have bm : (0 : Int) ≤ wrp .i64 ((c : Int) - 1) ∧ wrp .i64 ((c : Int) - 1) < (R0.length : Nat) := by rw [em]; omega
    repeat first | refine same ?_ | refine Ob.intro bm ?_ | refine Ob.intro bp ?_ | refine optK_intro (rd_us rfl (ofsW em) (atN_some hmR)) ?_ | refine optK_intro (rd_us rfl (ofs p) (atN_some hpR)) ?_
    refine callP (lessU_ok _ _) rfl rfl ?_
    refine forkD (fun w => ?_) (fun w => ?_)
    · repeat refine same ?_
      exact go _ ⟨⟨rfl, rfl, rfl, rfl, rfl, rfl, rfl, rfl, True.intro⟩, ⟨.inl (by rw [renO_us]; rfl), True.intro⟩, rfl, rfl, rfl⟩
    have w' : atN S p ≤ atN S (c - 1) := by have : ¬ ((atN S (c - 1) : Nat) : Int) < ((atN S p : Nat) : Int) := w; omega
    repeat refine same ?_
    have hi := parteq_ok S c d p (by omega) (by omega) ⟨p1, p2⟩ (by omega)
    rw [hlenR] at hi
    refine callS hi [0] ⟨.inl (by rw [renO_us]; rfl), True.intro⟩ rfl ?_
    rintro E G ⟨m, T, ⟨m1, m2⟩, s2, lo, hi2, ev, rfl, rfl⟩ _
    refine ⟨_, [.row (T.map u64n)], rfl, by simp only [renH, renO_us]; rfl, ?_⟩
    have all : ∀ k, c ≤ k → k < d → atN S p ≤ atN T k := s2.all h2 (by omega) (P := fun x => atN S p ≤ x) fun k k1 k2 => Nat.le_trans w' (lwS g2' k k1 k2)
    refine hK ⟨m, d, lim, wb, wp, T, fu - 1, by omega, m2, h3, soS.trans (s2.wide h1 h3), (crS.so s2 h2 (by omega) h1 h3).inn (fun i j i1 i2 i3 i4 => ?_), fun h0 i i1 i2 => ?_, by omega⟩ [0] _ (show fu = fu - 1 + 1 by omega) ⟨⟨rfl, rfl, rfl, rfl, rfl, rfl, True.intro⟩, ⟨.inl (by rw [renO_us]; rfl), True.intro⟩, rfl, rfl, rfl⟩
    · have e1 := lo i i1 (by omega)
      have e2 := all j (by omega) i3
      omega
    · have e1 := lo (m - 1) (by omega) (by omega)
      have e2 := all i (by omega) i2
      omega
  clear bp hpR
  have hi := part_ok S c d p (by omega) (by omega) ⟨p1, p2⟩ (by omega)
  rw [hlenR] at hi
  refine callS hi [0] ⟨.inl (by rw [renO_us]; rfl), True.intro⟩ rfl ?_
  rintro E G ⟨m, q, T, ⟨m1, m2⟩, s2, lo, hi2, rfl, rfl⟩ _
  refine ⟨_, [.row (T.map u64n)], rfl, by simp only [renH, renO_us]; rfl, ?_⟩
  have crT := crS.so s2 h2 (by omega) h1 h3
  have soT := soS.trans (s2.wide h1 h3)
  have lwT := lwS.so s2 h2 (by omega)
  have hlenT : T.length = R0.length := by rw [s2.len, hlenR]
  clear hi crS soS lwS hlenS hlenR p1 p2 s2
  have em : wrp .i64 ((m : Int) + 1) = ((m + 1 : Nat) : Int) := by rw [wid (by omega)]; omega
  cases q <;>
  · refine Ob.intro (show (8 : Int) ≠ 0 by decide) ?_
    refine forkD (fun _ => ?_) (fun _ => ?_)
    · refine fork (fun _ => ?_) (fun _ => ?_) <;>
      · have hr := ih (m - c) (by omega) T c m lim rfl m1 (by omega) (by omega) (low_cut lwT (by omega))
        rw [hlenT] at hr
        refine callS hr [0] ⟨.inl (by rw [renO_us]; rfl), True.intro⟩ rfl ?_
        rintro E G ⟨U, s3, si, rfl, rfl⟩ _
        refine ⟨_, [.row (U.map u64n)], rfl, by simp only [renH, renO_us]; rfl, ?_⟩
        obtain ⟨f1, f2⟩ := pd_left ⟨m1, m2⟩ (by omega) lo hi2 s3 si
        exact hK ⟨m + 1, d, lim, _, _, U, fu - 1, by omega, by omega, h3, soT.trans (s3.wide h1 (by omega)), (crT.so (s3.wide (Nat.le_refl _) (by omega)) h2 (by omega) h1 h3).inn f1, f2, by omega⟩ [0] _ (show fu = fu - 1 + 1 by omega) ⟨⟨rfl, congrArg i64 em, rfl, rfl, rfl, rfl, True.intro⟩, ⟨.inl (by rw [renO_us]; rfl), True.intro⟩, rfl, rfl, rfl⟩
    · refine fork (fun _ => ?_) (fun _ => ?_) <;>
      · have hr := ih (d - (m + 1)) (by omega) T (m + 1) d lim rfl (by omega) (by omega) (by omega) (fun _ i i1 i2 => by rw [show m + 1 - 1 = m by omega]; exact hi2 i (by omega) i2)
        rw [hlenT, ← em] at hr
        refine callS hr [0] ⟨.inl (by rw [renO_us]; rfl), True.intro⟩ rfl ?_
        rintro E G ⟨U, s3, si, rfl, rfl⟩ _
        refine ⟨_, [.row (U.map u64n)], rfl, by simp only [renH, renO_us]; rfl, ?_⟩
        obtain ⟨f1, f2⟩ := pd_right ⟨m1, m2⟩ (by omega) lo hi2 s3 si lwT
        exact hK ⟨c, m, lim, _, _, U, fu - 1, h1, m1, by omega, soT.trans (s3.wide (by omega) h3), (crT.so (s3.wide (by omega) (Nat.le_refl _)) h2 (by omega) h1 h3).inn f1, f2, by omega⟩ [0] _ (show fu = fu - 1 + 1 by omega) ⟨⟨rfl, rfl, rfl, rfl, rfl, rfl, True.intro⟩, ⟨.inl (by rw [renO_us]; rfl), True.intro⟩, rfl, rfl, rfl⟩
theorem sort60_ok (R0 : List Nat) (hn : R0.length ≤ 63) : ACalls Try.prog 29 [.slc 0 0 R0.length 1] [.row (R0.map u64n)] (SrtR R0 0 R0.length) := by
  have hw : wrp .u64 (R0.length : Nat) = ((R0.length : Nat) : Int) := by rw [wrpE, wu64]; omega
  have hl := len_ok R0.length (by omega)
  rw [← hw] at hl
  refine acalls_of_awp hT mixed Try.func29 rfl (by kernel_rfl) (by kernel_rfl) (Nat.le_of_ble_eq_true rfl) ?_
  refine callE hl rfl (fun v hv => by obtain ⟨i, rfl⟩ := hv; rfl) ?_
  rintro v ⟨i, rfl⟩
  refine callS (pdq_ok R0.length R0 0 R0.length i (by omega) (Nat.zero_le _) (Nat.le_refl _) hn (fun h => absurd h (by decide))) [0] ⟨.inl (by rw [renO_us]; rfl), True.intro⟩ rfl ?_
  rintro E G ⟨R, so, si, rfl, rfl⟩ _
  refine ⟨_, [.row (R.map u64n)], rfl, by simp only [renH, renO_us]; rfl, ?_⟩
  exact ⟨rfl, [.row (R.map u64n)], .tup [], ⟨⟨_, rfl, rfl⟩, ⟨.inl rfl, True.intro⟩, Nat.le_refl _, belowH_us _⟩, R, so, si, rfl, rfl⟩
end Go.Proofs.Ytmfifbclldnpkaa.A
