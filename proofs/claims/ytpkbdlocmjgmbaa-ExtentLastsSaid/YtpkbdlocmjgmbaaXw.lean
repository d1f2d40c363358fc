/- extent: the law ExtentLasts. No condition. -/
import Derived.Test.YtpkbdlocmjgmbaaXv
namespace Go.Proofs.Ytpkbdlocmjgmbaa.A
open Go
set_option linter.unusedVariables false
set_option linter.unusedSimpArgs false
set_option maxRecDepth 100000
set_option pp.maxSteps 600
theorem cellX {α : Type} {f : α → List AV} {n : Nat} (hf : ∀ x, (f x).length = n) {L : List α} {j : Nat} {x : α} (h : L[j]? = some x) (c : Nat) {a : AV} (hc : (f x)[c]? = some a) : nth (List.drop c (List.drop ((j : Int).toNat * n) (flat f L))) 0 = some a := by
  have hlt := (List.getElem?_eq_some_iff.1 hc).1
  rw [nth_eq, Int.toNat_natCast, flat_drop hf L j x h, List.getElem?_drop]
  show (f x ++ _)[c]? = _
  rw [List.getElem?_append_left hlt]
  exact hc
theorem cellX0 {α : Type} {f : α → List AV} {n : Nat} (hf : ∀ x, (f x).length = n) {L : List α} {j : Nat} {x : α} (h : L[j]? = some x) {a : AV} (hc : (f x)[0]? = some a) : nth (List.drop ((j : Int).toNat * n) (flat f L)) 0 = some a := cellX hf h 0 hc
/-- An extent is as it was, and nothing of it is wet. -/
def Keep (w : Wd) (own : Int) (f : Nat → ByteArray) : Prop := ∀ k : Nat, k < 6 → w.d own k = f k ∧ w.m own k = none
theorem in46 {own : Int} (ho : 0 ≤ own ∧ own < 4) {k : Nat} (hk : k < 6) : inW 4 6 own k := ⟨⟨ho.1, by have := ho.2; omega⟩, by omega, by omega⟩
theorem play_keep {w : Wd} (h : w.is 4 6) {own : Int} (ho : 0 ≤ own ∧ own < 4) {f : Nat → ByteArray} (hk : Keep w own f) (x : Xa) (hx : (x.k ≠ 1 ∧ x.k ≠ 5) ∨ x.e ≠ own) : Keep (w.play x) own f := by
  unfold Wd.play
  split
  · rename_i h1
    have hne : x.e ≠ own := hx.resolve_left fun h => h.1 h1
    intro k hk6
    refine ⟨by rw [write_d]; exact (hk k hk6).1, ?_⟩
    by_cases h0 : w.err x.e x.a = 0
    · by_cases hs : x.s.size ≤ 64
      · rw [write_m h h0 hs (in46 ho hk6), if_neg (fun h => hne h.1.symm)]
        exact (hk k hk6).2
      · rw [show (w.write x.e x.a x.s).2 = w by unfold Wd.write; rw [if_pos h0, if_neg hs]]
        exact (hk k hk6).2
    · rw [show (w.write x.e x.a x.s).2 = w by unfold Wd.write; rw [if_neg h0]]
      exact (hk k hk6).2
  split
  · intro k hk6
    by_cases h0 : w.err x.e 0 = 0
    · rw [flush_d h h0 (in46 ho hk6), flush_m h h0 (in46 ho hk6), (hk k hk6).2, (hk k hk6).1]
      exact ⟨by split <;> rfl, by split <;> rfl⟩
    · rw [show (w.flush x.e).2 = w by unfold Wd.flush; rw [if_neg h0]]
      exact hk k hk6
  split
  · split
    · intro k hk6
      cases hf : w.off
      · rw [crash_d h hf _ (in46 ho hk6), crash_m _ hf, (hk k hk6).2, (hk k hk6).1]
        exact ⟨by split <;> rfl, rfl⟩
      · rw [show (w.crash x.ps).2 = w by unfold Wd.crash; rw [if_pos hf]]
        exact hk k hk6
    · exact hk
  split
  · exact hk
  split
  · rename_i h5
    have hne : x.e ≠ own := hx.resolve_left fun h => h.2 h5
    intro k hk6
    by_cases h0 : w.may x.e x.a = 0
    · by_cases hs : x.s.size ≤ 64
      · rw [lay_m h h0 hs (in46 ho hk6), lay_d h h0 hs (in46 ho hk6), if_neg (fun h => hne h.1.symm), if_neg (fun h => hne h.1.symm)]
        exact hk k hk6
      · rw [show (w.lay x.e x.a x.s).2 = w by unfold Wd.lay; rw [if_pos h0, if_neg hs]]
        exact hk k hk6
    · rw [show (w.lay x.e x.a x.s).2 = w by unfold Wd.lay; rw [if_neg h0]]
      exact hk k hk6
  · exact hk
theorem crash_keep {w : Wd} (h : w.is 4 6) {own : Int} (ho : 0 ≤ own ∧ own < 4) {f : Nat → ByteArray} (hk : Keep w own f) (ps : List (Int × Int)) : Keep (w.crash ps).2 own f := by
  intro k hk6
  cases hf : w.off
  · rw [crash_d h hf _ (in46 ho hk6), crash_m _ hf, (hk k hk6).2, (hk k hk6).1]
    exact ⟨by split <;> rfl, rfl⟩
  · rw [show (w.crash ps).2 = w by unfold Wd.crash; rw [if_pos hf]]
    exact hk k hk6
theorem and3 {own q : Int} (hq : wrp .i64 ((BitVec.ofInt IntKind.i64.bits own &&& BitVec.ofInt IntKind.i64.bits 3).toNat : Nat) = q) : 0 ≤ q ∧ q < 4 := by
  have h : (BitVec.ofInt IntKind.i64.bits own &&& BitVec.ofInt IntKind.i64.bits 3).toNat ≤ 3 := by
    rw [BitVec.toNat_and]
    exact Nat.le_trans Nat.and_le_right (by decide)
  rw [wrpE, wi64] at hq
  omega
/-- What was read of it. -/
def wasL (w : Wd) (q : Int) (j : Nat) : List ByteArray := (List.range j).map fun k : Nat => w.d q k
theorem wasL_len (w : Wd) (q : Int) (j : Nat) : (wasL w q j).length = j := by unfold wasL; rw [List.length_map, List.length_range]
theorem wasL_succ (w : Wd) (q : Int) (j : Nat) : (wasL w q (j + 1)).map str = (wasL w q j).map str ++ [str (w.d q (j : Nat))] := by
  unfold wasL
  rw [List.range_succ, List.map_append, List.map_append]
  rfl
theorem wasL_get (w : Wd) (q : Int) {j k : Nat} (h : k < j) : (wasL w q j)[k]? = some (w.d q (k : Nat)) := by
  unfold wasL
  rw [List.getElem?_map, List.getElem?_range h]
  rfl
def wasO (w : Wd) (q : Int) (j : Nat) : AObj := .row ((wasL w q j).map str)
theorem renO_was (r : Nat → Nat) (w : Wd) (q : Int) (j : Nat) : renO r (wasO w q j) = wasO w q j := renO_str r _
structure LaA where
  i : Nat
  w : Wd
  hi : i ≤ 120
  is : w.is 4 6
structure LaC (w3 : Wd) (q : Int) where
  w : Wd
  is : w.is 4 6
  k : Keep w q (fun k => w3.d q k)
theorem extentLasts_ok (L M : List Xa) (own : Int) (ps : List (Int × Int)) (hp : ps.length ≤ 100) : ACalls Try.prog 3 [.view L.length (flat xaC L), .view M.length (flat xaC M), i64 own, pkV ps] [] (Ret (bo true)) := by
  refine acalls_of_awpC [13, 22, 27] hT mixed Try.func3 rfl (by kernel_rfl) (by kernel_rfl) (Nat.le_of_ble_eq_true rfl) ?_
  refine callP awakeX_ok rfl rfl ?_
  refine forkD (fun h => ?_) (fun _ => ?_)
  · exact absurd (show (ps.length : Int) > 100 from h) (by omega)
  refine callN_4 (newE_ok 4 6 (by omega) (by omega) (by omega) (by omega)) (new_is (by omega) (by omega)) rfl rfl (fun o x0 x1 x2 x3 y0 y1 y2 y3 e => ?_)
  obtain ⟨q, hq⟩ : ∃ q : Int, wrp .i64 ((BitVec.ofInt IntKind.i64.bits own &&& BitVec.ofInt IntKind.i64.bits 3).toNat : Nat) = q := ⟨_, rfl⟩
  have hq4 : 0 ≤ q ∧ q < 4 := and3 hq
  have i0 : (⟨o, 6, [x0, x1, x2, x3], [y0, y1, y2, y3]⟩ : Wd).is 4 6 := e ▸ new_is (by omega) (by omega)
  clear e
  refine cutI (α := { w : Wd // w.is 4 6 }) (fun z => [(1, .view M.length (flat xaC M)), (2, i64 q), (3, pkV ps), (9, .ptr 0 0)]) (fun z => z.val.H) [] (fun K1 hK1 => ?_) (fun z => ?_)
  · refine loopI (α := LaA) (fun z => [(0, .view L.length (flat xaC L)), (1, .view M.length (flat xaC M)), (2, i64 q), (3, pkV ps), (9, .ptr 0 0), (11, i64 (z.i : Nat))]) (fun z => z.w.H) (fun z => 120 - z.i) (LaA.mk 0 ⟨o, 6, [x0, x1, x2, x3], [y0, y1, y2, y3]⟩ (by omega) i0) [0, 1, 2, 3, 4, 5, 6, 7, 8, 9, 10] ⟨⟨rfl, rfl, congrArg i64 hq, rfl, rfl, rfl, True.intro⟩, ⟨.inl rfl, .inl rfl, .inl rfl, .inl (by rw [renO_str]; rfl), .inl (by rw [renO_str]; rfl), .inl (by rw [renO_str]; rfl), .inl (by rw [renO_str]; rfl), .inl (by rw [renO_mp]; rfl), .inl (by rw [renO_mp]; rfl), .inl (by rw [renO_mp]; rfl), .inl (by rw [renO_mp]; rfl), True.intro⟩, rfl, rfl, rfl⟩ ?_
    clear i0
    rintro ⟨i, w, hi, hw⟩ K hK
    dsimp only at hi ⊢
    obtain ⟨o, d0, d1, d2, d3, m0, m1, m2, m3, ew⟩ := tell_4 hw
    rw [ew]
    have out := hK1 ⟨w, hw⟩ [] [0, 1, 2, 3, 4, 5, 6, 7, 8, 9, 10]
    dsimp only at out
    rw [ew] at out
    refine forkD (fun h => ?_) (fun h => ?_)
    · refine forkD (fun h2 => ?_) (fun h2 => ?_)
      · have g : i < L.length := by have : (i : Int) < (L.length : Int) := h; omega
        have g2 : i < 120 := by have : (i : Int) < 120 := h2; omega
        obtain ⟨x, hx⟩ : ∃ x, L[i]? = some x := ⟨_, List.getElem?_eq_getElem g⟩
        refine Ob.intro (show (0 : Int) ≤ (i : Nat) ∧ ((i : Nat) : Int) < (L.length : Nat) by omega) ?_
        refine optK_intro (flat_takeN (f := xaC) (n := 5) (fun _ => rfl) hx) ?_
        refine callT_4 (E := []) (play_4 w hw x) ew (play_is hw x) rfl rfl (fun o' x0 x1 x2 x3 y0 y1 y2 y3 e => ?_)
        exact hK (LaA.mk (i + 1) ⟨o', 6, [x0, x1, x2, x3], [y0, y1, y2, y3]⟩ (by omega) (e ▸ play_is hw x)) [0, 1, 2, 3, 4, 5, 6, 7, 8, 9, 10] _ (show 120 - i = 120 - (i + 1) + 1 by omega) ⟨⟨rfl, rfl, rfl, rfl, rfl, congrArg i64 (wincQ (by omega)), True.intro⟩, ⟨.inl rfl, .inl rfl, .inl rfl, .inl (by rw [renO_str]; rfl), .inl (by rw [renO_str]; rfl), .inl (by rw [renO_str]; rfl), .inl (by rw [renO_str]; rfl), .inl (by rw [renO_mp]; rfl), .inl (by rw [renO_mp]; rfl), .inl (by rw [renO_mp]; rfl), .inl (by rw [renO_mp]; rfl), True.intro⟩, rfl, rfl, rfl⟩
      · exact out _ ⟨⟨rfl, rfl, rfl, rfl, True.intro⟩, ⟨.inl rfl, .inl rfl, .inl rfl, .inl (by rw [renO_str]; rfl), .inl (by rw [renO_str]; rfl), .inl (by rw [renO_str]; rfl), .inl (by rw [renO_str]; rfl), .inl (by rw [renO_mp]; rfl), .inl (by rw [renO_mp]; rfl), .inl (by rw [renO_mp]; rfl), .inl (by rw [renO_mp]; rfl), True.intro⟩, rfl, rfl, rfl⟩
    · exact out _ ⟨⟨rfl, rfl, rfl, rfl, True.intro⟩, ⟨.inl rfl, .inl rfl, .inl rfl, .inl (by rw [renO_str]; rfl), .inl (by rw [renO_str]; rfl), .inl (by rw [renO_str]; rfl), .inl (by rw [renO_str]; rfl), .inl (by rw [renO_mp]; rfl), .inl (by rw [renO_mp]; rfl), .inl (by rw [renO_mp]; rfl), .inl (by rw [renO_mp]; rfl), True.intro⟩, rfl, rfl, rfl⟩
  obtain ⟨w1, i1⟩ := z
  dsimp only
  obtain ⟨o, d0, d1, d2, d3, m0, m1, m2, m3, e1⟩ := tell_4 i1
  rw [e1]
  obtain ⟨w2, hw2⟩ : ∃ w, w = w1.start.2 := ⟨_, rfl⟩
  have i2 : w2.is 4 6 := hw2 ▸ start_is i1
  have o2 : w2.off = false := by rw [hw2]; rfl
  have c2 := startW w1 i1.ok (by rw [i1.n]; omega)
  rw [← hw2] at c2
  have E2 : w2.err q 0 = 0 := i2.err0.2 ⟨o2, in46 hq4 (k := 0) (by omega)⟩
  obtain ⟨w3, hw3⟩ : ∃ w, w = (w2.flush q).2 := ⟨_, rfl⟩
  have i3 : w3.is 4 6 := hw3 ▸ flush_is i2 q
  have o3 : w3.off = false := by rw [hw3, flush_off, o2]
  have c3 := flushW w2 i2.ok q
  rw [flush_0 E2, ← hw3] at c3
  have k3 : Keep w3 q (fun k => w3.d q k) := fun k hk => ⟨rfl, by rw [hw3, flush_m i2 E2 (in46 hq4 hk), if_pos rfl]⟩
  clear hw2 hw3
  refine callT_4 (E := []) c2 e1 i2 rfl rfl (fun o' x0 x1 x2 x3 y0 y1 y2 y3 e2 => ?_)
  refine callT_4 (E := []) c3 e2 i3 rfl rfl (fun o' x0 x1 x2 x3 y0 y1 y2 y3 e3 => ?_)
  refine cutI (α := Unit) (fun _ => [(1, .view M.length (flat xaC M)), (2, i64 q), (3, pkV ps), (9, .ptr 0 0), (12, .slc 11 0 6 1)]) (fun _ => (Wd.mk o' 6 [x0, x1, x2, x3] [y0, y1, y2, y3]).H ++ [wasO w3 q 6]) [] (fun K1 hK1 => ?_) (fun _ => ?_)
  · refine loopI (α := { j : Nat // j ≤ 6 }) (fun z => [(1, .view M.length (flat xaC M)), (2, i64 q), (3, pkV ps), (9, .ptr 0 0), (12, .slc 11 0 z.val 1), (13, i64 (z.val : Nat))]) (fun z => (Wd.mk o' 6 [x0, x1, x2, x3] [y0, y1, y2, y3]).H ++ [wasO w3 q z.val]) (fun z => 6 - z.val) ⟨0, Nat.zero_le 6⟩ [0, 1, 2, 3, 4, 5, 6, 7, 8, 9, 10, 11] ⟨⟨rfl, rfl, rfl, rfl, rfl, rfl, True.intro⟩, ⟨.inl rfl, .inl rfl, .inl rfl, .inl (by rw [renO_str]; rfl), .inl (by rw [renO_str]; rfl), .inl (by rw [renO_str]; rfl), .inl (by rw [renO_str]; rfl), .inl (by rw [renO_mp]; rfl), .inl (by rw [renO_mp]; rfl), .inl (by rw [renO_mp]; rfl), .inl (by rw [renO_mp]; rfl), .inl rfl, True.intro⟩, rfl, rfl, rfl⟩ ?_
    rintro ⟨j, hj⟩ K hK
    dsimp only at hj ⊢
    refine forkD (fun h => ?_) (fun h => ?_)
    · have g : j < 6 := by have : (j : Int) < 6 := h; omega
      have c4 := readW w3 i3.ok q (j : Nat)
      rw [read_0 (i3.err0.2 ⟨o3, in46 hq4 g⟩), (k3 j g).2] at c4
      replace c4 : ACalls Try.prog 12 [.ptr 0 0, i64 q, i64 (j : Nat)] w3.H (RetH (.tup [str (w3.d q (j : Nat)), i64 0]) w3.H) := c4
      refine callU_4 (E := [wasO w3 q j]) c4 e3 e3 i3 rfl rfl ?_
      refine Ob.intro rfl ?_
      refine optK_intro (a := (wasL w3 q j).map str) ?_ ?_
      · exact rdN_all rfl (by rw [List.length_map, wasL_len]; omega)
      refine Ob.intro (show (j + 1) * 16 ≤ 140737488355328 ∧ j + 1 ≤ 9223372036854775807 by omega) ?_
      exact hK ⟨j + 1, g⟩ [0, 1, 2, 3, 4, 5, 6, 7, 8, 9, 10, 13] _ (show 6 - j = 6 - (j + 1) + 1 by omega) ⟨⟨rfl, rfl, rfl, rfl, rfl, congrArg i64 (wincQ (by omega)), True.intro⟩, ⟨.inl rfl, .inl rfl, .inl rfl, .inl (by rw [renO_str]; rfl), .inl (by rw [renO_str]; rfl), .inl (by rw [renO_str]; rfl), .inl (by rw [renO_str]; rfl), .inl (by rw [renO_mp]; rfl), .inl (by rw [renO_mp]; rfl), .inl (by rw [renO_mp]; rfl), .inl (by rw [renO_mp]; rfl), .inl (by rw [renO_was]; exact congrArg (fun l => some (AObj.row l)) (wasL_succ w3 q j).symm), True.intro⟩, rfl, rfl, rfl⟩
    · have e6 : j = 6 := by have : ¬ (j : Int) < 6 := h; omega
      subst e6
      exact hK1 () [] [0, 1, 2, 3, 4, 5, 6, 7, 8, 9, 10, 11] _ ⟨⟨rfl, rfl, rfl, rfl, rfl, True.intro⟩, ⟨.inl rfl, .inl rfl, .inl rfl, .inl (by rw [renO_str]; rfl), .inl (by rw [renO_str]; rfl), .inl (by rw [renO_str]; rfl), .inl (by rw [renO_str]; rfl), .inl (by rw [renO_mp]; rfl), .inl (by rw [renO_mp]; rfl), .inl (by rw [renO_mp]; rfl), .inl (by rw [renO_mp]; rfl), .inl (by rw [renO_was]; rfl), True.intro⟩, rfl, rfl, rfl⟩
  clear c2 c3 E2 e1 e2 i1 i2 o2
  have i3' : (⟨o', 6, [x0, x1, x2, x3], [y0, y1, y2, y3]⟩ : Wd).is 4 6 := e3 ▸ i3
  have k3' : Keep (⟨o', 6, [x0, x1, x2, x3], [y0, y1, y2, y3]⟩ : Wd) q (fun k => w3.d q k) := e3 ▸ k3
  refine cutI (α := LaC w3 q) (fun z => [(2, i64 q), (3, pkV ps), (9, .ptr 0 0), (12, .slc 11 0 6 1)]) (fun z => z.w.H ++ [wasO w3 q 6]) [] (fun K1 hK1 => ?_) (fun z => ?_)
  · refine loopI (α := (_ : { i : Nat // i ≤ 120 }) × LaC w3 q) (fun z => [(1, .view M.length (flat xaC M)), (2, i64 q), (3, pkV ps), (9, .ptr 0 0), (12, .slc 11 0 6 1), (16, i64 (z.1.val : Nat))]) (fun z => z.2.w.H ++ [wasO w3 q 6]) (fun z => 120 - z.1.val) ⟨⟨0, Nat.zero_le _⟩, LaC.mk _ i3' k3'⟩ [0, 1, 2, 3, 4, 5, 6, 7, 8, 9, 10, 11] ⟨⟨rfl, rfl, rfl, rfl, rfl, rfl, True.intro⟩, ⟨.inl rfl, .inl rfl, .inl rfl, .inl (by rw [renO_str]; rfl), .inl (by rw [renO_str]; rfl), .inl (by rw [renO_str]; rfl), .inl (by rw [renO_str]; rfl), .inl (by rw [renO_mp]; rfl), .inl (by rw [renO_mp]; rfl), .inl (by rw [renO_mp]; rfl), .inl (by rw [renO_mp]; rfl), .inl (by rw [renO_was]; rfl), True.intro⟩, rfl, rfl, rfl⟩ ?_
    rintro ⟨⟨i, hi⟩, w, hw, hk⟩ K hK
    dsimp only at hi ⊢
    obtain ⟨o, d0, d1, d2, d3, m0, m1, m2, m3, ew⟩ := tell_4 hw
    rw [ew]
    have out := hK1 ⟨w, hw, hk⟩ [] [0, 1, 2, 3, 4, 5, 6, 7, 8, 9, 10, 11]
    dsimp only at out
    rw [ew] at out
    refine forkD (fun h => ?_) (fun h => ?_)
    · refine forkD (fun h2 => ?_) (fun h2 => ?_)
      · have g : i < M.length := by have : (i : Int) < (M.length : Int) := h; omega
        have g2 : i < 120 := by have : (i : Int) < 120 := h2; omega
        obtain ⟨x, hx⟩ : ∃ x, M[i]? = some x := ⟨_, List.getElem?_eq_getElem g⟩
        have hb : (0 : Int) ≤ (i : Nat) ∧ ((i : Nat) : Int) < (M.length : Nat) := by omega
        refine Ob.intro hb ?_
        refine optK_intro (cellX0 (n := 5) (fun _ => rfl) hx rfl) ?_
        refine fork (fun h1 => ?_) (fun h1 => ?_)
        · have h1 : x.k ≠ 1 := bne_iff_ne.1 h1
          refine Ob.intro hb ?_
          refine optK_intro (cellX0 (n := 5) (fun _ => rfl) hx rfl) ?_
          refine fork (fun h5 => ?_) (fun h5 => ?_)
          · have h5 : x.k ≠ 5 := bne_iff_ne.1 h5
            refine Ob.intro hb ?_
            refine optK_intro (flat_takeN (f := xaC) (n := 5) (fun _ => rfl) hx) ?_
            refine callT_4 (E := [wasO w3 q 6]) (play_4 w hw x) ew (play_is hw x) rfl rfl (fun o' x0 x1 x2 x3 y0 y1 y2 y3 e => ?_)
            have hk' := play_keep hw hq4 hk x (.inl ⟨h1, h5⟩)
            have hw' := play_is hw x
            rw [e] at hk' hw'
            exact hK ⟨⟨i + 1, g2⟩, LaC.mk _ hw' hk'⟩ [0, 1, 2, 3, 4, 5, 6, 7, 8, 9, 10, 11] _ (show 120 - i = 120 - (i + 1) + 1 by omega) ⟨⟨rfl, rfl, rfl, rfl, rfl, congrArg i64 (wincQ (by omega)), True.intro⟩, ⟨.inl rfl, .inl rfl, .inl rfl, .inl (by rw [renO_str]; rfl), .inl (by rw [renO_str]; rfl), .inl (by rw [renO_str]; rfl), .inl (by rw [renO_str]; rfl), .inl (by rw [renO_mp]; rfl), .inl (by rw [renO_mp]; rfl), .inl (by rw [renO_mp]; rfl), .inl (by rw [renO_mp]; rfl), .inl (by rw [renO_was]; rfl), True.intro⟩, rfl, rfl, rfl⟩
          · refine Ob.intro hb ?_
            refine optK_intro (cellX (n := 5) (fun _ => rfl) hx 1 rfl) ?_
            refine fork (fun he => ?_) (fun he => ?_)
            · have he : x.e ≠ q := bne_iff_ne.1 he
              refine Ob.intro hb ?_
              refine optK_intro (flat_takeN (f := xaC) (n := 5) (fun _ => rfl) hx) ?_
              refine callT_4 (E := [wasO w3 q 6]) (play_4 w hw x) ew (play_is hw x) rfl rfl (fun o' x0 x1 x2 x3 y0 y1 y2 y3 e => ?_)
              have hk' := play_keep hw hq4 hk x (.inr he)
              have hw' := play_is hw x
              rw [e] at hk' hw'
              exact hK ⟨⟨i + 1, g2⟩, LaC.mk _ hw' hk'⟩ [0, 1, 2, 3, 4, 5, 6, 7, 8, 9, 10, 11] _ (show 120 - i = 120 - (i + 1) + 1 by omega) ⟨⟨rfl, rfl, rfl, rfl, rfl, congrArg i64 (wincQ (by omega)), True.intro⟩, ⟨.inl rfl, .inl rfl, .inl rfl, .inl (by rw [renO_str]; rfl), .inl (by rw [renO_str]; rfl), .inl (by rw [renO_str]; rfl), .inl (by rw [renO_str]; rfl), .inl (by rw [renO_mp]; rfl), .inl (by rw [renO_mp]; rfl), .inl (by rw [renO_mp]; rfl), .inl (by rw [renO_mp]; rfl), .inl (by rw [renO_was]; rfl), True.intro⟩, rfl, rfl, rfl⟩
            · exact hK ⟨⟨i + 1, g2⟩, LaC.mk _ (ew ▸ hw) (ew ▸ hk)⟩ [0, 1, 2, 3, 4, 5, 6, 7, 8, 9, 10, 11] _ (show 120 - i = 120 - (i + 1) + 1 by omega) ⟨⟨rfl, rfl, rfl, rfl, rfl, congrArg i64 (wincQ (by omega)), True.intro⟩, ⟨.inl rfl, .inl rfl, .inl rfl, .inl (by rw [renO_str]; rfl), .inl (by rw [renO_str]; rfl), .inl (by rw [renO_str]; rfl), .inl (by rw [renO_str]; rfl), .inl (by rw [renO_mp]; rfl), .inl (by rw [renO_mp]; rfl), .inl (by rw [renO_mp]; rfl), .inl (by rw [renO_mp]; rfl), .inl (by rw [renO_was]; rfl), True.intro⟩, rfl, rfl, rfl⟩
        · refine Ob.intro hb ?_
          refine optK_intro (cellX (n := 5) (fun _ => rfl) hx 1 rfl) ?_
          refine fork (fun he => ?_) (fun he => ?_)
          · have he : x.e ≠ q := bne_iff_ne.1 he
            refine Ob.intro hb ?_
            refine optK_intro (flat_takeN (f := xaC) (n := 5) (fun _ => rfl) hx) ?_
            refine callT_4 (E := [wasO w3 q 6]) (play_4 w hw x) ew (play_is hw x) rfl rfl (fun o' x0 x1 x2 x3 y0 y1 y2 y3 e => ?_)
            have hk' := play_keep hw hq4 hk x (.inr he)
            have hw' := play_is hw x
            rw [e] at hk' hw'
            exact hK ⟨⟨i + 1, g2⟩, LaC.mk _ hw' hk'⟩ [0, 1, 2, 3, 4, 5, 6, 7, 8, 9, 10, 11] _ (show 120 - i = 120 - (i + 1) + 1 by omega) ⟨⟨rfl, rfl, rfl, rfl, rfl, congrArg i64 (wincQ (by omega)), True.intro⟩, ⟨.inl rfl, .inl rfl, .inl rfl, .inl (by rw [renO_str]; rfl), .inl (by rw [renO_str]; rfl), .inl (by rw [renO_str]; rfl), .inl (by rw [renO_str]; rfl), .inl (by rw [renO_mp]; rfl), .inl (by rw [renO_mp]; rfl), .inl (by rw [renO_mp]; rfl), .inl (by rw [renO_mp]; rfl), .inl (by rw [renO_was]; rfl), True.intro⟩, rfl, rfl, rfl⟩
          · exact hK ⟨⟨i + 1, g2⟩, LaC.mk _ (ew ▸ hw) (ew ▸ hk)⟩ [0, 1, 2, 3, 4, 5, 6, 7, 8, 9, 10, 11] _ (show 120 - i = 120 - (i + 1) + 1 by omega) ⟨⟨rfl, rfl, rfl, rfl, rfl, congrArg i64 (wincQ (by omega)), True.intro⟩, ⟨.inl rfl, .inl rfl, .inl rfl, .inl (by rw [renO_str]; rfl), .inl (by rw [renO_str]; rfl), .inl (by rw [renO_str]; rfl), .inl (by rw [renO_str]; rfl), .inl (by rw [renO_mp]; rfl), .inl (by rw [renO_mp]; rfl), .inl (by rw [renO_mp]; rfl), .inl (by rw [renO_mp]; rfl), .inl (by rw [renO_was]; rfl), True.intro⟩, rfl, rfl, rfl⟩
      · exact out _ ⟨⟨rfl, rfl, rfl, rfl, True.intro⟩, ⟨.inl rfl, .inl rfl, .inl rfl, .inl (by rw [renO_str]; rfl), .inl (by rw [renO_str]; rfl), .inl (by rw [renO_str]; rfl), .inl (by rw [renO_str]; rfl), .inl (by rw [renO_mp]; rfl), .inl (by rw [renO_mp]; rfl), .inl (by rw [renO_mp]; rfl), .inl (by rw [renO_mp]; rfl), .inl (by rw [renO_was]; rfl), True.intro⟩, rfl, rfl, rfl⟩
    · exact out _ ⟨⟨rfl, rfl, rfl, rfl, True.intro⟩, ⟨.inl rfl, .inl rfl, .inl rfl, .inl (by rw [renO_str]; rfl), .inl (by rw [renO_str]; rfl), .inl (by rw [renO_str]; rfl), .inl (by rw [renO_str]; rfl), .inl (by rw [renO_mp]; rfl), .inl (by rw [renO_mp]; rfl), .inl (by rw [renO_mp]; rfl), .inl (by rw [renO_mp]; rfl), .inl (by rw [renO_was]; rfl), True.intro⟩, rfl, rfl, rfl⟩
  obtain ⟨w4, i4, k4⟩ := z
  dsimp only
  obtain ⟨o, d0, d1, d2, d3, m0, m1, m2, m3, e4⟩ := tell_4 i4
  rw [e4]
  have c5 := crashW w4 i4.ok (by rw [i4.n]; omega) ps (by omega)
  have i5 := crash_is i4 ps
  have k5 := crash_keep i4 hq4 k4 ps
  refine callT_4 (E := [wasO w3 q 6]) c5 e4 i5 rfl rfl (fun o' x0 x1 x2 x3 y0 y1 y2 y3 e5 => ?_)
  refine loopI (α := { j : Nat // j ≤ 6 }) (fun z => [(2, i64 q), (9, .ptr 0 0), (12, .slc 11 0 6 1), (17, i64 (z.val : Nat))]) (fun z => (Wd.mk o' 6 [x0, x1, x2, x3] [y0, y1, y2, y3]).H ++ [wasO w3 q 6]) (fun z => 6 - z.val) ⟨0, Nat.zero_le 6⟩ [0, 1, 2, 3, 4, 5, 6, 7, 8, 9, 10, 11] ⟨⟨rfl, rfl, rfl, rfl, True.intro⟩, ⟨.inl rfl, .inl rfl, .inl rfl, .inl (by rw [renO_str]; rfl), .inl (by rw [renO_str]; rfl), .inl (by rw [renO_str]; rfl), .inl (by rw [renO_str]; rfl), .inl (by rw [renO_mp]; rfl), .inl (by rw [renO_mp]; rfl), .inl (by rw [renO_mp]; rfl), .inl (by rw [renO_mp]; rfl), .inl (by rw [renO_was]; rfl), True.intro⟩, rfl, rfl, rfl⟩ ?_
  rintro ⟨j, hj⟩ K hK
  dsimp only at hj ⊢
  refine forkD (fun h => ?_) (fun h => ?_)
  · have g : j < 6 := by have : (j : Int) < 6 := h; omega
    have c6 := dryW (w4.crash ps).2 i5.ok q (j : Nat)
    rw [dry_0 (i5.may0.2 (in46 hq4 g)), (k5 j g).1] at c6
    replace c6 : ACalls Try.prog 14 [.ptr 0 0, i64 q, i64 (j : Nat)] (w4.crash ps).2.H (RetH (.tup [str (w3.d q (j : Nat)), i64 0]) (w4.crash ps).2.H) := c6
    refine callU_4 (E := [wasO w3 q 6]) c6 e5 e5 i5 rfl rfl ?_
    refine Ob.intro (show (0 : Int) ≤ (j : Nat) ∧ ((j : Nat) : Int) < (6 : Nat) by omega) ?_
    refine optK_intro (rd_str (R := wasL w3 q 6) (k := j) rfl (by omega) (wasL_get w3 q g)) ?_
    refine fork (fun h => ?_) (fun _ => ?_)
    · rw [strEq_iff.2 rfl] at h
      cases h
    exact hK ⟨j + 1, g⟩ [0, 1, 2, 3, 4, 5, 6, 7, 8, 9, 10, 11] _ (show 6 - j = 6 - (j + 1) + 1 by omega) ⟨⟨rfl, rfl, rfl, congrArg i64 (wincQ (by omega)), True.intro⟩, ⟨.inl rfl, .inl rfl, .inl rfl, .inl (by rw [renO_str]; rfl), .inl (by rw [renO_str]; rfl), .inl (by rw [renO_str]; rfl), .inl (by rw [renO_str]; rfl), .inl (by rw [renO_mp]; rfl), .inl (by rw [renO_mp]; rfl), .inl (by rw [renO_mp]; rfl), .inl (by rw [renO_mp]; rfl), .inl (by rw [renO_was]; rfl), True.intro⟩, rfl, rfl, rfl⟩
  · exact end0 rfl rfl rfl rfl
theorem extentLasts_big (L M : List Xa) (own : Int) (ps : List (Int × Int)) (hp : ¬ ps.length ≤ 100) : ACalls Try.prog 3 [.view L.length (flat xaC L), .view M.length (flat xaC M), i64 own, pkV ps] [] (Ret (bo true)) := by
  refine acalls_of_awp hT mixed Try.func3 rfl (by kernel_rfl) (by kernel_rfl) (Nat.le_of_ble_eq_true rfl) ?_
  refine callP awakeX_ok rfl rfl ?_
  refine forkD (fun _ => ?_) (fun h => ?_)
  · exact end0 rfl rfl rfl rfl
  · exact absurd (show (ps.length : Int) > 100 by omega) h
theorem extentLasts_law (l0 : List AV) (w0 : Wf (.slice (.strct (.cons (.int .i64) (.cons (.int .i64) (.cons (.int .i64) (.cons .str (.cons (.slice (.strct (.cons (.int .i64) (.cons (.int .i64) .none)))) .none))))))) l0) (l1 : List AV) (w1 : Wf (.slice (.strct (.cons (.int .i64) (.cons (.int .i64) (.cons (.int .i64) (.cons .str (.cons (.slice (.strct (.cons (.int .i64) (.cons (.int .i64) .none)))) .none))))))) l1) (l2 : List AV) (w2 : Wf (.int .i64) l2) (l3 : List AV) (w3 : Wf (.slice (.strct (.cons (.int .i64) (.cons (.int .i64) .none)))) l3) : ACalls Try.prog 3 [argA (.slice (.strct (.cons (.int .i64) (.cons (.int .i64) (.cons (.int .i64) (.cons .str (.cons (.slice (.strct (.cons (.int .i64) (.cons (.int .i64) .none)))) .none))))))) l0, argA (.slice (.strct (.cons (.int .i64) (.cons (.int .i64) (.cons (.int .i64) (.cons .str (.cons (.slice (.strct (.cons (.int .i64) (.cons (.int .i64) .none)))) .none))))))) l1, argA (.int .i64) l2, argA (.slice (.strct (.cons (.int .i64) (.cons (.int .i64) .none)))) l3] [] (Ret (.sc (.bool true))) := by
  obtain ⟨L, rfl, _, _⟩ := wf_acts w0
  obtain ⟨M, rfl, _, _⟩ := wf_acts w1
  obtain ⟨own, rfl, _⟩ := w2
  obtain ⟨ps, rfl, _⟩ := wf_picks w3
  by_cases hp : ps.length ≤ 100
  · exact extentLasts_ok L M own ps hp
  · exact extentLasts_big L M own ps hp
end Go.Proofs.Ytpkbdlocmjgmbaa.A
