/- extent: the reference's world, told by its row of sectors: At, Write, Read, Lay, Start, New, Ints. No condition. -/
import Derived.Test.YtpkbdlocmjgmbaaXx
namespace Go.Proofs.Ytpkbdlocmjgmbaa.A
open Go
set_option linter.unusedVariables false
set_option linter.unusedSimpArgs false
set_option maxRecDepth 100000
set_option pp.maxSteps 600
/-! ### Rows of structs: one field is read, some are written -/
theorem setAll_left : ∀ (l A B : List AV) (off : Nat), off + l.length ≤ A.length → setAll (A ++ B) off l = setAll A off l ++ B
  | [], _, _, _, _ => rfl
  | a :: l, A, B, off, h => by
    rw [List.length_cons] at h
    rw [setAll, setAll, List.set_append_left _ _ (by omega), setAll_left l _ B (off + 1) (by rw [List.length_set]; omega)]
theorem setAll_right : ∀ (l A B : List AV) (off : Nat), setAll (A ++ B) (A.length + off) l = A ++ setAll B off l
  | [], _, _, _ => rfl
  | a :: l, A, B, off => by
    rw [setAll, setAll, List.set_append_right _ _ (by omega), show A.length + off - A.length = off by omega, show A.length + off + 1 = A.length + (off + 1) by omega, setAll_right l]
theorem setAll_flat {α : Type} {f : α → List AV} {n : Nat} (hf : ∀ x, (f x).length = n) {y : α} {c : Nat} {l : List AV} (hc : c + l.length ≤ n) : ∀ {L : List α} {i : Nat} {x : α}, L[i]? = some x → f y = setAll (f x) c l → setAll (flat f L) (i * n + c) l = flat f (L.set i y)
  | [], i, x, h, _ => by simp at h
  | z :: L, 0, x, h, hy => by
    simp at h
    subst h
    rw [flat_cons, Nat.zero_mul, Nat.zero_add, setAll_left _ _ _ _ (by rw [hf]; exact hc), List.set_cons_zero, flat_cons, hy]
  | z :: L, i + 1, x, h, hy => by
    rw [flat_cons, show (i + 1) * n + c = (f z).length + (i * n + c) by rw [hf, Nat.add_mul]; omega, setAll_right, setAll_flat hf hc (by simpa using h) hy, List.set_cons_succ, flat_cons]
theorem wr_cellX {α : Type} {f : α → List AV} {n : Nat} (hf : ∀ x, (f x).length = n) {K : Heap → Prop} {H : Heap} {p off : Nat} {L : List α} {i c : Nat} {x : α} {l : List AV} (y : α) (h : nth H p = some (.row (flat f L))) (hx : L[i]? = some x) (ho : off = i * n + c) (hc : c + l.length ≤ n) (hy : f y = setAll (f x) c l) (q : K (H.set p (.row (flat f (L.set i y))))) : optK (wr H p off l) K := by
  subst ho
  have hi := (List.getElem?_eq_some_iff.1 hx).1
  have hm : (i + 1) * n ≤ L.length * n := Nat.mul_le_mul_right _ hi
  rw [Nat.add_mul] at hm
  refine optK_intro (wr_eq h (by rw [flat_len hf]; omega)) ?_
  rw [setAll_flat hf hc hx hy]
  exact q
theorem rd_cellX {α : Type} {f : α → List AV} {n : Nat} (hf : ∀ x, (f x).length = n) {H : Heap} {p off : Nat} {L : List α} {i c : Nat} {x : α} {v : AV} (h : nth H p = some (.row (flat f L))) (hx : L[i]? = some x) (ho : off = i * n + c) (hv : (f x)[c]? = some v) : rd1 H p off = some v := by
  subst ho
  have hlt := (List.getElem?_eq_some_iff.1 hv).1
  unfold rd1
  rw [h]
  simp only
  rw [nth_eq, ← List.getElem?_drop, flat_drop hf L i x hx, List.getElem?_append_left hlt]
  exact hv
/-! ### The reference's world -/
/-- A sector: dry, now, is it wet. -/
abbrev Sx := ByteArray × ByteArray × Bool
def sxC (x : Sx) : List AV := [str x.1, str x.2.1, bo x.2.2]
theorem sxC_len (x : Sx) : (sxC x).length = 3 := rfl
theorem renO_sx (r : Nat → Nat) (S : List Sx) : renO r (.row (flat sxC S)) = .row (flat sxC S) := renO_flat (fun _ _ => rfl) r S
theorem oX {H : Heap} {j : Nat} {r : Nat → Nat} {S : List Sx} {p : Prop} (h : nth H j = some (.row (flat sxC S))) : nth H j = some (renO r (.row (flat sxC S))) ∨ p := .inl (by rw [renO_sx]; exact h)
def rwX (off : Bool) (n sec N : Nat) : List AV := [bo off, i64 (n : Nat), i64 (sec : Nat), .slc 0 0 N 3]
def rH (off : Bool) (n sec N : Nat) (S : List Sx) : Heap := [.row (flat sxC S), .row (rwX off n sec N)]
theorem rH_below (off : Bool) (n sec N : Nat) (S : List Sx) : belowH 2 (rH off n sec N S) = true := by
  unfold rH
  rw [belowH, belowO, belowL_flat (fun _ => rfl)]
  rfl
def ixO (n sec : Nat) (e k : Int) : Int := if inS (sec : Nat) n e k then e * sec + k else -1
theorem refAt_ok (off : Bool) (n sec N : Nat) (hn : n ≤ 1000) (hs : sec ≤ 1000) (e k : Int) : ACalls Try.prog 37 [.vp [bo off, i64 (n : Nat), i64 (sec : Nat), .view N []], i64 e, i64 k] [] (Ret (i64 (ixO n sec e k))) := by
  unfold ixO
  by_cases hin : inS (sec : Nat) n e k
  · rw [if_pos hin]
    obtain ⟨⟨h1, h2⟩, h3, h4⟩ := hin
    have hb : 0 ≤ e * sec ∧ e * sec ≤ 1000000 := ⟨Int.mul_nonneg h1 (by omega), by
      have := Int.mul_le_mul (show e ≤ 1000 by omega) (show (sec : Int) ≤ 1000 by omega) (by omega) (by omega)
      omega⟩
    have hw : wrp .i64 (wrp .i64 (e * sec) + k) = e * sec + k := by
      rw [wrpE, wrpE, wi64, wi64]
      generalize e * (sec : Int) = z at *
      omega
    refine acalls_of_awp hT mixed Try.func37 rfl (by kernel_rfl) (by kernel_rfl) (Nat.le_of_ble_eq_true rfl) ?_
    refine forkD (fun h => absurd h (by omega)) (fun _ => ?_)
    refine forkD (fun h => absurd h (by omega)) (fun _ => ?_)
    refine forkD (fun h => absurd h (by omega)) (fun _ => ?_)
    refine forkD (fun h => absurd h (by omega)) (fun _ => ?_)
    exact end0 rfl rfl rfl (congrArg i64 hw)
  · rw [if_neg hin]
    refine acalls_of_awp hT mixed Try.func37 rfl (by kernel_rfl) (by kernel_rfl) (Nat.le_of_ble_eq_true rfl) ?_
    refine forkD (fun _ => end0 rfl rfl rfl rfl) (fun h1 => ?_)
    refine forkD (fun _ => end0 rfl rfl rfl rfl) (fun h2 => ?_)
    refine forkD (fun _ => end0 rfl rfl rfl rfl) (fun h3 => ?_)
    refine forkD (fun _ => end0 rfl rfl rfl rfl) (fun h4 => absurd ⟨⟨?_, ?_⟩, ?_, ?_⟩ hin)
    all_goals omega
/-- A sector's index. -/
def ixN (sec : Nat) (e k : Int) : Nat := (e * sec + k).toNat
theorem ix_in {n sec : Nat} {e k : Int} (hin : inS (sec : Nat) n e k) : ixO n sec e k = (ixN sec e k : Nat) ∧ ixN sec e k < n * sec := by
  unfold ixO ixN
  rw [if_pos hin]
  obtain ⟨⟨h1, h2⟩, h3, h4⟩ := hin
  have hm : 0 ≤ e * sec := Int.mul_nonneg h1 (by omega)
  refine ⟨by rw [Int.toNat_of_nonneg (by omega)], ?_⟩
  have : (e + 1) * (sec : Int) ≤ (n : Int) * sec := Int.mul_le_mul_of_nonneg_right (by omega) (by omega)
  rw [Int.add_mul] at this
  have h5 : ((n * sec : Nat) : Int) = (n : Int) * sec := by rw [Int.natCast_mul]
  omega
theorem ix_no {n sec : Nat} {e k : Int} (hin : ¬ inS (sec : Nat) n e k) : ixO n sec e k = -1 := if_neg hin
section
variable {off : Bool} {n sec N : Nat} {S : List Sx} {e k : Int} {s : ByteArray} {x : Sx}
theorem refWrite_off : ACalls Try.prog 31 [.ptr 1 0, i64 e, i64 k, str s] (rH true n sec N S) (RetH (i64 6) (rH true n sec N S)) := by
  refine acalls_of_awp hT mixed Try.func31 rfl (by kernel_rfl) (by kernel_rfl) (Nat.le_of_ble_eq_true rfl) ?_
  exact endH rfl rfl rfl ⟨.inl rfl, .inl rfl, True.intro⟩ (Nat.le_refl 2) (rH_below ..) rfl
theorem refWrite_no (hn : n ≤ 1000) (hs : sec ≤ 1000) (hin : ¬ inS (sec : Nat) n e k) : ACalls Try.prog 31 [.ptr 1 0, i64 e, i64 k, str s] (rH false n sec N S) (RetH (i64 1) (rH false n sec N S)) := by
  have ha := refAt_ok false n sec N hn hs e k
  rw [ix_no hin] at ha
  refine acalls_of_awp hT mixed Try.func31 rfl (by kernel_rfl) (by kernel_rfl) (Nat.le_of_ble_eq_true rfl) ?_
  refine callW (cs := rwX false n sec N) (rest := [i64 e, i64 k]) ha rfl rfl rfl ?_
  exact endH rfl rfl rfl ⟨.inl rfl, .inl rfl, True.intro⟩ (Nat.le_refl 2) (rH_below ..) rfl
theorem refWrite_long (hn : n ≤ 1000) (hs : sec ≤ 1000) (hin : inS (sec : Nat) n e k) (hl : 64 < s.size) : ACalls Try.prog 31 [.ptr 1 0, i64 e, i64 k, str s] (rH false n sec N S) (RetH (i64 5) (rH false n sec N S)) := by
  have ha := refAt_ok false n sec N hn hs e k
  rw [(ix_in hin).1] at ha
  refine acalls_of_awp hT mixed Try.func31 rfl (by kernel_rfl) (by kernel_rfl) (Nat.le_of_ble_eq_true rfl) ?_
  refine callW (cs := rwX false n sec N) (rest := [i64 e, i64 k]) ha rfl rfl rfl ?_
  refine forkD (fun _ => ?_) (fun h => absurd (show (64 : Int) < (s.size : Int) by omega) h)
  exact endH rfl rfl rfl ⟨.inl rfl, .inl rfl, True.intro⟩ (Nat.le_refl 2) (rH_below ..) rfl
theorem refWrite_ok (hn : n ≤ 1000) (hs : sec ≤ 1000) (hN : N = n * sec) (hin : inS (sec : Nat) n e k) (hl : s.size ≤ 64) (hx : S[ixN sec e k]? = some x) : ACalls Try.prog 31 [.ptr 1 0, i64 e, i64 k, str s] (rH false n sec N S) (RetH (i64 0) (rH false n sec N (S.set (ixN sec e k) (x.1, s, true)))) := by
  have ha := refAt_ok false n sec N hn hs e k
  have hlt := (ix_in hin).2
  rw [(ix_in hin).1] at ha
  have hS := (List.getElem?_eq_some_iff.1 hx).1
  generalize ixN sec e k = i at *
  have hb : (0 : Int) ≤ (i : Nat) ∧ ((i : Nat) : Int) < (N : Nat) := by omega
  have hx2 : (S.set i (x.1, s, x.2.2))[i]? = some (x.1, s, x.2.2) := List.getElem?_set_self hS
  have e1 : S.set i (x.1, s, true) = (S.set i (x.1, s, x.2.2)).set i (x.1, s, true) := by rw [List.set_set]
  rw [e1]
  refine acalls_of_awp hT mixed Try.func31 rfl (by kernel_rfl) (by kernel_rfl) (Nat.le_of_ble_eq_true rfl) ?_
  refine callW (cs := rwX false n sec N) (rest := [i64 e, i64 k]) ha rfl rfl rfl ?_
  refine forkD (fun h => absurd (show (64 : Int) < (s.size : Int) from h) (by omega)) (fun _ => ?_)
  refine Ob.intro hb ?_
  refine wr_cellX sxC_len (c := 1) (x.1, s, x.2.2) rfl hx (by show 0 + ((i : Nat) : Int).toNat * 3 + 1 = _; omega) (Nat.le_of_ble_eq_true rfl) rfl ?_
  refine Ob.intro hb ?_
  refine wr_cellX sxC_len (c := 2) (x.1, s, true) rfl hx2 (by show 0 + ((i : Nat) : Int).toNat * 3 + 2 = _; omega) (Nat.le_of_ble_eq_true rfl) rfl ?_
  exact endH rfl rfl rfl ⟨.inl rfl, .inl rfl, True.intro⟩ (Nat.le_refl 2) (rH_below ..) rfl
theorem refRead_off : ACalls Try.prog 36 [.ptr 1 0, i64 e, i64 k] (rH true n sec N S) (RetH (.tup [str ByteArray.empty, i64 6]) (rH true n sec N S)) := by
  refine acalls_of_awp hT mixed Try.func36 rfl (by kernel_rfl) (by kernel_rfl) (Nat.le_of_ble_eq_true rfl) ?_
  exact endH rfl rfl rfl ⟨.inl rfl, .inl rfl, True.intro⟩ (Nat.le_refl 2) (rH_below ..) rfl
theorem refRead_no (hn : n ≤ 1000) (hs : sec ≤ 1000) (hin : ¬ inS (sec : Nat) n e k) : ACalls Try.prog 36 [.ptr 1 0, i64 e, i64 k] (rH false n sec N S) (RetH (.tup [str ByteArray.empty, i64 1]) (rH false n sec N S)) := by
  have ha := refAt_ok false n sec N hn hs e k
  rw [ix_no hin] at ha
  refine acalls_of_awp hT mixed Try.func36 rfl (by kernel_rfl) (by kernel_rfl) (Nat.le_of_ble_eq_true rfl) ?_
  refine callW (cs := rwX false n sec N) (rest := [i64 e, i64 k]) ha rfl rfl rfl ?_
  exact endH rfl rfl rfl ⟨.inl rfl, .inl rfl, True.intro⟩ (Nat.le_refl 2) (rH_below ..) rfl
theorem refRead_ok (hn : n ≤ 1000) (hs : sec ≤ 1000) (hN : N = n * sec) (hin : inS (sec : Nat) n e k) (hx : S[ixN sec e k]? = some x) : ACalls Try.prog 36 [.ptr 1 0, i64 e, i64 k] (rH false n sec N S) (RetH (.tup [str x.2.1, i64 0]) (rH false n sec N S)) := by
  have ha := refAt_ok false n sec N hn hs e k
  have hlt := (ix_in hin).2
  rw [(ix_in hin).1] at ha
  generalize ixN sec e k = i at *
  refine acalls_of_awp hT mixed Try.func36 rfl (by kernel_rfl) (by kernel_rfl) (Nat.le_of_ble_eq_true rfl) ?_
  refine callW (cs := rwX false n sec N) (rest := [i64 e, i64 k]) ha rfl rfl rfl ?_
  refine Ob.intro (show (0 : Int) ≤ (i : Nat) ∧ ((i : Nat) : Int) < (N : Nat) by omega) ?_
  refine optK_intro (rd_cellX sxC_len (v := str x.2.1) (c := 1) rfl hx (by show 0 + ((i : Nat) : Int).toNat * 3 + 1 = _; omega) rfl) ?_
  exact endH rfl rfl rfl ⟨.inl rfl, .inl rfl, True.intro⟩ (Nat.le_refl 2) (rH_below ..) rfl
theorem refLay_no (hn : n ≤ 1000) (hs : sec ≤ 1000) (hin : ¬ inS (sec : Nat) n e k) : ACalls Try.prog 35 [.ptr 1 0, i64 e, i64 k, str s] (rH off n sec N S) (RetH (i64 1) (rH off n sec N S)) := by
  have ha := refAt_ok off n sec N hn hs e k
  rw [ix_no hin] at ha
  refine acalls_of_awp hT mixed Try.func35 rfl (by kernel_rfl) (by kernel_rfl) (Nat.le_of_ble_eq_true rfl) ?_
  refine callW (cs := rwX off n sec N) (rest := [i64 e, i64 k]) ha rfl rfl rfl ?_
  exact endH rfl rfl rfl ⟨.inl rfl, .inl rfl, True.intro⟩ (Nat.le_refl 2) (rH_below ..) rfl
theorem refLay_long (hn : n ≤ 1000) (hs : sec ≤ 1000) (hin : inS (sec : Nat) n e k) (hl : 64 < s.size) : ACalls Try.prog 35 [.ptr 1 0, i64 e, i64 k, str s] (rH off n sec N S) (RetH (i64 5) (rH off n sec N S)) := by
  have ha := refAt_ok off n sec N hn hs e k
  rw [(ix_in hin).1] at ha
  refine acalls_of_awp hT mixed Try.func35 rfl (by kernel_rfl) (by kernel_rfl) (Nat.le_of_ble_eq_true rfl) ?_
  refine callW (cs := rwX off n sec N) (rest := [i64 e, i64 k]) ha rfl rfl rfl ?_
  refine forkD (fun _ => ?_) (fun h => absurd (show (64 : Int) < (s.size : Int) by omega) h)
  exact endH rfl rfl rfl ⟨.inl rfl, .inl rfl, True.intro⟩ (Nat.le_refl 2) (rH_below ..) rfl
theorem refLay_ok (hn : n ≤ 1000) (hs : sec ≤ 1000) (hN : N = n * sec) (hin : inS (sec : Nat) n e k) (hl : s.size ≤ 64) (hx : S[ixN sec e k]? = some x) : ACalls Try.prog 35 [.ptr 1 0, i64 e, i64 k, str s] (rH off n sec N S) (RetH (i64 0) (rH off n sec N (S.set (ixN sec e k) (s, s, false)))) := by
  have ha := refAt_ok off n sec N hn hs e k
  have hlt := (ix_in hin).2
  rw [(ix_in hin).1] at ha
  generalize ixN sec e k = i at *
  have hb : (0 : Int) ≤ (i : Nat) ∧ ((i : Nat) : Int) < (N : Nat) := by omega
  refine acalls_of_awp hT mixed Try.func35 rfl (by kernel_rfl) (by kernel_rfl) (Nat.le_of_ble_eq_true rfl) ?_
  refine callW (cs := rwX off n sec N) (rest := [i64 e, i64 k]) ha rfl rfl rfl ?_
  refine forkD (fun h => absurd (show (64 : Int) < (s.size : Int) from h) (by omega)) (fun _ => ?_)
  refine Ob.intro hb ?_
  refine wr_cellX sxC_len (c := 0) (s, s, false) rfl hx (by show 0 + ((i : Nat) : Int).toNat * 3 = _; omega) (Nat.le_of_ble_eq_true rfl) rfl ?_
  exact endH rfl rfl rfl ⟨.inl rfl, .inl rfl, True.intro⟩ (Nat.le_refl 2) (rH_below ..) rfl
theorem refStart_ok : ACalls Try.prog 34 [.ptr 1 0] (rH off n sec N S) (RetH (i64 (if off = true then 0 else 8)) (rH false n sec N S)) := by
  cases off <;>
  · refine acalls_of_awp hT mixed Try.func34 rfl (by kernel_rfl) (by kernel_rfl) (Nat.le_of_ble_eq_true rfl) ?_
    exact endH rfl rfl rfl ⟨.inl rfl, .inl rfl, True.intro⟩ (Nat.le_refl 2) (rH_below ..) rfl
end
end Go.Proofs.Ytpkbdlocmjgmbaa.A
