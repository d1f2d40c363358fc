/- seglog: what a sector tells; Parts; a log that is not there. No condition. -/
import Derived.Test.YthbncljlclcecaaDoorZf
import Derived.Test.YthbncljlclcecaaDoorYn
namespace Go.Proofs.YthbncljlclcecaaDoor.A
open Go
set_option linter.unusedVariables false
set_option linter.unusedSimpArgs false
set_option maxRecDepth 100000
set_option pp.maxSteps 600
abbrev dlMc1a : List Nat := [0, 0, 0, 0, 1, 0, 0, 0, 0, 2, 0, 2, 2, 2, 2]
abbrev dlMc1b : List (List Nat) := [[], [0], [0, 1], [0, 1, 2], [0, 1, 2, 3], [0, 1, 2], [0, 1, 2, 5], [0, 1, 2, 5, 6], [0, 1, 2, 5, 6, 7], [0, 1, 2, 3, 4, 5, 6, 7, 8], [0, 1, 2], [0, 1, 2, 3, 4, 5, 6, 7, 8, 9, 10], [0, 1, 2, 3, 4, 5, 6, 7, 8, 9, 10, 11], [0, 1, 2, 3, 4, 5, 6, 7, 8, 9, 10, 11, 12], [0, 1, 2, 3, 4, 5, 6, 7, 8, 9, 10, 11, 12, 13]]
abbrev dlMc1c : List Nat := [0, 0, 0, 0, 0, 0, 0, 0, 0, 0, 0, 0, 0, 0, 0]
abbrev dlMc1d : List Nat := [4, 9]
abbrev dlMc1e : List (List Nat) := [[1], [7], [8], [1, 9], [10, 9], [0, 9], [12, 9], [13, 9], [14, 9], [15, 9], [2, 9], [16, 17, 9], [11, 18, 9], [9, 19], [20]]
/-- A stamp. -/
structure S5 where
  g : Nat
  ix : Nat
  l : Nat
  p : Nat
  n : Nat
deriving DecidableEq
def s5C (x : S5) : List AV := [i64 (x.g : Nat), i64 (x.ix : Nat), i64 (x.l : Nat), i64 (x.p : Nat), i64 (x.n : Nat)]
theorem s5C_len (x : S5) : (s5C x).length = 5 := rfl
def s5Z : S5 := ⟨0, 0, 0, 0, 0⟩
def s5of (s : ByteArray) : S5 := ⟨gU s 1 5, gU s 5 7, gU s 7 11, gU s 11 12, gU s 12 13⟩
abbrev Uo := Option (S5 × ByteArray)
/-- What a sector tells. -/
noncomputable def unp (s : ByteArray) : Uo := open Classical in if ∃ m, OkU s m then some (s5of s, s.extract 14 (14 + gU s 13 14)) else none
def stO (o : Uo) : S5 := (o.map (·.1)).getD s5Z
def daO (o : Uo) : ByteArray := (o.map (·.2)).getD emp
def isO (o : Uo) : Bool := o.isSome
theorem unp_no {s : ByteArray} (h : ¬ ∃ m, OkU s m) : unp s = none := if_neg h
theorem unp_yes {s : ByteArray} {m : Nat} (o : OkU s m) : unp s = some (s5of s, s.extract 14 (14 + m)) := by
  unfold unp
  rw [if_pos ⟨m, o⟩, o.hm]
theorem unp_ok (s : ByteArray) : ACalls Tryd.prog 50 [str s] [] (Ret (.tup [.agg (s5C (stO (unp s))), str (daO (unp s)), i64 (if isO (unp s) = true then 0 else 4)])) := by
  rcases unpackU s with ⟨m, o, h⟩ | ⟨hno, h⟩
  · rw [unp_yes o]
    exact h
  · rw [unp_no hno]
    exact h
end Go.Proofs.YthbncljlclcecaaDoor.A

namespace Go.Proofs.YthbncljlclcecaaDoor.A
open Go
set_option linter.unusedVariables false
set_option linter.unusedSimpArgs false
set_option maxRecDepth 100000
set_option pp.maxSteps 600
/-- Texts. -/
def txV (L : List ByteArray) : AV := .view L.length (L.map str)
theorem frz_tx {H : Heap} {i n m : Nat} {L : List ByteArray} (h : nth H i = some (.row (L.map str))) (hn : n = L.length) (hm : Nat.blt i m = false) (k : Nat) : frz H m (k + 2) (.slc i 0 n 1) = some (txV L) := by
  subst hn
  have h1 : rdN H i 0 (L.length * 1) = some (L.map str) := rdN_all h (by rw [List.length_map]; omega)
  have h2 : mapO (frz0 H m (k + 1)) (L.map str) = some (L.map str) := mapO_map (f := frz0 H m (k + 1)) (g := str) (h := str) (fun _ => rfl) L
  simp only [frz, frz0, hm, cond_false, h1, h2]
  rfl
def partsN : Nat → ByteArray → List ByteArray
  | 0, s => [s]
  | k + 1, s => s.extract 0 50 :: partsN k (s.extract 50 s.size)
/-- A text's parts. -/
def partsL (s : ByteArray) : List ByteArray := partsN ((s.size - 1) / 50) s
theorem ext_sz (s : ByteArray) (i j : Nat) (h : j ≤ s.size) : (s.extract i j).size = j - i := by rw [ByteArray.size_extract]; omega
theorem partsL_long {s : ByteArray} (h : 50 < s.size) : partsL s = s.extract 0 50 :: partsL (s.extract 50 s.size) := by
  unfold partsL
  rw [ext_sz s 50 s.size (Nat.le_refl _)]
  obtain ⟨k, hk⟩ : ∃ k, (s.size - 1) / 50 = k + 1 := ⟨(s.size - 1) / 50 - 1, by omega⟩
  rw [hk, show (s.size - 50 - 1) / 50 = k by omega]
  rfl
theorem partsL_short {s : ByteArray} (h : s.size ≤ 50) : partsL s = [s] := by
  unfold partsL
  rw [show (s.size - 1) / 50 = 0 by omega]
  rfl
structure PaS (s0 : ByteArray) where
  L : List ByteArray
  s : ByteArray
  eq : L ++ partsL s = partsL s0
  le : s.size ≤ 100000
  ll : L.length + s.size ≤ 100000
theorem parts_ok (s : ByteArray) (hs : s.size ≤ 100000) : ACalls Tryd.prog 38 [str s] [] (Ret (txV (partsL s))) := by
  refine acalls_of_awp hT mixed Tryd.func38 rfl (by kernel_rfl) (by kernel_rfl) (Nat.le_of_ble_eq_true rfl) ?_
  refine loopG (α := PaS s) (fun z => [(0, str z.s), (3, .slc 0 0 z.L.length 1)]) (fun z => [.row (z.L.map str)]) [] (fun z => (z.s.size - 1) / 50) (PaS.mk [] s rfl hs (by rw [List.length_nil]; omega)) [.at_ 3 1] [0] ⟨⟨rfl, rfl, True.intro⟩, ⟨.inl rfl, True.intro⟩, rfl, rfl, rfl⟩ ?_
  rintro ⟨L, t, eq, le, ll⟩ K hK
  dsimp only at eq le ll ⊢
  refine forkD (fun h => ?_) (fun h => ?_)
  · have g : 50 < t.size := by have : (50 : Int) < (t.size : Int) := h; omega
    have h1 : (0 : Int) ≤ 0 ∧ (0 : Int) ≤ 50 ∧ (50 : Int) ≤ (t.size : Int) := by omega
    refine Ob.intro (by constructor <;> omega) ?_
    refine Ob.intro rfl ?_
    refine optK_intro (a := L.map str) ?_ ?_
    · exact rdN_all rfl (by rw [List.length_map]; omega)
    refine Ob.intro (show (L.length + 1) * 16 ≤ 140737488355328 ∧ L.length + 1 ≤ 9223372036854775807 by omega) ?_
    refine Ob.intro (by constructor <;> omega) ?_
    have hes : (t.extract 50 t.size).size = t.size - 50 := ext_sz t 50 t.size (Nat.le_refl _)
    refine hK (PaS.mk (L ++ [t.extract 0 50]) (t.extract 50 t.size) (by rw [List.append_assoc, ← eq, partsL_long g]; rfl) (by omega) (by rw [List.length_append, List.length_singleton]; omega)) [] [2] _ (by dsimp only; rw [hes]; omega) ⟨⟨rfl, ?_, True.intro⟩, ⟨.inl ?_, True.intro⟩, rfl, rfl, rfl⟩
    · dsimp only
      rw [List.length_append]
      rfl
    · rw [renO_str, List.map_append]
      rfl
  · have g : t.size ≤ 50 := by have : ¬ (50 : Int) < (t.size : Int) := h; omega
    refine Ob.intro rfl ?_
    refine optK_intro (a := L.map str) ?_ ?_
    · exact rdN_all rfl (by rw [List.length_map]; omega)
    refine Ob.intro (show (L.length + 1) * 16 ≤ 140737488355328 ∧ L.length + 1 ≤ 9223372036854775807 by omega) ?_
    have e2 : partsL s = L ++ [t] := by rw [← eq, partsL_short g]
    rw [e2]
    refine endH rfl rfl (frz_tx (L := L ++ [t]) (by rw [List.map_append]; rfl) (by rw [List.length_append]; rfl) rfl 6) True.intro (Nat.le_refl 0) rfl rfl
end Go.Proofs.YthbncljlclcecaaDoor.A

namespace Go.Proofs.YthbncljlclcecaaDoor.A
open Go
set_option linter.unusedVariables false
set_option linter.unusedSimpArgs false
set_option maxRecDepth 100000
set_option pp.maxSteps 600
/-- A cell, told without objects; a pointer is known to be one. -/
def weakD : AV → AV
  | .ptr _ _ => .vp []
  | a => weakC a
theorem weakD_ok {X Y : Ctx} (a : AV) (v : Value) (h : VR X a v) : VR Y (weakD a) v := by
  cases a with
  | ptr i off =>
    simp only [VR] at h
    obtain ⟨b, _, rfl⟩ := h
    exact ⟨_, rfl, rfl, by simp [VC]⟩
  | _ => exact weakC_ok _ _ h
/-- A call that reads two rows alone: an object's, and that to which its first cell points. -/
theorem callL {P : Program} {g : FuncId} {cs ws rest : List AV} {v : AV} {H : Heap} {p p0 : Nat} {K : AV → Heap → Prop} {Kp : Value → Heap → Prop} (h : ACalls P g (.vp (.vp (ws.map weakC) :: cs.map weakD) :: rest) [] (Ret v)) (hp : nth H p = some (.row (.ptr p0 0 :: cs))) (hp0 : nth H p0 = some (.row ws)) (hr : belowL 0 rest = true) (hc : closedV v = true) (k : K v H) :
    ACalls P g (.ptr p 0 :: rest) H (panK K Kp) := by
  intro X vs hrX hv
  have hX : HR (X.frozen H 0) [] := HR.frozen hrX (H' := []) True.intro rfl
  rw [nth_eq] at hp hp0
  have hva : VL (X.frozen H 0) (.vp (.vp (ws.map weakC) :: cs.map weakD) :: rest) vs.toList := by
    obtain ⟨l⟩ := vs
    match l, hv with
    | x :: xs, hv =>
      simp only [VL] at hv ⊢
      refine ⟨?_, VL.mono (Le.cut_frozen X H 0) _ _ (VL.cut rest xs hr hv.2)⟩
      have h1 := hv.1
      simp only [VR] at h1 ⊢
      obtain ⟨b, hb, rfl⟩ := h1
      refine ⟨_, rfl, rfl, VC.of_get rfl ?_ fun i c hcx => ?_⟩
      · exact Or.inr ⟨p, b, Nat.zero_le _, ⟨_, hp, rfl⟩, hb, rfl⟩
      cases i with
      | zero =>
        have hcx : VR (X.frozen H 0).nof (.vp (ws.map weakC)) = VR (X.frozen H 0).nof c := by
          rw [List.getElem?_cons_zero] at hcx
          rw [Option.some.inj hcx]
        obtain ⟨u, h4, h5⟩ := row_get hrX hp hb (List.getElem?_cons_zero)
        refine ⟨u, by simpa [Ctx.frozen] using h4, ?_⟩
        rw [← hcx]
        simp only [VR] at h5 ⊢
        obtain ⟨b0, hb0, rfl⟩ := h5
        refine ⟨_, rfl, rfl, VC.of_get rfl ?_ fun i c hcx => ?_⟩
        · exact Or.inr ⟨p0, b0, Nat.zero_le _, ⟨_, hp0, rfl⟩, hb0, rfl⟩
        · rw [List.getElem?_map] at hcx
          obtain ⟨c0, h3, rfl⟩ := Option.map_eq_some_iff.1 hcx
          obtain ⟨u, h4, h5⟩ := row_get hrX hp0 hb0 h3
          exact ⟨u, by simpa [Ctx.frozen, Ctx.nof] using h4, weakC_ok _ _ h5⟩
      | succ i =>
        rw [List.getElem?_cons_succ, List.getElem?_map] at hcx
        obtain ⟨c0, h3, rfl⟩ := Option.map_eq_some_iff.1 hcx
        obtain ⟨u, h4, h5⟩ := row_get hrX hp hb (k := i + 1) (by rw [List.getElem?_cons_succ]; exact h3)
        exact ⟨u, by simpa [Ctx.frozen] using h4, weakD_ok _ _ h5⟩
  refine (h (X.frozen H 0) vs hX hva).mono ?_
  rintro e w' ⟨E, H', Y, ⟨rfl, rfl⟩, rfl, hE, hrY, hext, hφ, hle⟩
  have hold : ∀ b, b < X.w.heap.size → Y.w.heap[b]? = X.w.heap[b]? := fun b hb => hext.keep b hb (fun ⟨i, a, hl, _⟩ => by
    obtain ⟨o, h1, _⟩ := hl
    simp at h1)
  have hleX : Le X ⟨X.φ, X.F, Y.w⟩ := ⟨fun _ _ h => h, fun _ h => h, fun b hb => hold b (hrX.fl b hb), hext.shape⟩
  refine ⟨.ret v, H, ⟨X.φ, X.F, Y.w⟩, k, rfl, ?_, ⟨?_, ?_, ?_, hrX.sep, hrX.fz, ?_⟩, ⟨hext.size, fun b hb _ => hold b hb, hext.shape, fun b ho => .inl ho, fun _ h => h, fun _ h => .inl h, hext.os, hext.tape, hext.output⟩, fun _ _ => rfl, Nat.le_refl _⟩
  · cases e with
    | returned u => exact VR.closed v u hc hE
    | panicked _ => exact hE.elim
    | outgrown => exact hE.elim
  · intro i b hb
    obtain ⟨h1, h2, h3⟩ := hrX.lt i b hb
    exact ⟨h1, h2, Nat.lt_of_lt_of_le h3 hext.size⟩
  · intro i cs b hi hb
    exact (hrX.row i cs b hi hb).mono hleX (hold _ (hrX.lt i b hb).2.2)
  · intro i es b hi hb
    exact (hrX.mp i es b hi hb).mono hleX (hold _ (hrX.lt i b hb).2.2)
  · intro b hb
    exact Nat.lt_of_lt_of_le (hrX.fl b hb) hext.size
/-- A log's numbers. -/
structure Lg where
  first : Nat
  at_ : Nat
  gen : Nat
  used : Nat
  life : Nat
/-- A log's row behind its world. -/
def lgC (G : Lg) (wr : AV) : List AV := [i64 (G.first : Nat), i64 (G.at_ : Nat), i64 (G.gen : Nat), i64 (G.used : Nat), i64 (G.life : Nat), wr]
/-- Does it write? -/
def wrP (b : Bool) : AV := if b = true then .vp [] else .sc (.pointer none)
section
variable {off b : Bool} {sec n : Nat} {G : Lg}
theorem used_ok : ACalls Tryd.prog 16 [.vp (.vp [bo off, i64 (sec : Nat), .view n [], .view n []] :: lgC G (wrP b))] [] (Ret (i64 (G.used : Nat))) := by
  refine acalls_of_awp hT mixed Tryd.func16 rfl (by kernel_rfl) (by kernel_rfl) (Nat.le_of_ble_eq_true rfl) ?_
  exact end0 rfl rfl rfl rfl
theorem busy_ok : ACalls Tryd.prog 17 [.vp (.vp [bo off, i64 (sec : Nat), .view n [], .view n []] :: lgC G (wrP b))] [] (Ret (bo b)) := by
  cases b <;>
  · refine acalls_of_awp hT mixed Tryd.func17 rfl (by kernel_rfl) (by kernel_rfl) (Nat.le_of_ble_eq_true rfl) ?_
    exact end0 rfl rfl rfl rfl
/-- Do so many bytes fit behind so many sectors? -/
def fitB (sec : Nat) (k : Int) (u : Nat) : Bool := decide (0 ≤ k ∧ countP k ≤ (sec : Int) - u)
theorem fits_ok (k : Int) (u : Nat) (hk : -9223372036854775808 ≤ k ∧ k ≤ 9223372036854775807) (hs : sec ≤ 1000) (hu : u ≤ 1000000) : ACalls Tryd.prog 39 [.vp (.vp [bo off, i64 (sec : Nat), .view n [], .view n []] :: lgC G (wrP b)), i64 k, i64 (u : Nat)] [] (Ret (bo (fitB sec k u))) := by
  have hc := count_ok k hk.1 hk.2
  have hsec := secs_ok off (sec : Nat) n
  have hw : wrp .i64 ((sec : Int) - (u : Int)) = (sec : Int) - u := by rw [wrpE, wi64]; omega
  unfold fitB
  generalize countP k = c at *
  by_cases h0 : 0 ≤ k
  · by_cases h1 : c ≤ (sec : Int) - u
    · rw [decide_eq_true ⟨h0, h1⟩]
      refine acalls_of_awp hT mixed Tryd.func39 rfl (by kernel_rfl) (by kernel_rfl) (Nat.le_of_ble_eq_true rfl) ?_
      refine ⟨dlMc1a, dlMc1b, dlMc1c, dlMc1d, dlMc1e, Ob.intro (by kernel_rfl) ?_⟩
      refine forkD (fun _ => ?_) (fun h => absurd h0 h)
      repeat refine same ?_
      refine callP hc rfl rfl ?_
      repeat refine same ?_
      refine callP hsec rfl rfl ?_
      refine forkD (fun _ => ?_) (fun h => ?_)
      · repeat refine same ?_
        exact end0 rfl rfl rfl rfl
      · rw [hw] at h
        exact absurd h1 h
    · rw [decide_eq_false (fun h => h1 h.2)]
      refine acalls_of_awp hT mixed Tryd.func39 rfl (by kernel_rfl) (by kernel_rfl) (Nat.le_of_ble_eq_true rfl) ?_
      refine ⟨dlMc1a, dlMc1b, dlMc1c, dlMc1d, dlMc1e, Ob.intro (by kernel_rfl) ?_⟩
      refine forkD (fun _ => ?_) (fun h => absurd h0 h)
      repeat refine same ?_
      refine callP hc rfl rfl ?_
      repeat refine same ?_
      refine callP hsec rfl rfl ?_
      refine forkD (fun h => ?_) (fun _ => ?_)
      · rw [hw] at h
        exact absurd h h1
      · repeat refine same ?_
        exact end0 rfl rfl rfl rfl
  · rw [decide_eq_false (fun h => h0 h.1)]
    refine acalls_of_awp hT mixed Tryd.func39 rfl (by kernel_rfl) (by kernel_rfl) (Nat.le_of_ble_eq_true rfl) ?_
    refine ⟨dlMc1a, dlMc1b, dlMc1c, dlMc1d, dlMc1e, Ob.intro (by kernel_rfl) ?_⟩
    refine forkD (fun h => absurd h h0) (fun _ => ?_)
    repeat refine same ?_
    exact end0 rfl rfl rfl rfl
end
theorem usedN_ok : ACalls Tryd.prog 16 [.sc (.pointer none)] [] (Ret (i64 0)) := by
  refine acalls_of_awp hT mixed Tryd.func16 rfl (by kernel_rfl) (by kernel_rfl) (Nat.le_of_ble_eq_true rfl) ?_
  exact end0 rfl rfl rfl rfl
theorem genN_ok : ACalls Tryd.prog 15 [.sc (.pointer none)] [] (Ret (i64 0)) := by
  refine acalls_of_awp hT mixed Tryd.func15 rfl (by kernel_rfl) (by kernel_rfl) (Nat.le_of_ble_eq_true rfl) ?_
  exact end0 rfl rfl rfl rfl
theorem busyN_ok : ACalls Tryd.prog 17 [.sc (.pointer none)] [] (Ret (bo false)) := by
  refine acalls_of_awp hT mixed Tryd.func17 rfl (by kernel_rfl) (by kernel_rfl) (Nat.le_of_ble_eq_true rfl) ?_
  exact end0 rfl rfl rfl rfl
theorem roomN_ok (k : Int) : ACalls Tryd.prog 22 [.sc (.pointer none), i64 k] [] (Ret (bo false)) := by
  refine acalls_of_awp hT mixed Tryd.func22 rfl (by kernel_rfl) (by kernel_rfl) (Nat.le_of_ble_eq_true rfl) ?_
  exact end0 rfl rfl rfl rfl
theorem recordN_ok (s : ByteArray) : ACalls Tryd.prog 18 [.sc (.pointer none), str s] [] (Ret (.tup [.sc (.pointer none), i64 2])) := by
  refine acalls_of_awp hT mixed Tryd.func18 rfl (by kernel_rfl) (by kernel_rfl) (Nat.le_of_ble_eq_true rfl) ?_
  exact end0 rfl rfl rfl rfl
theorem baseN_ok (s : ByteArray) : ACalls Tryd.prog 19 [.sc (.pointer none), str s] [] (Ret (.tup [.sc (.pointer none), i64 2])) := by
  refine acalls_of_awp hT mixed Tryd.func19 rfl (by kernel_rfl) (by kernel_rfl) (Nat.le_of_ble_eq_true rfl) ?_
  exact end0 rfl rfl rfl rfl
theorem moveN_ok : ACalls Tryd.prog 20 [.sc (.pointer none)] [] (Ret (.tup [i64 0, i64 2])) := by
  refine acalls_of_awp hT mixed Tryd.func20 rfl (by kernel_rfl) (by kernel_rfl) (Nat.le_of_ble_eq_true rfl) ?_
  exact end0 rfl rfl rfl rfl
theorem openN_ok (first : Int) : ACalls Tryd.prog 12 [.sc (.pointer none), i64 first] [] (Ret (.tup [.sc (.pointer none), nilS, i64 2])) := by
  refine acalls_of_awp hT mixed Tryd.func12 rfl (by kernel_rfl) (by kernel_rfl) (Nat.le_of_ble_eq_true rfl) ?_
  exact end0 rfl rfl rfl rfl
/-! ### Open's refusals: told by the world's row -/
theorem openV_off (sec n : Nat) (first : Int) : ACalls Tryd.prog 12 [.vp [bo true, i64 (sec : Nat), .view n [], .view n []], i64 first] [] (Ret (.tup [.sc (.pointer none), nilS, i64 6])) := by
  refine acalls_of_awp hT mixed Tryd.func12 rfl (by kernel_rfl) (by kernel_rfl) (Nat.le_of_ble_eq_true rfl) ?_
  refine callP (on_ok true (sec : Nat) n) rfl rfl ?_
  exact end0 rfl rfl rfl rfl
theorem openV_arg (sec n : Nat) (hn : n ≤ 1000) (first : Int) (h : ¬ (0 ≤ first ∧ first < (n : Int) - 1)) : ACalls Tryd.prog 12 [.vp [bo false, i64 (sec : Nat), .view n [], .view n []], i64 first] [] (Ret (.tup [.sc (.pointer none), nilS, i64 1])) := by
  have hw : wrp .i64 ((n : Int) - 1) = (n : Int) - 1 := by rw [wrpE, wi64]; omega
  refine acalls_of_awp hT mixed Tryd.func12 rfl (by kernel_rfl) (by kernel_rfl) (Nat.le_of_ble_eq_true rfl) ?_
  refine callP (on_ok false (sec : Nat) n) rfl rfl ?_
  refine forkD (fun _ => end0 rfl rfl rfl rfl) (fun h1 => ?_)
  refine callP (exts_ok false (sec : Nat) n) rfl rfl ?_
  refine forkD (fun _ => end0 rfl rfl rfl rfl) (fun h2 => ?_)
  rw [hw] at h2
  exact absurd ⟨by omega, by omega⟩ h
end Go.Proofs.YthbncljlclcecaaDoor.A
