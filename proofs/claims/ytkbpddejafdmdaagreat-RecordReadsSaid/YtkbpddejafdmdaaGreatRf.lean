/- record: parts that are told. No condition. -/
import Derived.Test.YtkbpddejafdmdaaGreatWr
import Derived.Test.YtkbpddejafdmdaaGreatWq
namespace Go.Proofs.YtkbpddejafdmdaaGreat.A
open Go
set_option linter.unusedVariables false
set_option linter.unusedSimpArgs false
set_option maxRecDepth 100000
set_option pp.maxSteps 400

def wrgV : Value := .iface 109 (.agg #[])
theorem must_yes : ACalls Tryz.prog 30 [bo true] [] (Ret (.tup [])) := by
  refine acalls_of_awp hT mixed Tryz.func30 rfl (by kernel_rfl) (by kernel_rfl) (Nat.le_of_ble_eq_true rfl) ?_
  exact ⟨rfl, [], .tup [], ⟨⟨_, rfl, rfl⟩, True.intro, Nat.zero_le _, rfl⟩, rfl, rfl⟩
theorem must_no : ACalls Tryz.prog 30 [bo false] [] (fun E G => E = .pan wrgV ∧ G = []) := by
  refine acalls_of_awp hT mixed Tryz.func30 rfl (by kernel_rfl) (by kernel_rfl) (Nat.le_of_ble_eq_true rfl) ?_
  exact ⟨rfl, [], True.intro, Nat.zero_le _, rfl, rfl, rfl⟩
/-- A number as an item. -/
def itN (n : Nat) : It := .mk n emp [] []
theorem EndR_itN (n : Nat) : ∀ Y e, EndR Y (.ret (.agg [u64n n, str emp, nilS, nilS])) e → EndR Y (.ret (itA (itN n))) e := EndR_it1 n emp
theorem rNum_ok (n : Nat) (h : n < 9223372036854775808) : ACalls Tryz.prog 33 [i64 (n : Nat)] [] (Ret (itA (itN n))) := by
  have hw : wrp .u64 (n : Int) = ((n : Nat) : Int) := by rw [wrpE, wu64]; omega
  refine ACalls.weakR (R := fun E G => E = .ret (.agg [u64n n, str emp, nilS, nilS]) ∧ G = []) ?_ (by
    rintro E G ⟨rfl, rfl⟩
    exact ⟨_, ⟨rfl, rfl⟩, EndR_itN n⟩)
  refine acalls_of_awp hT mixed Tryz.func33 rfl (by kernel_rfl) (by kernel_rfl) (Nat.le_of_ble_eq_true rfl) ?_
  exact ⟨rfl, [], .agg [u64 (wrp .u64 (n : Int)), str ⟨#[]⟩, nilS, nilS], ⟨⟨_, rfl, rfl⟩, True.intro, Nat.zero_le _, rfl⟩, by rw [hw]; rfl, rfl⟩
theorem tell_ok (s : ByteArray) (l : List It) (b : List Nat) (hn : s.size ≤ 60) (hl : l.length ≤ 1000) (hw : ∀ x ∈ l, WI x) (h : printS (byL s) l = some b) : ACalls Tryz.prog 32 [str s, itsV l] [] (Ret (str (BA b))) := by
  have hp := print_ok s l hn hl hw
  rw [h] at hp
  refine acalls_of_awp hT mixed Tryz.func32 rfl (by kernel_rfl) (by kernel_rfl) (Nat.le_of_ble_eq_true rfl) ?_
  refine callP hp rfl rfl ?_
  refine callP must_yes rfl rfl ?_
  refine end0 rfl rfl rfl rfl
def oneB (n : Int) : Bool := decide (0 ≤ n ∧ n ≤ 7)
structure DdV where
  k : Int
  w : Int
  t : Int
  g : Nat
  m : Bool
def DdV.a (d : DdV) : AV := .agg [i64 d.k, i64 d.w, i64 d.t, u64n d.g, bo d.m]
/-- May it be? -/
def bN : Bool → Nat
  | true => 1
  | false => 0
def doneB (d : DdV) : Bool := decide ((0 ≤ d.w ∧ d.w ≤ 7) ∧ ((d.k = 1 ∧ d.t = 0 ∧ d.g = 0 ∧ bN d.m = 0) ∨ (d.k = 2 ∧ 0 ≤ d.t ∧ d.t ≤ 7 ∧ 1 ≤ d.g ∧ d.g ≤ 16)))
theorem oneW_ok (n : Int) : ACalls Tryz.prog 57 [i64 n] [] (Ret (bo (oneB n))) := by
  refine acalls_of_awp hT mixed Tryz.func57 rfl (by kernel_rfl) (by kernel_rfl) (Nat.le_of_ble_eq_true rfl) ?_
  refine forkD (fun g => ?_) (fun g => ?_)
  · refine forkD (fun u => ?_) (fun u => ?_)
    · refine end0 rfl rfl rfl (congrArg bo (decide_eq_true ?_).symm)
      have g' : n ≥ 0 := g
      have u' : n < 8 := u
      omega
    · refine end0 rfl rfl rfl (congrArg bo (decide_eq_false ?_).symm)
      have u' : ¬ n < 8 := u
      omega
  · refine end0 rfl rfl rfl (congrArg bo (decide_eq_false ?_).symm)
    have g' : ¬ n ≥ 0 := g
    omega
theorem done_ok (d : DdV) : ACalls Tryz.prog 37 [d.a] [] (Ret (bo (doneB d))) := by
  obtain ⟨k, w, t, g, m⟩ := d
  have key : ∀ q : Bool, doneB ⟨k, w, t, g, m⟩ = q → bo q = bo (doneB ⟨k, w, t, g, m⟩) := fun q h => by rw [h]
  have h1 := oneW_ok w
  have h2 := oneW_ok t
  unfold oneB at h1 h2
  by_cases q1 : 0 ≤ w ∧ w ≤ 7
  · rw [decide_eq_true q1] at h1
    by_cases q2 : 0 ≤ t ∧ t ≤ 7
    · rw [decide_eq_true q2] at h2
      cases m <;>
      · refine acalls_of_awp hT mixed Tryz.func37 rfl (by kernel_rfl) (by kernel_rfl) (Nat.le_of_ble_eq_true rfl) ?_
        repeat' (first
          | refine end0 rfl rfl rfl (key _ ?_)
          | refine callP h1 rfl rfl ?_
          | refine callP h2 rfl rfl ?_
          | refine forkD (fun _ => ?_) (fun _ => ?_)
          | refine fork (fun _ => ?_) (fun _ => ?_))
        all_goals clear key
        all_goals (try clear h1)
        all_goals (try clear h2)
        all_goals unfold doneB
        all_goals dsimp only [bN] at *
        all_goals (try simp only [Bool.and_eq_true, Bool.and_eq_false_iff, beq_iff_eq, beq_eq_false_iff_ne, ne_eq, not_true_eq_false, false_or, or_false, true_and, and_true, Bool.true_and, Bool.and_true, beq_self_eq_true, Bool.true_eq_false, Bool.false_eq_true, false_and, and_false] at *)
        all_goals first
          | exact decide_eq_true (by omega)
          | exact decide_eq_false (by omega)
    · rw [decide_eq_false q2] at h2
      cases m <;>
      · refine acalls_of_awp hT mixed Tryz.func37 rfl (by kernel_rfl) (by kernel_rfl) (Nat.le_of_ble_eq_true rfl) ?_
        repeat' (first
          | refine end0 rfl rfl rfl (key _ ?_)
          | refine callP h1 rfl rfl ?_
          | refine callP h2 rfl rfl ?_
          | refine forkD (fun _ => ?_) (fun _ => ?_)
          | refine fork (fun _ => ?_) (fun _ => ?_))
        all_goals clear key
        all_goals (try clear h1)
        all_goals (try clear h2)
        all_goals unfold doneB
        all_goals dsimp only [bN] at *
        all_goals (try simp only [Bool.and_eq_true, Bool.and_eq_false_iff, beq_iff_eq, beq_eq_false_iff_ne, ne_eq, not_true_eq_false, false_or, or_false, true_and, and_true, Bool.true_and, Bool.and_true, beq_self_eq_true, Bool.true_eq_false, Bool.false_eq_true, false_and, and_false] at *)
        all_goals first
          | exact decide_eq_true (by omega)
          | exact decide_eq_false (by omega)
  · rw [decide_eq_false q1] at h1
    by_cases q2 : 0 ≤ t ∧ t ≤ 7
    · rw [decide_eq_true q2] at h2
      cases m <;>
      · refine acalls_of_awp hT mixed Tryz.func37 rfl (by kernel_rfl) (by kernel_rfl) (Nat.le_of_ble_eq_true rfl) ?_
        repeat' (first
          | refine end0 rfl rfl rfl (key _ ?_)
          | refine callP h1 rfl rfl ?_
          | refine callP h2 rfl rfl ?_
          | refine forkD (fun _ => ?_) (fun _ => ?_)
          | refine fork (fun _ => ?_) (fun _ => ?_))
        all_goals clear key
        all_goals (try clear h1)
        all_goals (try clear h2)
        all_goals unfold doneB
        all_goals dsimp only [bN] at *
        all_goals (try simp only [Bool.and_eq_true, Bool.and_eq_false_iff, beq_iff_eq, beq_eq_false_iff_ne, ne_eq, not_true_eq_false, false_or, or_false, true_and, and_true, Bool.true_and, Bool.and_true, beq_self_eq_true, Bool.true_eq_false, Bool.false_eq_true, false_and, and_false] at *)
        all_goals first
          | exact decide_eq_true (by omega)
          | exact decide_eq_false (by omega)
    · rw [decide_eq_false q2] at h2
      cases m <;>
      · refine acalls_of_awp hT mixed Tryz.func37 rfl (by kernel_rfl) (by kernel_rfl) (Nat.le_of_ble_eq_true rfl) ?_
        repeat' (first
          | refine end0 rfl rfl rfl (key _ ?_)
          | refine callP h1 rfl rfl ?_
          | refine callP h2 rfl rfl ?_
          | refine forkD (fun _ => ?_) (fun _ => ?_)
          | refine fork (fun _ => ?_) (fun _ => ?_))
        all_goals clear key
        all_goals (try clear h1)
        all_goals (try clear h2)
        all_goals unfold doneB
        all_goals dsimp only [bN] at *
        all_goals (try simp only [Bool.and_eq_true, Bool.and_eq_false_iff, beq_iff_eq, beq_eq_false_iff_ne, ne_eq, not_true_eq_false, false_or, or_false, true_and, and_true, Bool.true_and, Bool.and_true, beq_self_eq_true, Bool.true_eq_false, Bool.false_eq_true, false_and, and_false] at *)
        all_goals first
          | exact decide_eq_true (by omega)
          | exact decide_eq_false (by omega)
end Go.Proofs.YtkbpddejafdmdaaGreat.A

namespace Go.Proofs.YtkbpddejafdmdaaGreat.A
open Go
set_option linter.unusedVariables false
set_option linter.unusedSimpArgs false
set_option maxRecDepth 100000
set_option pp.maxSteps 400

theorem wi_itN {n : Nat} (h : n < 18446744073709551616) : WI (itN n) := .mk _ _ _ _ h (by decide) (by simp) (by decide) (by decide) (by simp)
theorem emB_itN (n : Nat) : emB n emp [] true false false = true := (emB_k n emp [] true false false).2 ⟨.inl rfl, .inr (strEq_iff.2 rfl), .inr rfl⟩
theorem one_b_N {n : Nat} (h : n ≤ 255) : oneP 98 (itN n) = some [n] := by
  show (if emB n emp [] true false false = true ∧ n ≤ 255 then some [n] else none) = _
  rw [if_pos ⟨emB_itN n, h⟩]
theorem one_n_N (n : Nat) : oneP 110 (itN n) = some (numN n) := by
  show (if emB n emp [] true false false = true then some (numN n) else none) = _
  rw [if_pos (emB_itN n)]
theorem print_bn {a : Nat} (b : Nat) (h : a ≤ 255) : printS [98, 110] [itN a, itN b] = some (a :: numN b) := by
  have h2 : shP [98, 110] = some [(98, false), (110, false)] := by decide
  unfold printS
  rw [h2]
  show cat2 (oneP 98 (itN a)) (cat2 (oneP 110 (itN b)) (some [])) = _
  rw [one_b_N h, one_n_N]
  simp [cat2]
theorem print_g {a w t g q : Nat} (h : a ≤ 255) (hq : q ≤ 255) : printS [98, 110, 110, 110, 98] [itN a, itN w, itN t, itN g, itN q] = some (a :: (numN w ++ (numN t ++ (numN g ++ [q])))) := by
  have h2 : shP [98, 110, 110, 110, 98] = some [(98, false), (110, false), (110, false), (110, false), (98, false)] := by decide
  unfold printS
  rw [h2]
  show cat2 (oneP 98 (itN a)) (cat2 (oneP 110 (itN w)) (cat2 (oneP 110 (itN t)) (cat2 (oneP 110 (itN g)) (cat2 (oneP 98 (itN q)) (some []))))) = _
  rw [one_b_N h, one_b_N hq, one_n_N, one_n_N, one_n_N]
  simp [cat2]
/-- A deed that may be. -/
structure Dd2 where
  mk1 : Bool
  w : Nat
  t : Nat
  g : Nat
  m : Bool
def Dd2.v (d : Dd2) : DdV := match d.mk1 with
  | true => ⟨1, (d.w : Nat), 0, 0, false⟩
  | false => ⟨2, (d.w : Nat), (d.t : Nat), d.g, d.m⟩
def Dd2.B (d : Dd2) : List Nat := match d.mk1 with
  | true => 4 :: numN d.w
  | false => 3 :: (numN d.w ++ (numN d.t ++ (numN d.g ++ [bN d.m])))
def Dd2.ok (d : Dd2) : Prop := d.w ≤ 7 ∧ (d.mk1 = false → d.t ≤ 7 ∧ 1 ≤ d.g ∧ d.g ≤ 16)
end Go.Proofs.YtkbpddejafdmdaaGreat.A

namespace Go.Proofs.YtkbpddejafdmdaaGreat.A
open Go
set_option linter.unusedVariables false
set_option linter.unusedSimpArgs false
set_option maxRecDepth 100000
set_option pp.maxSteps 400

theorem plain_wrg : ∀ u b, AM.pan wrgV false = .pan u b → plain u = true := fun u b h => by cases h; rfl
theorem done_v (d : Dd2) (h : d.ok) : doneB d.v = true := by
  obtain ⟨k, w, t, g, m⟩ := d
  obtain ⟨hw, hg⟩ := h
  dsimp only at hw hg
  cases k with
  | true =>
    unfold doneB Dd2.v
    dsimp only [bN]
    exact decide_eq_true (by omega)
  | false =>
    obtain ⟨ht, hg1, hg2⟩ := hg rfl
    unfold doneB Dd2.v
    dsimp only [bN]
    exact decide_eq_true (by omega)
theorem deed_make (w : Nat) (hw : w ≤ 7) : ACalls Tryz.prog 17 [(DdV.mk 1 (w : Nat) 0 0 false).a] [] (Ret (.tup [str (BA (4 :: numN w)), i64 0])) := by
  have hd := done_ok ⟨1, (w : Nat), 0, 0, false⟩
  rw [show doneB ⟨1, (w : Nat), 0, 0, false⟩ = true from done_v ⟨true, w, 0, 0, false⟩ ⟨hw, fun h => by cases h⟩] at hd
  have n1 := rNum_ok 4 (by decide)
  have n2 := rNum_ok w (by omega)
  have ht := tell_ok ⟨#[98, 110]⟩ [itN 4, itN w] (4 :: numN w) (by decide) (by simp) (fun x hx => by
    simp only [List.mem_cons, List.not_mem_nil, or_false] at hx
    rcases hx with rfl | rfl
    · exact wi_itN (by decide)
    · exact wi_itN (by omega)) (print_bn w (by decide))
  refine acalls_of_awpU [] hT mixed Tryz.func17 rfl (by kernel_rfl) (by kernel_rfl) (Nat.le_of_ble_eq_true rfl) ?_
  refine callP hd rfl rfl ?_
  refine callP must_yes rfl rfl ?_
  refine ⟨[1, 0, 0, 2, 2, 3, 3, 4], [[], [], [1], [0, 1, 2], [0, 1, 2, 3], [0, 1, 2, 3, 4], [0, 1, 2, 3, 4, 5], [0, 1, 2, 3, 4, 5, 6]], [0, 0, 0, 0, 0, 1, 1, 1], [0, 3, 5, 7], [[], [1], [11], [12], [10, 13], [14], [15], [3]], Ob.intro (by kernel_rfl) ?_⟩
  repeat refine same ?_
  refine callP n1 rfl rfl ?_
  repeat refine same ?_
  refine callP n2 rfl rfl ?_
  repeat refine same ?_
  have hcell : ∀ x : It, itsV [itN 4, x] = .view 2 (itC (itN 4) ++ itC x) := fun x => by
    show AV.view 2 (flat itC [itN 4, x]) = _
    simp [flat]
  rw [hcell] at ht
  refine callCut (bs := [str ⟨#[98, 110]⟩, .view 2 (itC (itN 4) ++ itC (itN w))]) 2 rfl ?_
  refine callS ht [] True.intro rfl ?_
  rintro E G ⟨rfl, rfl⟩ _
  refine ⟨_, _, rfl, rfl, ?_⟩
  repeat refine same ?_
  refine acallsD_of_rec hT mixed Tryz.func29 rfl (by kernel_rfl) (by kernel_rfl) rfl rfl rfl (fun u b h => by cases h) (Nat.le_of_ble_eq_true rfl) ?_
  exact ⟨rfl, [.dead, .row [i64 0], .dead], _, ⟨⟨_, rfl, rfl⟩, ⟨.inr rfl, .inl rfl, .inr rfl, True.intro⟩, Nat.le_of_ble_eq_true rfl, rfl⟩, True.intro, [], .tup [str (BA (4 :: numN w)), i64 0], ⟨⟨_, rfl, rfl⟩, True.intro, Nat.zero_le _, rfl⟩, rfl, rfl⟩
end Go.Proofs.YtkbpddejafdmdaaGreat.A

namespace Go.Proofs.YtkbpddejafdmdaaGreat.A
open Go
set_option linter.unusedVariables false
set_option linter.unusedSimpArgs false
set_option maxRecDepth 100000
set_option pp.maxSteps 400

theorem LeL_append : ∀ {a b c d : List AV}, LeL a b → LeL c d → LeL (a ++ c) (b ++ d)
  | [], [], _, _, _, k => k
  | _ :: _, _ :: _, _, _, h, k => ⟨h.1, LeL_append h.2 k⟩
  | [], _ :: _, _, _, h, _ => h.elim
  | _ :: _, [], _, _, h, _ => h.elim
theorem arg2Le {P : Program} {g : FuncId} {s : AV} {n : Nat} {cs ds : List AV} {H : Heap} {R : AEnd → Heap → Prop} (hl : LeL cs ds) (h : ACalls P g [s, .view n ds] H R) : ACalls P g [s, .view n cs] H R :=
  ACalls.weaken h fun X vs hv => by
    match vs, hv with
    | [a, b], hv =>
      simp only [VL, and_true] at hv ⊢
      exact ⟨hv.1, VR_viewLe hl hv.2⟩
/-- An item with neither label nor list. -/
structure Pi where
  n : Nat
  s : ByteArray
def Pi.it (x : Pi) : It := .mk x.n x.s [] []
def Pi.C (x : Pi) : List AV := [u64n x.n, str x.s, nilS, nilS]
theorem LeL_pi : ∀ l : List Pi, LeL (flat Pi.C l) (flat itC (l.map Pi.it))
  | [] => True.intro
  | x :: l => by
    rw [flat_cons, List.map_cons, flat_cons]
    refine LeL_append (show LeL [u64n x.n, str x.s, nilS, nilS] (itC (.mk x.n x.s [] [])) from ⟨fun _ _ h => h, fun _ _ h => h, fun _ _ h => VR_nilView h, fun _ _ h => VR_nilView h, True.intro⟩) (LeL_pi l)
theorem tellR_ok (s : ByteArray) (l : List Pi) (b : List Nat) (hn : s.size ≤ 60) (hl : l.length ≤ 1000) (hw : ∀ x ∈ l, WI x.it) (h : printS (byL s) (l.map Pi.it) = some b) : ACalls Tryz.prog 32 [str s, .view l.length (flat Pi.C l)] [] (Ret (str (BA b))) := by
  have ht := tell_ok s (l.map Pi.it) b hn (by rw [List.length_map]; exact hl) (fun x hx => by
    obtain ⟨y, hy, rfl⟩ := List.mem_map.1 hx
    exact hw y hy) h
  rw [show itsV (l.map Pi.it) = .view l.length (flat itC (l.map Pi.it)) by
    show AV.view (l.map Pi.it).length _ = _
    rw [List.length_map]] at ht
  exact arg2Le (LeL_pi l) ht
/-- A number as an item, its cells plain. -/
def nrA (n : Nat) : AV := .agg [u64n n, str ⟨#[]⟩, nilS, nilS]
theorem rNumR_ok (n : Nat) (h : n < 9223372036854775808) : ACalls Tryz.prog 33 [i64 (n : Nat)] [] (Ret (nrA n)) := by
  have hw : wrp .u64 (n : Int) = ((n : Nat) : Int) := by rw [wrpE, wu64]; omega
  refine acalls_of_awp hT mixed Tryz.func33 rfl (by kernel_rfl) (by kernel_rfl) (Nat.le_of_ble_eq_true rfl) ?_
  exact ⟨rfl, [], .agg [u64 (wrp .u64 (n : Int)), str ⟨#[]⟩, nilS, nilS], ⟨⟨_, rfl, rfl⟩, True.intro, Nat.zero_le _, rfl⟩, by rw [hw]; rfl, rfl⟩
theorem rTruthR_ok (q : Bool) : ACalls Tryz.prog 34 [bo q] [] (Ret (nrA (bN q))) := by
  cases q <;>
  · refine acalls_of_awp hT mixed Tryz.func34 rfl (by kernel_rfl) (by kernel_rfl) (Nat.le_of_ble_eq_true rfl) ?_
    exact ⟨rfl, [], .agg [u64n _, str ⟨#[]⟩, nilS, nilS], ⟨⟨_, rfl, rfl⟩, True.intro, Nat.zero_le _, rfl⟩, rfl, rfl⟩
theorem wi_pi {n : Nat} {s : ByteArray} (h : n < 18446744073709551616) (hs : s.size ≤ 1000000) : WI (Pi.it ⟨n, s⟩) := .mk _ _ _ _ h (by decide) (by simp) hs (by decide) (by simp)
set_option maxHeartbeats 0 in
theorem deed_give (w t g : Nat) (m : Bool) (hw : w ≤ 7) (ht : t ≤ 7) (hg1 : 1 ≤ g) (hg2 : g ≤ 16) : ACalls Tryz.prog 17 [(DdV.mk 2 (w : Nat) (t : Nat) g m).a] [] (Ret (.tup [str (BA (3 :: (numN w ++ (numN t ++ (numN g ++ [bN m]))))), i64 0])) := by
  have hd := done_ok ⟨2, (w : Nat), (t : Nat), g, m⟩
  rw [show doneB ⟨2, (w : Nat), (t : Nat), g, m⟩ = true from done_v ⟨false, w, t, g, m⟩ ⟨hw, fun _ => ⟨ht, hg1, hg2⟩⟩] at hd
  have n1 := rNumR_ok 3 (by decide)
  have n2 := rNumR_ok w (by omega)
  have n3 := rNumR_ok t (by omega)
  have n4 := rTruthR_ok m
  have hb : bN m ≤ 1 := by cases m <;> decide
  have hn := tellR_ok ⟨#[98, 110, 110, 110, 98]⟩ [⟨3, emp⟩, ⟨w, emp⟩, ⟨t, emp⟩, ⟨g, emp⟩, ⟨bN m, emp⟩] _ (by decide) (by simp) (fun x hx => by
      simp only [List.mem_cons, List.not_mem_nil, or_false] at hx
      rcases hx with rfl | rfl | rfl | rfl | rfl
      · exact wi_pi (by decide) (by decide)
      · exact wi_pi (by omega) (by decide)
      · exact wi_pi (by omega) (by decide)
      · exact wi_pi (by omega) (by decide)
      · exact wi_pi (by omega) (by decide)) (print_g (a := 3) (w := w) (t := t) (g := g) (q := bN m) (by decide) (by omega))
  generalize (3 :: (numN w ++ (numN t ++ (numN g ++ [bN m])))) = B at hn ⊢
  cases m <;>
  · refine acalls_of_awpU [] hT mixed Tryz.func17 rfl (by kernel_rfl) (by kernel_rfl) (Nat.le_of_ble_eq_true rfl) ?_
    refine callP hd rfl rfl ?_
    refine callP must_yes rfl rfl ?_
    refine ⟨[1, 0, 0, 2, 0, 0, 3, 0, 0, 0, 0, 0, 4, 4, 5, 5, 6], [[], [], [1], [0, 1, 2], [], [4], [0, 1, 2, 3, 4, 5], [], [7], [7, 8], [], [10], [0, 1, 2, 3, 4, 5, 6, 10, 11], [0, 1, 2, 3, 4, 5, 6, 7, 8, 9, 10, 11, 12], [0, 1, 2, 3, 4, 5, 6, 7, 8, 9, 10, 11, 12, 13], [0, 1, 2, 3, 4, 5, 6, 7, 8, 9, 10, 11, 12, 13, 14], [0, 1, 2, 3, 4, 5, 6, 7, 8, 9, 10, 11, 12, 13, 14, 15]], [0, 0, 0, 0, 0, 0, 0, 0, 0, 0, 0, 0, 0, 0, 1, 1, 1], [0, 3, 6, 12, 14, 16], [[], [1], [17], [18], [1], [20], [21], [1], [23], [24], [1], [26], [27], [16, 19, 22, 25, 28], [29], [30], [3]], Ob.intro (by kernel_rfl) ?_⟩
    repeat refine same ?_
    refine callP n1 rfl rfl ?_
    repeat refine same ?_
    refine callP n2 rfl rfl ?_
    repeat refine same ?_
    refine callP n3 rfl rfl ?_
    repeat refine same ?_
    refine callP n4 rfl rfl ?_
    repeat refine same ?_
    refine callCut (bs := [str ⟨#[98, 110, 110, 110, 98]⟩, .view 5 [u64n 3, str ⟨#[]⟩, nilS, nilS, u64n w, str ⟨#[]⟩, nilS, nilS, u64n t, str ⟨#[]⟩, nilS, nilS, u64n g, str ⟨#[]⟩, nilS, nilS, u64n _, str ⟨#[]⟩, nilS, nilS]]) 2 rfl ?_
    refine callS hn [] True.intro rfl ?_
    rintro E G ⟨rfl, rfl⟩ _
    refine ⟨_, _, rfl, rfl, ?_⟩
    repeat refine same ?_
    refine acallsD_of_rec hT mixed Tryz.func29 rfl (by kernel_rfl) (by kernel_rfl) rfl rfl rfl (fun u b h => by cases h) (Nat.le_of_ble_eq_true rfl) ?_
    exact ⟨rfl, [.dead, .row [i64 0], .dead], _, ⟨⟨_, rfl, rfl⟩, ⟨.inr rfl, .inl rfl, .inr rfl, True.intro⟩, Nat.le_of_ble_eq_true rfl, rfl⟩, True.intro, [], .tup [str (BA B), i64 0], ⟨⟨_, rfl, rfl⟩, True.intro, Nat.zero_le _, rfl⟩, rfl, rfl⟩
theorem deed_ok (d : Dd2) (h : d.ok) : ACalls Tryz.prog 17 [d.v.a] [] (Ret (.tup [str (BA d.B), i64 0])) := by
  obtain ⟨k, w, t, g, m⟩ := d
  obtain ⟨hw, hg⟩ := h
  cases k with
  | true => exact deed_make w hw
  | false =>
    obtain ⟨ht, hg1, hg2⟩ := hg rfl
    exact deed_give w t g m hw ht hg1 hg2
end Go.Proofs.YtkbpddejafdmdaaGreat.A

namespace Go.Proofs.YtkbpddejafdmdaaGreat.A
open Go
set_option linter.unusedVariables false
set_option linter.unusedSimpArgs false
set_option maxRecDepth 100000
set_option pp.maxSteps 400

theorem based0_ok : ACalls Tryz.prog 36 [i64 0, nilS] [] (Ret (bo true)) := by
  refine acalls_of_awp hT mixed Tryz.func36 rfl (by kernel_rfl) (by kernel_rfl) (Nat.le_of_ble_eq_true rfl) ?_
  refine loopI (α := Unit) (fun _ => [(0, i64 0), (1, nilS), (7, nilS), (8, i64 0), (9, i64 0)]) (fun _ => []) (fun _ => 0) () [] ⟨⟨rfl, rfl, rfl, rfl, rfl, True.intro⟩, True.intro, rfl, rfl, rfl⟩ ?_
  intro _ K hK
  refine end0 rfl rfl rfl rfl
theorem base0_ok : ACalls Tryz.prog 16 [i64 0, nilS] [] (Ret (.tup [str (BA [2, 0]), i64 0])) := by
  have n1 := rNum_ok 2 (by decide)
  have n2 := rNum_ok 0 (by decide)
  have hl0 : numN 0 = [0] := numN_lt (by decide)
  have ht := tell_ok ⟨#[98, 110]⟩ [itN 2, itN 0] (2 :: numN 0) (by decide) (by simp) (fun x hx => by
    simp only [List.mem_cons, List.not_mem_nil, or_false] at hx
    rcases hx with rfl | rfl <;> exact wi_itN (by decide)) (print_bn 0 (by decide))
  rw [hl0, show itsV [itN 2, itN 0] = .view 2 (itC (itN 2) ++ itC (itN 0)) from by show AV.view 2 (flat itC _) = _; simp [flat]] at ht
  refine acalls_of_awpU [] hT mixed Tryz.func16 rfl (by kernel_rfl) (by kernel_rfl) (Nat.le_of_ble_eq_true rfl) ?_
  refine callP based0_ok rfl rfl ?_
  refine callP must_yes rfl rfl ?_
  refine callP n1 rfl rfl ?_
  refine callP n2 rfl rfl ?_
  refine callCut (bs := [str ⟨#[98, 110]⟩, .view 2 (itC (itN 2) ++ itC (itN 0))]) 1 rfl ?_
  refine callS ht [] True.intro rfl ?_
  rintro E G ⟨rfl, rfl⟩ _
  refine ⟨_, _, rfl, rfl, ?_⟩
  refine loopG (α := Unit) (fun _ => [(0, i64 0), (1, nilS), (5, .ptr 0 0), (6, str (BA [2, 0])), (18, nilS), (19, i64 0), (20, i64 0)]) (fun _ => [.row [i64 0]]) [⟨29, [], [.ptr 0 0, i64 1]⟩] (fun _ => 0) () [] [0] ⟨⟨rfl, rfl, rfl, rfl, rfl, rfl, rfl, True.intro⟩, ⟨.inl rfl, True.intro⟩, rfl, rfl, rfl⟩ ?_
  intro _ K hK
  refine acallsD_of_rec hT mixed Tryz.func29 rfl (by kernel_rfl) (by kernel_rfl) rfl rfl rfl (fun u b h => by cases h) (Nat.le_of_ble_eq_true rfl) ?_
  exact ⟨rfl, [.row [i64 0]], _, ⟨⟨_, rfl, rfl⟩, ⟨.inl rfl, True.intro⟩, Nat.le_of_ble_eq_true rfl, rfl⟩, True.intro, [], .tup [str (BA [2, 0]), i64 0], ⟨⟨_, rfl, rfl⟩, True.intro, Nat.zero_le _, rfl⟩, rfl, rfl⟩
theorem awakeR_raw (X : ByteArray) (hX : X.size = 2) (hb : ACalls Tryz.prog 16 [i64 0, nilS] [] (Ret (.tup [str X, i64 0]))) : ACalls Tryz.prog 4 [] [] (Ret (bo true)) := by
  refine acalls_of_awp hT mixed Tryz.func4 rfl (by kernel_rfl) (by kernel_rfl) (Nat.le_of_ble_eq_true rfl) ?_
  refine callP hb rfl rfl ?_
  refine fork (fun g => ?_) (fun g => absurd (show (X.size : Int) = 2 by omega) (beq_eq_false_iff_ne.1 g))
  refine end0 rfl rfl rfl rfl
theorem awakeR_ok : ACalls Tryz.prog 4 [] [] (Ret (bo true)) := awakeR_raw (BA [2, 0]) (BA_size _) base0_ok
end Go.Proofs.YtkbpddejafdmdaaGreat.A

namespace Go.Proofs.YtkbpddejafdmdaaGreat.A
open Go
set_option linter.unusedVariables false
set_option linter.unusedSimpArgs false
set_option maxRecDepth 100000
set_option pp.maxSteps 400

def PtR (o : Rs (List It)) (t : ByteArray) : AEnd → Heap → Prop := fun E G =>
  match o with
  | .ok l m => E = .ret (itsV l) ∧ G = [.row [str (rest t m)]]
  | .err _ => E = .pan wrgV ∧ G = [.dead]
theorem part_ok (b t : ByteArray) (hb : b.size ≤ 60) (ht : t.size ≤ 1000000) : ACalls Tryz.prog 42 [.ptr 0 0, str b] [.row [str t]] (PtR (begP (byL b) t) t) := by
  have hc := begin_ok b t hb ht
  cases hp : begP (byL b) t with
  | err e =>
    rw [hp] at hc
    have he := begP_e hp
    refine acalls_of_awp hT mixed Tryz.func42 rfl (by kernel_rfl) (by kernel_rfl) (Nat.le_of_ble_eq_true rfl) ?_
    refine callP hc rfl rfl ?_
    refine fork (fun g => absurd (beq_iff_eq.1 g) (by omega)) (fun g => ?_)
    refine callBad must_no rfl ?_
    exact ⟨rfl, [.dead], ⟨.inr rfl, True.intro⟩, Nat.le_refl 1, rfl, rfl, rfl⟩
  | ok l m =>
    rw [hp] at hc
    have hm := begP_le hp
    have hsl : (0 : Int) ≤ (m : Nat) ∧ ((m : Nat) : Int) ≤ (t.size : Int) ∧ (t.size : Int) ≤ (t.size : Int) := by omega
    refine acalls_of_awp hT mixed Tryz.func42 rfl (by kernel_rfl) (by kernel_rfl) (Nat.le_of_ble_eq_true rfl) ?_
    refine callP hc rfl rfl ?_
    refine callP must_yes rfl rfl ?_
    refine Ob.intro hsl ?_
    exact ⟨rfl, [.row [str (rest t m)]], _, ⟨⟨_, rfl, rfl⟩, ⟨.inl rfl, True.intro⟩, Nat.le_refl 1, rfl⟩, rfl, rfl⟩
theorem small_ok (n : Nat) (s : ByteArray) (l : List Nat) (k : List It) (h : n ≤ 1073741824) : ACalls Tryz.prog 43 [itA (.mk n s l k)] [] (Ret (i64 (n : Nat))) := by
  have hw : wrp .i64 (n : Int) = ((n : Nat) : Int) := by rw [wrpE, wi64]; omega
  refine acalls_of_awp hT mixed Tryz.func43 rfl (by kernel_rfl) (by kernel_rfl) (Nat.le_of_ble_eq_true rfl) ?_
  refine forkD (fun g => ?_) (fun g => absurd (show ((n : Nat) : Int) ≤ 1073741824 by omega) g)
  refine callP must_yes rfl rfl ?_
  refine end0 rfl rfl rfl (congrArg i64 hw)
theorem small_no (n : Nat) (s : ByteArray) (l : List Nat) (k : List It) (h : ¬ n ≤ 1073741824) : ACalls Tryz.prog 43 [itA (.mk n s l k)] [] (fun E G => E = .pan wrgV ∧ G = []) := by
  refine acalls_of_awp hT mixed Tryz.func43 rfl (by kernel_rfl) (by kernel_rfl) (Nat.le_of_ble_eq_true rfl) ?_
  refine forkD (fun g => absurd (show ((n : Nat) : Int) ≤ 1073741824 from g) (by omega)) (fun g => ?_)
  refine callBad must_no rfl ?_
  exact ⟨rfl, [], True.intro, Nat.zero_le _, rfl, rfl, rfl⟩
theorem is_ok (n : Nat) (s : ByteArray) (l : List Nat) (k : List It) (h : n ≤ 1) : ACalls Tryz.prog 45 [itA (.mk n s l k)] [] (Ret (bo (decide (n = 1)))) := by
  refine acalls_of_awp hT mixed Tryz.func45 rfl (by kernel_rfl) (by kernel_rfl) (Nat.le_of_ble_eq_true rfl) ?_
  refine forkD (fun g => ?_) (fun g => absurd (show ((n : Nat) : Int) ≤ 1 by omega) g)
  refine callP must_yes rfl rfl ?_
  refine fork (fun g => ?_) (fun g => ?_)
  · refine end0 rfl rfl rfl (congrArg bo (decide_eq_true ?_).symm)
    have : ((n : Nat) : Int) = 1 := beq_iff_eq.1 g
    omega
  · refine end0 rfl rfl rfl (congrArg bo (decide_eq_false ?_).symm)
    have : ((n : Nat) : Int) ≠ 1 := beq_eq_false_iff_ne.1 g
    omega
theorem is_no (n : Nat) (s : ByteArray) (l : List Nat) (k : List It) (h : ¬ n ≤ 1) : ACalls Tryz.prog 45 [itA (.mk n s l k)] [] (fun E G => E = .pan wrgV ∧ G = []) := by
  refine acalls_of_awp hT mixed Tryz.func45 rfl (by kernel_rfl) (by kernel_rfl) (Nat.le_of_ble_eq_true rfl) ?_
  refine forkD (fun g => absurd (show ((n : Nat) : Int) ≤ 1 from g) (by omega)) (fun g => ?_)
  refine callBad must_no rfl ?_
  exact ⟨rfl, [], True.intro, Nat.zero_le _, rfl, rfl, rfl⟩
theorem begP_length {b : List Nat} {t : ByteArray} {l : List It} {m : Nat} {L : List (Nat × Bool)} (hL : shP b = some L) (h : begP b t = .ok l m) : l.length = L.length := by
  unfold begP at h
  rw [hL] at h
  exact (begN_le (Nat.le_refl _) h).2
theorem sh_bn : shP [98, 110] = some [(98, false), (110, false)] := by decide
/-- A head of a kind: its number, and how many bytes it has. -/
def hdP (kind : Nat) (t : ByteArray) : Option (Nat × Nat) :=
  match begP [98, 110] t with
  | .ok [.mk a _ _ _, .mk b _ _ _] m => if a = kind ∧ b ≤ 1073741824 then some (b, m) else none
  | _ => none
def HdR (o : Option (Nat × Nat)) (t : ByteArray) : AEnd → Heap → Prop := fun E G =>
  match o with
  | some (b, m) => E = .ret (i64 (b : Nat)) ∧ G = [.row [str (rest t m)]]
  | none => E = .pan wrgV ∧ G = [.dead]
theorem head_ok (kind : Nat) (t : ByteArray) (hk : kind ≤ 255) (ht : t.size ≤ 1000000) : ACalls Tryz.prog 40 [.ptr 0 0, i64 (kind : Nat)] [.row [str t]] (HdR (hdP kind t) t) := by
  have hc := part_ok ⟨#[98, 110]⟩ t (by decide) ht
  rw [show byL ⟨#[98, 110]⟩ = [98, 110] from rfl] at hc
  have hwk : wrp .u64 (kind : Int) = ((kind : Nat) : Int) := by rw [wrpE, wu64]; omega
  unfold hdP
  cases hp : begP [98, 110] t with
  | err e =>
    rw [hp] at hc
    refine acalls_of_awp hT mixed Tryz.func40 rfl (by kernel_rfl) (by kernel_rfl) (Nat.le_of_ble_eq_true rfl) ?_
    refine callS hc [0] ⟨.inl rfl, True.intro⟩ rfl ?_
    rintro E G ⟨rfl, rfl⟩ _
    refine ⟨_, _, rfl, rfl, ?_⟩
    exact ⟨rfl, [.dead], ⟨.inl rfl, True.intro⟩, Nat.le_refl 1, rfl, rfl, rfl⟩
  | ok l m =>
    rw [hp] at hc
    have hl := begP_length sh_bn hp
    match l, hl with
    | [.mk a s1 l1 k1, .mk b s2 l2 k2], _ =>
      dsimp only
      have h02 : (0 : Int) ≤ 0 ∧ (0 : Int) < ((2 : Nat) : Int) := by omega
      have h12 : (0 : Int) ≤ 1 ∧ (1 : Int) < ((2 : Nat) : Int) := by omega
      by_cases ha : a = kind
      · by_cases hb : b ≤ 1073741824
        · rw [if_pos ⟨ha, hb⟩]
          have hs := small_ok b s2 l2 k2 hb
          refine acalls_of_awp hT mixed Tryz.func40 rfl (by kernel_rfl) (by kernel_rfl) (Nat.le_of_ble_eq_true rfl) ?_
          refine callS hc [0] ⟨.inl rfl, True.intro⟩ rfl ?_
          rintro E G ⟨rfl, rfl⟩ _
          refine ⟨_, _, rfl, rfl, ?_⟩
          refine Ob.intro h02 ?_
          refine fork (fun g => ?_) (fun g => absurd (show (a : Int) = wrp .u64 (kind : Int) by rw [hwk, ha]) (beq_eq_false_iff_ne.1 g))
          refine callP must_yes rfl rfl ?_
          refine Ob.intro h12 ?_
          refine callP hs rfl rfl ?_
          exact ⟨rfl, [.row [str (rest t m)]], _, ⟨⟨_, rfl, rfl⟩, ⟨.inl rfl, True.intro⟩, Nat.le_refl 1, rfl⟩, rfl, rfl⟩
        · rw [if_neg (fun hh => hb hh.2)]
          have hs := small_no b s2 l2 k2 hb
          refine acalls_of_awp hT mixed Tryz.func40 rfl (by kernel_rfl) (by kernel_rfl) (Nat.le_of_ble_eq_true rfl) ?_
          refine callS hc [0] ⟨.inl rfl, True.intro⟩ rfl ?_
          rintro E G ⟨rfl, rfl⟩ _
          refine ⟨_, _, rfl, rfl, ?_⟩
          refine Ob.intro h02 ?_
          refine fork (fun g => ?_) (fun g => absurd (show (a : Int) = wrp .u64 (kind : Int) by rw [hwk, ha]) (beq_eq_false_iff_ne.1 g))
          refine callP must_yes rfl rfl ?_
          refine Ob.intro h12 ?_
          refine callBad hs rfl ?_
          exact ⟨rfl, [.dead], ⟨.inr rfl, True.intro⟩, Nat.le_refl 1, rfl, rfl, rfl⟩
      · rw [if_neg (fun hh => ha hh.1)]
        refine acalls_of_awp hT mixed Tryz.func40 rfl (by kernel_rfl) (by kernel_rfl) (Nat.le_of_ble_eq_true rfl) ?_
        refine callS hc [0] ⟨.inl rfl, True.intro⟩ rfl ?_
        rintro E G ⟨rfl, rfl⟩ _
        refine ⟨_, _, rfl, rfl, ?_⟩
        refine Ob.intro h02 ?_
        refine fork (fun g => absurd (show a = kind by have : (a : Int) = wrp .u64 (kind : Int) := beq_iff_eq.1 g; rw [hwk] at this; omega) ha) (fun g => ?_)
        refine callBad must_no rfl ?_
        exact ⟨rfl, [.dead], ⟨.inr rfl, True.intro⟩, Nat.le_refl 1, rfl, rfl, rfl⟩
end Go.Proofs.YtkbpddejafdmdaaGreat.A
