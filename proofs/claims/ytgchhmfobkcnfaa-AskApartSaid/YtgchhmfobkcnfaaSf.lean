/- ask: parts that are told. No condition. -/
import Derived.Test.YtgchhmfobkcnfaaWx
import Derived.Test.YtgchhmfobkcnfaaWy
import Derived.Test.YtgchhmfobkcnfaaVe
namespace Go.Proofs.Ytgchhmfobkcnfaa.A
open Go
set_option linter.unusedVariables false
set_option linter.unusedSimpArgs false
set_option maxRecDepth 100000
set_option pp.maxSteps 400

def sbadV : Value := .iface 94 (.agg #[])
theorem smust_yes : ACalls Try.prog 19 [bo true] [] (Ret (.tup [])) := by
  refine acalls_of_awp hT mixed Try.func19 rfl (by kernel_rfl) (by kernel_rfl) (Nat.le_of_ble_eq_true rfl) ?_
  exact ⟨rfl, [], .tup [], ⟨⟨_, rfl, rfl⟩, True.intro, Nat.zero_le _, rfl⟩, rfl, rfl⟩
theorem smust_no : ACalls Try.prog 19 [bo false] [] (fun E G => E = .pan sbadV ∧ G = []) := by
  refine acalls_of_awp hT mixed Try.func19 rfl (by kernel_rfl) (by kernel_rfl) (Nat.le_of_ble_eq_true rfl) ?_
  exact ⟨rfl, [], True.intro, Nat.zero_le _, rfl, rfl, rfl⟩
theorem splain : ∀ u b, AM.pan sbadV false = .pan u b → plain u = true := fun u b h => by cases h; rfl
theorem VL_le {X : Ctx} : ∀ {cs ds : List AV} {vs : List Value}, LeL cs ds → VL X cs vs → VL X ds vs
  | [], [], _, _, h => h
  | c :: cs, d :: ds, [], _, h => by simp [VL] at h
  | c :: cs, d :: ds, v :: vs, hl, h => by
    simp only [VL] at h ⊢
    exact ⟨hl.1 _ _ h.1, VL_le hl.2 h.2⟩
  | [], d :: ds, _, hl, _ => hl.elim
  | c :: cs, [], _, hl, _ => hl.elim
theorem VR_agLe {X : Ctx} {cs ds : List AV} (hl : LeL cs ds) {v : Value} (h : VR X (.agg cs) v) : VR X (.agg ds) v := VR_aggLe (fun _ k => VL_le hl k) h
theorem LeL_refl : ∀ l : List AV, LeL l l
  | [] => True.intro
  | _ :: l => ⟨fun _ _ h => h, LeL_refl l⟩
theorem LeL_append : ∀ {a b c d : List AV}, LeL a b → LeL c d → LeL (a ++ c) (b ++ d)
  | [], [], _, _, _, k => k
  | _ :: _, _ :: _, _, _, h, k => ⟨h.1, LeL_append h.2 k⟩
  | [], _ :: _, _, _, h, _ => h.elim
  | _ :: _, [], _, _, h, _ => h.elim
theorem arg2Le {P : Program} {g : FuncId} {s : AV} {n : Nat} {cs ds : List AV} {H : Heap} {R : AEnd → Heap → Prop} (hl : LeL cs ds) (h : ACalls P g [s, .view n ds] H R) : ACalls P g [s, .view n cs] H R :=
  ACalls.weaken h fun X vs hv => by
    match vs, hv with
    | [a, b], hv =>
      simp only [VL, and_true] at hv ⊢
      exact ⟨hv.1, VR_viewLe hl hv.2⟩
theorem argsLe {P : Program} {g : FuncId} {cs ds : List AV} {H : Heap} {R : AEnd → Heap → Prop} (hl : LeL cs ds) (h : ACalls P g ds H R) : ACalls P g cs H R :=
  ACalls.weaken h fun X vs hv => VL_le hl hv
/-- An item with no list. -/
structure Pi where
  n : Nat
  s : ByteArray
def Pi.it (x : Pi) : It := .mk x.n x.s [] []
def Pi.C (x : Pi) : List AV := [u64n x.n, str x.s, nilS, nilS]
theorem LeL_pi : ∀ l : List Pi, LeL (flat Pi.C l) (flat itC (l.map Pi.it))
  | [] => True.intro
  | x :: l => by
    rw [flat_cons, List.map_cons, flat_cons]
    refine LeL_append (show LeL [u64n x.n, str x.s, nilS, nilS] (itC (.mk x.n x.s [] [])) from ⟨fun _ _ h => h, fun _ _ h => h, fun _ _ h => VR_nilView h, fun _ _ h => VR_nilView h, True.intro⟩) (LeL_pi l)
theorem stell_ok (s : ByteArray) (l : List It) (b : List Nat) (hn : s.size ≤ 60) (hl : l.length ≤ 1000) (hw : ∀ x ∈ l, WI x) (h : printS (byL s) l = some b) : ACalls Try.prog 20 [str s, itsV l] [] (Ret (str (BA b))) := by
  have hp := print_ok s l hn hl hw
  rw [h] at hp
  refine acalls_of_awp hT mixed Try.func20 rfl (by kernel_rfl) (by kernel_rfl) (Nat.le_of_ble_eq_true rfl) ?_
  refine callP hp rfl rfl ?_
  refine callP smust_yes rfl rfl ?_
  refine end0 rfl rfl rfl rfl
theorem stellR_ok (s : ByteArray) (l : List Pi) (b : List Nat) (hn : s.size ≤ 60) (hl : l.length ≤ 1000) (hw : ∀ x ∈ l, WI x.it) (h : printS (byL s) (l.map Pi.it) = some b) : ACalls Try.prog 20 [str s, .view l.length (flat Pi.C l)] [] (Ret (str (BA b))) := by
  have ht := stell_ok s (l.map Pi.it) b hn (by rw [List.length_map]; exact hl) (fun x hx => by
    obtain ⟨y, hy, rfl⟩ := List.mem_map.1 hx
    exact hw y hy) h
  rw [show itsV (l.map Pi.it) = .view l.length (flat itC (l.map Pi.it)) by
    show AV.view (l.map Pi.it).length _ = _
    rw [List.length_map]] at ht
  exact arg2Le (LeL_pi l) ht
/-- An item that is a number, its cells plain. -/
def nrA (n : Nat) : AV := .agg [u64n n, str ⟨#[]⟩, nilS, nilS]
def txA (s : ByteArray) : AV := .agg [u64 0, str s, nilS, nilS]
def bN : Bool → Nat
  | true => 1
  | false => 0
theorem bN_le (g : Bool) : bN g ≤ 1 := by cases g <;> decide
theorem num_w {n : Nat} (h : n < 9223372036854775808) : wrp .u64 ((n : Nat) : Int) = ((n : Nat) : Int) := by rw [wrpE, wu64]; omega
theorem sNum_ok (n : Nat) (h : n < 9223372036854775808) : ACalls Try.prog 21 [i64 (n : Nat)] [] (Ret (nrA n)) := by
  have hw := num_w h
  refine acalls_of_awp hT mixed Try.func21 rfl (by kernel_rfl) (by kernel_rfl) (Nat.le_of_ble_eq_true rfl) ?_
  exact ⟨rfl, [], .agg [u64 (wrp .u64 (n : Int)), str ⟨#[]⟩, nilS, nilS], ⟨⟨_, rfl, rfl⟩, True.intro, Nat.zero_le _, rfl⟩, by rw [hw]; rfl, rfl⟩
theorem sTruth_ok (q : Bool) : ACalls Try.prog 45 [bo q] [] (Ret (nrA (bN q))) := by
  cases q <;>
  · refine acalls_of_awp hT mixed Try.func45 rfl (by kernel_rfl) (by kernel_rfl) (Nat.le_of_ble_eq_true rfl) ?_
    exact ⟨rfl, [], .agg [u64n _, str ⟨#[]⟩, nilS, nilS], ⟨⟨_, rfl, rfl⟩, True.intro, Nat.zero_le _, rfl⟩, rfl, rfl⟩
theorem sText_ok (s : ByteArray) : ACalls Try.prog 47 [str s] [] (Ret (txA s)) := by
  refine acalls_of_awp hT mixed Try.func47 rfl (by kernel_rfl) (by kernel_rfl) (Nat.le_of_ble_eq_true rfl) ?_
  exact ⟨rfl, [], .agg [u64 0, str s, nilS, nilS], ⟨⟨_, rfl, rfl⟩, True.intro, Nat.zero_le _, rfl⟩, rfl, rfl⟩
theorem svpack_q {n : Bool} {t : ByteArray} {b : Nat} (hb : b < 18446744073709551616) (h : rightV n t b = true) : ACalls Try.prog 71 [.agg [bo n, str t, u64n b]] [] (Ret (.tup [str (packV n t b), i64 0])) := by
  have := pack_ok n t b hb
  rw [if_pos h] at this
  exact this
theorem sWorth_ok (n : Bool) (t : ByteArray) (b : Nat) (hb : b < 18446744073709551616) (h : rightV n t b = true) : ACalls Try.prog 46 [.agg [bo n, str t, u64n b]] [] (Ret (txA (packV n t b))) := by
  have hp := svpack_q hb h
  refine acalls_of_awp hT mixed Try.func46 rfl (by kernel_rfl) (by kernel_rfl) (Nat.le_of_ble_eq_true rfl) ?_
  refine callP hp rfl rfl ?_
  refine callP smust_yes rfl rfl ?_
  refine callP (sText_ok _) rfl rfl ?_
  exact ⟨rfl, [], txA _, ⟨⟨_, rfl, rfl⟩, True.intro, Nat.zero_le _, rfl⟩, rfl, rfl⟩
theorem wi_pi {n : Nat} {s : ByteArray} (h : n < 18446744073709551616) (hs : s.size ≤ 1000000) : WI (Pi.it ⟨n, s⟩) := .mk _ _ _ _ h (by decide) (by simp) hs (by decide) (by simp)
theorem emB_itN (n : Nat) : emB n emp [] true false false = true := (emB_k n emp [] true false false).2 ⟨.inl rfl, .inr (strEq_iff.2 rfl), .inr rfl⟩
theorem one_b_N {n : Nat} (h : n ≤ 255) : oneP 98 (Pi.it ⟨n, emp⟩) = some [n] := by
  show (if emB n emp [] true false false = true ∧ n ≤ 255 then some [n] else none) = _
  rw [if_pos ⟨emB_itN n, h⟩]
theorem one_n_N (n : Nat) : oneP 110 (Pi.it ⟨n, emp⟩) = some (numN n) := by
  show (if emB n emp [] true false false = true then some (numN n) else none) = _
  rw [if_pos (emB_itN n)]
theorem one_t_T {s : ByteArray} (h : s.size ≤ 200) : oneP 116 (Pi.it ⟨0, s⟩) = some (numN s.size ++ byL s) := by
  show oneP 116 (.mk 0 s [] []) = _
  rw [oneP_t, if_pos ⟨em_all (.inr rfl) (.inl rfl) (.inr rfl), h⟩]
theorem one_l_L {l : List Nat} (h : rightB l = true) : oneP 108 (.mk 0 emp l []) = some (packN l) := by
  rw [oneP_l, if_pos ⟨em_all (.inr rfl) (.inr rfl) (.inl rfl), h⟩]
theorem strEq_nilS (t : ByteArray) : strEq t ⟨#[]⟩ = decide (t.size = 0) := by
  rw [strEq_eq]
  show (t.data.toList == []) = decide (t.data.size = 0)
  rw [Bool.eq_iff_iff, beq_iff_eq, decide_eq_true_eq, ← Array.length_toList]
  exact List.length_eq_zero_iff.symm
section
variable {α : Type} {f : α → List AV} {n : Nat}
theorem cellF (hf : ∀ x, (f x).length = n) {L : List α} {j : Nat} {x : α} (h : L[j]? = some x) (c : Nat) {a : AV} (hc : (f x)[c]? = some a) : nth (List.drop c (List.drop ((j : Int).toNat * n) (flat f L))) 0 = some a := by
  have hlt := (List.getElem?_eq_some_iff.1 hc).1
  rw [nth_eq, Int.toNat_natCast, flat_drop hf L j x h, List.getElem?_drop]
  show (f x ++ _)[c]? = _
  rw [List.getElem?_append_left hlt]
  exact hc
theorem wf_flatR {Q : α → Prop} {e : Sh} (he : ∀ r, Wf e r → ∃ x, r = f x ∧ Q x) {l : List AV} (h : Wf (.slice e) l) : ∃ L : List α, l = [.view L.length (flat f L)] ∧ (∀ x ∈ L, Q x) ∧ L.length ≤ 9223372036854775807 := by
  obtain ⟨rows, rfl, hlen, hr⟩ := h
  have key : ∀ rows : List (List AV), (∀ r ∈ rows, Wf e r) → ∃ m : List α, m.length = rows.length ∧ rows.flatten = flat f m ∧ ∀ x ∈ m, Q x := by
    intro rows
    induction rows with
    | nil => intro _; exact ⟨[], rfl, rfl, by simp⟩
    | cons r rows ih =>
      intro hr
      obtain ⟨m, h1, h2, h3⟩ := ih fun x hx => hr x (List.mem_cons_of_mem _ hx)
      obtain ⟨x, rfl, hx⟩ := he r (hr r (List.mem_cons_self ..))
      refine ⟨x :: m, by simp [h1], by rw [List.flatten_cons, h2, flat_cons], ?_⟩
      intro y hy
      rcases List.mem_cons.1 hy with rfl | hy
      · exact hx
      · exact h3 y hy
  obtain ⟨m, h1, h2, h3⟩ := key rows hr
  exact ⟨m, by rw [h1, h2], h3, by omega⟩
end
theorem swithin_ok (n a b : Int) : ACalls Try.prog 27 [i64 n, i64 a, i64 b] [] (Ret (bo (decide (a ≤ n ∧ n ≤ b)))) := by
  refine acalls_of_awp hT mixed Try.func27 rfl (by kernel_rfl) (by kernel_rfl) (Nat.le_of_ble_eq_true rfl) ?_
  refine forkD (fun g => ?_) (fun g => ?_)
  · refine forkD (fun u => ?_) (fun u => ?_)
    · refine end0 rfl rfl rfl (congrArg bo (decide_eq_true ?_).symm)
      exact ⟨g, u⟩
    · refine end0 rfl rfl rfl (congrArg bo (decide_eq_false ?_).symm)
      exact fun h => u h.2
  · refine end0 rfl rfl rfl (congrArg bo (decide_eq_false ?_).symm)
    exact fun h => g h.1
end Go.Proofs.Ytgchhmfobkcnfaa.A

namespace Go.Proofs.Ytgchhmfobkcnfaa.A
open Go
set_option linter.unusedVariables false
set_option linter.unusedSimpArgs false
set_option maxRecDepth 100000
set_option pp.maxSteps 400

def cd (c : Int × Nat) : List AV := [i64 c.1, u64 c.2]
theorem cd_len (c : Int × Nat) : (cd c).length = 2 := rfl
def rightC (c : Int × Nat) : Bool := if c.1 = 2 then (bitsB c.2 : Int) == (c.2 : Int) else decide (1 ≤ c.1) && decide (c.1 ≤ 16) && ((c.2 : Int) == 0)
theorem eright_ok (op : Int) (b : Nat) : ACalls Try.prog 81 [.agg [i64 op, u64 b]] [] (Ret (bo (rightC (op, b)))) := by
  have h1 := from_ok b
  have h2 := bits_ok (bitsB b)
  rw [bitsB_bitsB] at h2
  have e2 : op = 2 → rightC (op, b) = ((bitsB b : Int) == (b : Int)) := fun h => if_pos h
  have e3 : op ≠ 2 → rightC (op, b) = (decide (1 ≤ op) && decide (op ≤ 16) && ((b : Int) == 0)) := fun h => if_neg h
  generalize rightC (op, b) = rc at *
  generalize bitsB b = z at *
  refine acalls_of_awp hT mixed Try.func81 rfl (by kernel_rfl) (by kernel_rfl) (Nat.le_of_ble_eq_true rfl) ?_
  refine fork (fun h => ?_) (fun h => ?_)
  · have hop : op = 2 := by have := beq_iff_eq.1 h; exact this
    rw [e2 hop]
    refine ⟨[0, 0, 1, 2, 0, 0, 2, 2], [[], [0], [0, 1], [0, 1, 2], [], [4], [0, 1, 2, 3, 4, 5], [0, 1, 2, 3, 4, 5, 6]], [0, 0, 0, 0, 0, 0, 0, 0], [2, 3], [[1], [6], [7], [8], [1], [10], [9, 11], [12]], Ob.intro (by kernel_rfl) ?_⟩
    repeat refine same ?_
    refine callP h1 rfl rfl ?_
    repeat refine same ?_
    refine callP h2 rfl rfl ?_
    repeat refine same ?_
    refine fork (fun g => ?_) (fun g => ?_) <;> rw [g] <;> repeat refine same ?_
    · refine endG rfl rfl rfl (G := []) True.intro (Nat.zero_le _) rfl ⟨rfl, rfl⟩
    · refine endG rfl rfl rfl (G := []) True.intro (Nat.zero_le _) rfl ⟨rfl, rfl⟩
  · have hop : op ≠ 2 := by have := beq_eq_false_iff_ne.1 h; exact this
    rw [e3 hop]
    refine forkD (fun g => ?_) (fun g => ?_)
    · rw [decide_eq_true (show 1 ≤ op from g)]
      refine forkD (fun g2 => ?_) (fun g2 => ?_)
      · rw [decide_eq_true (show op ≤ 16 from g2)]
        refine fork (fun g => ?_) (fun g => ?_) <;> rw [g]
        · refine endG rfl rfl rfl (G := []) True.intro (Nat.zero_le _) rfl ⟨rfl, rfl⟩
        · refine endG rfl rfl rfl (G := []) True.intro (Nat.zero_le _) rfl ⟨rfl, rfl⟩
      · rw [decide_eq_false (show ¬ op ≤ 16 from g2)]
        refine endG rfl rfl rfl (G := []) True.intro (Nat.zero_le _) rfl ⟨rfl, rfl⟩
    · rw [decide_eq_false (show ¬ 1 ≤ op from g)]
      refine endG rfl rfl rfl (G := []) True.intro (Nat.zero_le _) rfl ⟨rfl, rfl⟩
def rightP (p : List (Int × Nat)) : Bool := p.all rightC && (decide (1 ≤ p.length) && decide (p.length ≤ 32))
theorem rightP_ok (p : List (Int × Nat)) (hl : p.length < 4611686018427387904) : ACalls Try.prog 54 [.view p.length (flat cd p)] [] (Ret (bo (rightP p))) := by
  refine acalls_of_awp hT mixed Try.func54 rfl (by kernel_rfl) (by kernel_rfl) (Nat.le_of_ble_eq_true rfl) ?_
  refine loopI (α := { k : Nat // k ≤ p.length ∧ ∀ c ∈ p.take k, rightC c = true }) (fun z => [(0, .view p.length (flat cd p)), (5, .view p.length (flat cd p)), (6, i64 p.length), (7, i64 (z.val : Nat))]) (fun z => []) (fun z => p.length - z.val)
    ⟨0, Nat.zero_le _, fun c hc => by cases hc⟩ [] ⟨⟨rfl, rfl, rfl, rfl, True.intro⟩, True.intro, rfl, rfl, rfl⟩ ?_
  rintro ⟨k, hk, hall⟩ K hK
  have hinc : wrp .i64 ((k : Int) + 1) = ((k + 1 : Nat) : Int) := by rw [wrpE, wi64]; omega
  refine forkD (fun h => ?_) (fun h => ?_)
  · have h' : k < p.length := by have : (k : Int) < (p.length : Int) := h; omega
    obtain ⟨c, hc⟩ : ∃ c, p[k]? = some c := ⟨_, List.getElem?_eq_getElem h'⟩
    refine Ob.intro (show (0 : Int) ≤ (k : Nat) ∧ ((k : Nat) : Int) < (p.length : Nat) by omega) ?_
    refine optK_intro (flat_takeN cd_len hc) ?_
    have hr := eright_ok c.1 c.2
    cases hq : rightC c with
    | true =>
      rw [show (c.1, c.2) = c from rfl, hq] at hr
      refine callP hr rfl rfl ?_
      refine hK ⟨k + 1, h', ?_⟩ [] _ (show p.length - k = p.length - (k + 1) + 1 by omega) ⟨⟨rfl, rfl, rfl, congrArg i64 hinc, True.intro⟩, True.intro, rfl, rfl, rfl⟩
      intro d hd
      rw [take_snocA hc] at hd
      rcases List.mem_append.1 hd with hd | hd
      · exact hall d hd
      · rw [List.mem_singleton.1 hd, hq]
    | false =>
      rw [show (c.1, c.2) = c from rfl, hq] at hr
      refine callP hr rfl rfl ?_
      have : rightP p = false := by
        unfold rightP
        rw [show p.all rightC = false from List.all_eq_false.2 ⟨c, List.mem_of_getElem? hc, by rw [hq]; decide⟩]
        rfl
      rw [this]
      refine endG rfl rfl rfl (G := []) True.intro (Nat.zero_le _) rfl ⟨rfl, rfl⟩
  · have h' : k = p.length := by have : ¬ (k : Int) < (p.length : Int) := h; omega
    rw [h', List.take_length] at hall
    have ha : p.all rightC = true := List.all_eq_true.2 hall
    refine forkD (fun g => ?_) (fun g => ?_)
    · have g' : 1 ≤ p.length := by have : (1 : Int) ≤ (p.length : Int) := g; omega
      refine forkD (fun g2 => ?_) (fun g2 => ?_)
      · have g2' : p.length ≤ 32 := by have : (p.length : Int) ≤ 32 := g2; omega
        have : rightP p = true := by unfold rightP; rw [ha, decide_eq_true g', decide_eq_true g2']; rfl
        rw [this]
        refine endG rfl rfl rfl (G := []) True.intro (Nat.zero_le _) rfl ⟨rfl, rfl⟩
      · have g2' : ¬ p.length ≤ 32 := by have : ¬ (p.length : Int) ≤ 32 := g2; omega
        have : rightP p = false := by unfold rightP; rw [ha, decide_eq_true g', decide_eq_false g2']; rfl
        rw [this]
        refine endG rfl rfl rfl (G := []) True.intro (Nat.zero_le _) rfl ⟨rfl, rfl⟩
    · have g' : ¬ 1 ≤ p.length := by have : ¬ (1 : Int) ≤ (p.length : Int) := g; omega
      have : rightP p = false := by unfold rightP; rw [ha, decide_eq_false g']; rfl
      rw [this]
      refine endG rfl rfl rfl (G := []) True.intro (Nat.zero_le _) rfl ⟨rfl, rfl⟩
end Go.Proofs.Ytgchhmfobkcnfaa.A

namespace Go.Proofs.Ytgchhmfobkcnfaa.A
open Go
set_option linter.unusedVariables false
set_option linter.unusedSimpArgs false
set_option maxRecDepth 100000
set_option pp.maxSteps 400

/-- A request. -/
structure Rq where
  k : Int
  w : Int
  l : List Nat
  g : Nat
  m : Bool
  r : Int
  key : ByteArray
  vn : Bool
  vt : ByteArray
  vb : Nat
  f : ByteArray
  t : ByteArray
  lim : Int
  n : Int
  c : List (Int × Nat)
deriving DecidableEq
def cdV (c : List (Int × Nat)) : AV := .view c.length (flat cd c)
def Rq.C (q : Rq) : List AV := [i64 q.k, i64 q.w, us q.l, u64n q.g, bo q.m, i64 q.r, str q.key, bo q.vn, str q.vt, u64n q.vb, str q.f, str q.t, i64 q.lim, i64 q.n, cdV q.c]
/-- What the machine's words bear. -/
structure Rq.ok (q : Rq) : Prop where
  l : q.l.length < 4611686018427387904
  x : ∀ y ∈ q.l, y < 18446744073709551616
  g : q.g < 18446744073709551616
  vb : q.vb < 18446744073709551616
  c : q.c.length < 4611686018427387904
  b : ∀ y ∈ q.c, y.2 < 18446744073709551616
def fldL (k : Int) : List Nat :=
  if k = 1 then [0] else if k = 3 then [1] else if k = 4 then [2] else if k = 6 then [0, 2, 3] else if k = 8 ∨ k = 10 then [4, 5] else if k = 9 then [4, 5, 6] else if k = 11 ∨ k = 17 then [1, 7] else if k = 13 then [8] else if k = 16 then [4, 5, 9] else []
def fdV (L : List Nat) : AV := .view L.length (L.map fun n => i64 (n : Nat))
theorem fields_ok (k : Int) : ACalls Try.prog 22 [i64 k] [] (Ret (fdV (fldL k))) := by
  have key : ∀ L, fldL k = L → ∀ v, v = fdV L → v = fdV (fldL k) := fun L h v hv => by rw [h]; exact hv
  by_cases h1 : k = 1
  · subst h1
    refine acalls_of_awp hT mixed Try.func22 rfl (by kernel_rfl) (by kernel_rfl) (Nat.le_of_ble_eq_true rfl) ?_
    refine end0 rfl rfl rfl rfl
  by_cases h2 : k = 3
  · subst h2
    refine acalls_of_awp hT mixed Try.func22 rfl (by kernel_rfl) (by kernel_rfl) (Nat.le_of_ble_eq_true rfl) ?_
    refine end0 rfl rfl rfl rfl
  by_cases h3 : k = 4
  · subst h3
    refine acalls_of_awp hT mixed Try.func22 rfl (by kernel_rfl) (by kernel_rfl) (Nat.le_of_ble_eq_true rfl) ?_
    refine end0 rfl rfl rfl rfl
  by_cases h4 : k = 6
  · subst h4
    refine acalls_of_awp hT mixed Try.func22 rfl (by kernel_rfl) (by kernel_rfl) (Nat.le_of_ble_eq_true rfl) ?_
    refine end0 rfl rfl rfl rfl
  by_cases h5 : k = 8
  · subst h5
    refine acalls_of_awp hT mixed Try.func22 rfl (by kernel_rfl) (by kernel_rfl) (Nat.le_of_ble_eq_true rfl) ?_
    refine end0 rfl rfl rfl rfl
  by_cases h6 : k = 10
  · subst h6
    refine acalls_of_awp hT mixed Try.func22 rfl (by kernel_rfl) (by kernel_rfl) (Nat.le_of_ble_eq_true rfl) ?_
    refine end0 rfl rfl rfl rfl
  by_cases h7 : k = 9
  · subst h7
    refine acalls_of_awp hT mixed Try.func22 rfl (by kernel_rfl) (by kernel_rfl) (Nat.le_of_ble_eq_true rfl) ?_
    refine end0 rfl rfl rfl rfl
  by_cases h8 : k = 11
  · subst h8
    refine acalls_of_awp hT mixed Try.func22 rfl (by kernel_rfl) (by kernel_rfl) (Nat.le_of_ble_eq_true rfl) ?_
    refine end0 rfl rfl rfl rfl
  by_cases h9 : k = 17
  · subst h9
    refine acalls_of_awp hT mixed Try.func22 rfl (by kernel_rfl) (by kernel_rfl) (Nat.le_of_ble_eq_true rfl) ?_
    refine end0 rfl rfl rfl rfl
  by_cases h10 : k = 13
  · subst h10
    refine acalls_of_awp hT mixed Try.func22 rfl (by kernel_rfl) (by kernel_rfl) (Nat.le_of_ble_eq_true rfl) ?_
    refine end0 rfl rfl rfl rfl
  by_cases h11 : k = 16
  · subst h11
    refine acalls_of_awp hT mixed Try.func22 rfl (by kernel_rfl) (by kernel_rfl) (Nat.le_of_ble_eq_true rfl) ?_
    refine end0 rfl rfl rfl rfl
  have hL : fldL k = [] := by
    unfold fldL
    rw [if_neg h1, if_neg h2, if_neg h3, if_neg h4, if_neg (by omega), if_neg h7, if_neg (by omega), if_neg h10, if_neg h11]
  rw [hL]
  refine ACalls.weakR (R := fun E G => E = .ret nilS ∧ G = []) ?_ (by
    rintro E G ⟨rfl, rfl⟩
    refine ⟨_, ⟨rfl, rfl⟩, fun Y e h => ?_⟩
    cases e with
    | returned v => exact VR_nilView h
    | panicked _ => exact h
    | outgrown => exact h)
  refine acalls_of_awp hT mixed Try.func22 rfl (by kernel_rfl) (by kernel_rfl) (Nat.le_of_ble_eq_true rfl) ?_
  refine fork (fun h => absurd (beq_iff_eq.1 h) h1) (fun _ => ?_)
  refine fork (fun h => absurd (beq_iff_eq.1 h) h2) (fun _ => ?_)
  refine fork (fun h => absurd (beq_iff_eq.1 h) h3) (fun _ => ?_)
  refine fork (fun h => absurd (beq_iff_eq.1 h) h4) (fun _ => ?_)
  refine fork (fun h => absurd (beq_iff_eq.1 h) h5) (fun _ => ?_)
  refine fork (fun h => absurd (beq_iff_eq.1 h) h6) (fun _ => ?_)
  refine fork (fun h => absurd (beq_iff_eq.1 h) h7) (fun _ => ?_)
  refine fork (fun h => absurd (beq_iff_eq.1 h) h8) (fun _ => ?_)
  refine fork (fun h => absurd (beq_iff_eq.1 h) h9) (fun _ => ?_)
  refine fork (fun h => absurd (beq_iff_eq.1 h) h10) (fun _ => ?_)
  refine fork (fun h => absurd (beq_iff_eq.1 h) h11) (fun _ => ?_)
  exact ⟨rfl, [], nilS, ⟨⟨_, rfl, rfl⟩, True.intro, Nat.zero_le _, rfl⟩, rfl, rfl⟩
theorem findex_in (L : List Nat) (f : Nat) (hl : L.length < 9223372036854775807) (h : f ∈ L) : ∃ j : Nat, ACalls Try.prog 50 [fdV L, i64 (f : Nat)] [] (Ret (i64 (j : Nat))) := by
  refine ⟨L.idxOf f, ?_⟩
  have hlt : L.idxOf f < L.length := List.idxOf_lt_length_of_mem h
  refine acalls_of_awp hT mixed Try.func50 rfl (by kernel_rfl) (by kernel_rfl) (Nat.le_of_ble_eq_true rfl) ?_
  refine loopI (α := { j : Nat // j ≤ L.idxOf f }) (fun x => [(0, fdV L), (1, i64 (f : Nat)), (6, fdV L), (7, i64 (L.length : Nat)), (8, i64 (x.val : Nat))]) (fun _ => []) (fun x => L.length - x.val) ⟨0, Nat.zero_le _⟩ [] ⟨⟨rfl, rfl, rfl, rfl, rfl, True.intro⟩, True.intro, rfl, rfl, rfl⟩ ?_
  rintro ⟨j, hj⟩ K hK
  have hinc : wrp .i64 ((j : Int) + 1) = ((j + 1 : Nat) : Int) := by rw [wrpE, wi64]; omega
  have h' : j < L.length := by omega
  obtain ⟨y, hy⟩ : ∃ y, L[j]? = some y := ⟨_, List.getElem?_eq_getElem h'⟩
  have hik : (0 : Int) ≤ (j : Nat) ∧ ((j : Nat) : Int) < (L.length : Nat) := by omega
  have hc : nth (List.drop ((j : Int).toNat * 1) (L.map fun n => i64 (n : Nat))) 0 = some (i64 (y : Nat)) := by
    rw [nth_eq, Int.toNat_natCast, Nat.mul_one, List.getElem?_drop, Nat.add_zero, List.getElem?_map, hy]
    rfl
  refine forkD (fun _ => ?_) (fun g => absurd (show (j : Int) < (L.length : Int) by omega) g)
  refine Ob.intro hik ?_
  refine optK_intro hc ?_
  refine fork (fun g => ?_) (fun g => ?_)
  · have e : f = y := by have : (f : Int) = (y : Int) := beq_iff_eq.1 g; omega
    have : L.idxOf f ≤ j := by
      refine Nat.le_of_not_lt fun hlt2 => ?_
      have := List.not_of_lt_findIdx (p := (· == f)) (xs := L) (i := j) hlt2
      rw [List.getElem?_eq_getElem h'] at hy
      cases hy
      exact absurd e.symm (by simpa using this)
    refine end0 rfl rfl rfl (congrArg (fun z : Nat => i64 (z : Nat)) (show j = L.idxOf f by omega))
  · have hne : f ≠ y := by have : (f : Int) ≠ (y : Int) := beq_eq_false_iff_ne.1 g; omega
    have : j ≠ L.idxOf f := fun e => by
      have hq := List.getElem_idxOf hlt
      rw [List.getElem?_eq_getElem h'] at hy
      cases hy
      exact hne (by simp only [e]; exact hq.symm)
    refine hK ⟨j + 1, by omega⟩ [] _ (show L.length - j = L.length - (j + 1) + 1 by omega) ⟨⟨rfl, rfl, rfl, rfl, congrArg i64 hinc, True.intro⟩, True.intro, rfl, rfl, rfl⟩
theorem findex_no (L : List Nat) (f : Nat) (hl : L.length < 9223372036854775807) (h : ¬ f ∈ L) : ACalls Try.prog 50 [fdV L, i64 (f : Nat)] [] (Ret (i64 (-1))) := by
  refine acalls_of_awp hT mixed Try.func50 rfl (by kernel_rfl) (by kernel_rfl) (Nat.le_of_ble_eq_true rfl) ?_
  refine loopI (α := { j : Nat // j ≤ L.length }) (fun x => [(0, fdV L), (1, i64 (f : Nat)), (6, fdV L), (7, i64 (L.length : Nat)), (8, i64 (x.val : Nat))]) (fun _ => []) (fun x => L.length - x.val) ⟨0, Nat.zero_le _⟩ [] ⟨⟨rfl, rfl, rfl, rfl, rfl, True.intro⟩, True.intro, rfl, rfl, rfl⟩ ?_
  rintro ⟨j, hj⟩ K hK
  have hinc : wrp .i64 ((j : Int) + 1) = ((j + 1 : Nat) : Int) := by rw [wrpE, wi64]; omega
  refine forkD (fun g => ?_) (fun _ => ?_)
  · have h' : j < L.length := by have : (j : Int) < (L.length : Int) := g; omega
    obtain ⟨y, hy⟩ : ∃ y, L[j]? = some y := ⟨_, List.getElem?_eq_getElem h'⟩
    have hik : (0 : Int) ≤ (j : Nat) ∧ ((j : Nat) : Int) < (L.length : Nat) := by omega
    have hc : nth (List.drop ((j : Int).toNat * 1) (L.map fun n => i64 (n : Nat))) 0 = some (i64 (y : Nat)) := by
      rw [nth_eq, Int.toNat_natCast, Nat.mul_one, List.getElem?_drop, Nat.add_zero, List.getElem?_map, hy]
      rfl
    refine Ob.intro hik ?_
    refine optK_intro hc ?_
    refine fork (fun g => absurd (List.mem_of_getElem? (by rw [hy]; congr 1; have : (f : Int) = (y : Int) := beq_iff_eq.1 g; omega)) h) (fun g => ?_)
    refine hK ⟨j + 1, h'⟩ [] _ (show L.length - j = L.length - (j + 1) + 1 by omega) ⟨⟨rfl, rfl, rfl, rfl, congrArg i64 hinc, True.intro⟩, True.intro, rfl, rfl, rfl⟩
  · refine end0 rfl rfl rfl rfl
theorem fcontains_ok (L : List Nat) (f : Nat) (hl : L.length < 9223372036854775807) : ACalls Try.prog 24 [fdV L, i64 (f : Nat)] [] (Ret (bo (decide (f ∈ L)))) := by
  by_cases h : f ∈ L
  · obtain ⟨j, hc⟩ := findex_in L f hl h
    rw [decide_eq_true h]
    refine acalls_of_awp hT mixed Try.func24 rfl (by kernel_rfl) (by kernel_rfl) (Nat.le_of_ble_eq_true rfl) ?_
    refine callP hc rfl rfl ?_
    refine end0 rfl rfl rfl (congrArg bo (decide_eq_true (show (j : Int) ≥ 0 by omega)))
  · have hc := findex_no L f hl h
    rw [decide_eq_false h]
    refine acalls_of_awp hT mixed Try.func24 rfl (by kernel_rfl) (by kernel_rfl) (Nat.le_of_ble_eq_true rfl) ?_
    refine callP hc rfl rfl ?_
    refine end0 rfl rfl rfl rfl
theorem strGt_eq (t f : ByteArray) : (!(strLt t f || strEq t f)) = strLt f t := by
  rw [strLt_eq, strEq_eq, strLt_eq]
  rcases bl_tri t.data.toList f.data.toList with ⟨h1, h2, h3⟩ | ⟨h1, h2, h3⟩ | ⟨h1, h2, h3⟩
  · rw [h1, h3]; simp
  · rw [h2, h3, h1]; simp
  · have h4 : (t.data.toList == f.data.toList) = false := by rw [beq_eq_false_iff_ne]; exact h2
    rw [h1, h3, h4]; simp
def rngB (f t : ByteArray) (lim : Int) : Bool := decide (1 ≤ lim ∧ lim ≤ 64 ∧ (t.size = 0 ∨ strLt f t = true))
theorem mright_ok (f t : ByteArray) (lim : Int) : ACalls Try.prog 53 [.agg [str f, str t, i64 lim]] [] (Ret (bo (rngB f t lim))) := by
  refine acalls_of_awp hT mixed Try.func53 rfl (by kernel_rfl) (by kernel_rfl) (Nat.le_of_ble_eq_true rfl) ?_
  obtain ⟨O, hO⟩ : ∃ O, O = rngB f t lim := ⟨_, rfl⟩
  rw [← hO]
  unfold rngB at hO
  refine forkD (fun g => ?_) (fun g => ?_)
  · have g' : 1 ≤ lim := g
    refine forkD (fun u => ?_) (fun u => ?_)
    · have u' : lim ≤ 64 := u
      have hr := strEq_nilS t
      refine fork (fun e => ?_) (fun e => ?_)
      · have hz : t.size = 0 := of_decide_eq_true (hr.symm.trans e)
        rw [hO, decide_eq_true ⟨g', u', .inl hz⟩]
        refine end0 rfl rfl rfl rfl
      · have hz : ¬ t.size = 0 := of_decide_eq_false (hr.symm.trans e)
        refine fork (fun a => ?_) (fun a => ?_)
        · rw [hO, decide_eq_true ⟨g', u', .inr ((strGt_eq t f).symm.trans a)⟩]
          refine end0 rfl rfl rfl rfl
        · rw [hO, decide_eq_false (fun hh => hh.2.2.elim hz fun b => by rw [show strLt f t = false from ((strGt_eq t f).symm.trans a)] at b; cases b)]
          refine end0 rfl rfl rfl rfl
    · rw [hO, decide_eq_false fun hh => u hh.2.1]
      refine end0 rfl rfl rfl rfl
  · rw [hO, decide_eq_false fun hh => g hh.1]
    refine end0 rfl rfl rfl rfl
def keyB (k : ByteArray) : Bool := decide (1 ≤ k.size ∧ k.size ≤ 32)
end Go.Proofs.Ytgchhmfobkcnfaa.A

namespace Go.Proofs.Ytgchhmfobkcnfaa.A
open Go
set_option linter.unusedVariables false
set_option linter.unusedSimpArgs false
set_option maxRecDepth 100000
set_option pp.maxSteps 400

def zeroR (f t : ByteArray) (lim : Int) : Bool := (strEq f ⟨#[]⟩) && (strEq t ⟨#[]⟩ && ((lim == 0) && true))
def zeroV (n : Bool) (t : ByteArray) (b : Nat) : Bool := (n == false) && (strEq t ⟨#[]⟩ && (((b : Int) == 0) && true))
def nmB (q : Rq) : Nat → Bool
  | 0 => decide (0 ≤ q.w ∧ q.w ≤ 7)
  | 1 => rightB q.l
  | 2 => decide (1 ≤ q.g)
  | 4 => decide (0 ≤ q.r ∧ q.r ≤ 7)
  | 5 => keyB q.key
  | 6 => rightV q.vn q.vt q.vb
  | 7 => rngB q.f q.t q.lim && (decide (q.f.size ≤ 32) && decide (q.t.size ≤ 32))
  | 8 => decide (1 ≤ q.n ∧ q.n ≤ 4)
  | 9 => rightP q.c
  | _ => true
def zrB (q : Rq) : Nat → Bool
  | 0 => q.w == 0
  | 1 => decide (q.l.length = 0)
  | 2 => (q.g : Int) == 0
  | 3 => !q.m
  | 4 => q.r == 0
  | 5 => strEq q.key ⟨#[]⟩
  | 6 => zeroV q.vn q.vt q.vb
  | 7 => zeroR q.f q.t q.lim
  | 8 => q.n == 0
  | _ => decide (q.c.length = 0)
theorem swithin_q (n a b : Int) (q : Bool) (h : decide (a ≤ n ∧ n ≤ b) = q) : ACalls Try.prog 27 [i64 n, i64 a, i64 b] [] (Ret (bo q)) := by rw [← h]; exact swithin_ok n a b
theorem named_ok (q : Rq) (h : q.ok) (f : Nat) (hf : f ≤ 9) : ACalls Try.prog 25 [.agg q.C, i64 (f : Nat)] [] (Ret (bo (nmB q f))) := by
  obtain ⟨hl, hx, hg, hvb, hc, hb⟩ := h
  obtain ⟨k, w, l, g, m, r, key, vn, vt, vb, fr, t, lim, n, c⟩ := q
  dsimp only at hl hx hg hvb hc hb
  match f, hf with
  | 0, _ =>
    have h1 := swithin_ok w 0 7
    show ACalls Try.prog 25 _ [] (Ret (bo (decide (0 ≤ w ∧ w ≤ 7))))
    generalize decide (0 ≤ w ∧ w ≤ 7) = z at h1 ⊢
    cases z <;>
    · refine acalls_of_awp hT mixed Try.func25 rfl (by kernel_rfl) (by kernel_rfl) (Nat.le_of_ble_eq_true rfl) ?_
      refine callP h1 rfl rfl ?_
      refine end0 rfl rfl rfl rfl
  | 1, _ =>
    have h1 := right_ok l (by omega)
    show ACalls Try.prog 25 _ [] (Ret (bo (rightB l)))
    generalize rightB l = z at h1 ⊢
    cases z <;>
    · refine acalls_of_awp hT mixed Try.func25 rfl (by kernel_rfl) (by kernel_rfl) (Nat.le_of_ble_eq_true rfl) ?_
      refine callP h1 rfl rfl ?_
      refine end0 rfl rfl rfl rfl
  | 2, _ =>
    show ACalls Try.prog 25 _ [] (Ret (bo (decide (1 ≤ g))))
    refine acalls_of_awp hT mixed Try.func25 rfl (by kernel_rfl) (by kernel_rfl) (Nat.le_of_ble_eq_true rfl) ?_
    refine forkD (fun a => ?_) (fun a => ?_)
    · rw [decide_eq_true (show 1 ≤ g by have : (g : Int) ≥ 1 := a; omega)]
      refine end0 rfl rfl rfl rfl
    · rw [decide_eq_false (show ¬ 1 ≤ g by have : ¬ (g : Int) ≥ 1 := a; omega)]
      refine end0 rfl rfl rfl rfl
  | 3, _ =>
    refine acalls_of_awp hT mixed Try.func25 rfl (by kernel_rfl) (by kernel_rfl) (Nat.le_of_ble_eq_true rfl) ?_
    refine end0 rfl rfl rfl rfl
  | 4, _ =>
    have h1 := swithin_ok r 0 7
    show ACalls Try.prog 25 _ [] (Ret (bo (decide (0 ≤ r ∧ r ≤ 7))))
    generalize decide (0 ≤ r ∧ r ≤ 7) = z at h1 ⊢
    cases z <;>
    · refine acalls_of_awp hT mixed Try.func25 rfl (by kernel_rfl) (by kernel_rfl) (Nat.le_of_ble_eq_true rfl) ?_
      refine callP h1 rfl rfl ?_
      refine end0 rfl rfl rfl rfl
  | 5, _ =>
    have h1 := swithin_q (key.size : Nat) 1 32 (keyB key) (by unfold keyB; congr 1; simp only [eq_iff_iff]; omega)
    show ACalls Try.prog 25 _ [] (Ret (bo (keyB key)))
    generalize keyB key = z at h1 ⊢
    cases z <;>
    · refine acalls_of_awp hT mixed Try.func25 rfl (by kernel_rfl) (by kernel_rfl) (Nat.le_of_ble_eq_true rfl) ?_
      refine callP h1 rfl rfl ?_
      refine end0 rfl rfl rfl rfl
  | 6, _ =>
    have h1 := vright_ok vn vt vb
    show ACalls Try.prog 25 _ [] (Ret (bo (rightV vn vt vb)))
    generalize rightV vn vt vb = z at h1 ⊢
    cases z <;>
    · refine acalls_of_awp hT mixed Try.func25 rfl (by kernel_rfl) (by kernel_rfl) (Nat.le_of_ble_eq_true rfl) ?_
      refine callP h1 rfl rfl ?_
      refine end0 rfl rfl rfl rfl
  | 7, _ =>
    have h1 := mright_ok fr t lim
    show ACalls Try.prog 25 _ [] (Ret (bo (rngB fr t lim && (decide (fr.size ≤ 32) && decide (t.size ≤ 32)))))
    cases hq : rngB fr t lim with
    | false =>
      rw [hq] at h1
      refine acalls_of_awp hT mixed Try.func25 rfl (by kernel_rfl) (by kernel_rfl) (Nat.le_of_ble_eq_true rfl) ?_
      refine callP h1 rfl rfl ?_
      refine end0 rfl rfl rfl rfl
    | true =>
      rw [hq] at h1
      refine acalls_of_awp hT mixed Try.func25 rfl (by kernel_rfl) (by kernel_rfl) (Nat.le_of_ble_eq_true rfl) ?_
      refine callP h1 rfl rfl ?_
      refine forkD (fun a => ?_) (fun a => ?_)
      · rw [decide_eq_true (show fr.size ≤ 32 by have : (fr.size : Int) ≤ 32 := a; omega)]
        refine forkD (fun b => ?_) (fun b => ?_)
        · rw [decide_eq_true (show t.size ≤ 32 by have : (t.size : Int) ≤ 32 := b; omega)]
          refine end0 rfl rfl rfl rfl
        · rw [decide_eq_false (show ¬ t.size ≤ 32 by have : ¬ (t.size : Int) ≤ 32 := b; omega)]
          refine end0 rfl rfl rfl rfl
      · rw [decide_eq_false (show ¬ fr.size ≤ 32 by have : ¬ (fr.size : Int) ≤ 32 := a; omega)]
        refine end0 rfl rfl rfl rfl
  | 8, _ =>
    have h1 := swithin_ok n 1 4
    show ACalls Try.prog 25 _ [] (Ret (bo (decide (1 ≤ n ∧ n ≤ 4))))
    generalize decide (1 ≤ n ∧ n ≤ 4) = z at h1 ⊢
    cases z <;>
    · refine acalls_of_awp hT mixed Try.func25 rfl (by kernel_rfl) (by kernel_rfl) (Nat.le_of_ble_eq_true rfl) ?_
      refine callP h1 rfl rfl ?_
      refine end0 rfl rfl rfl rfl
  | 9, _ =>
    have h1 := rightP_ok c hc
    show ACalls Try.prog 25 _ [] (Ret (bo (rightP c)))
    generalize rightP c = z at h1 ⊢
    cases z <;>
    · refine acalls_of_awp hT mixed Try.func25 rfl (by kernel_rfl) (by kernel_rfl) (Nat.le_of_ble_eq_true rfl) ?_
      refine callP h1 rfl rfl ?_
      refine end0 rfl rfl rfl rfl
  | n + 10, h => exact absurd h (by omega)
theorem zero_ok (q : Rq) (f : Nat) (hf : f ≤ 9) : ACalls Try.prog 26 [.agg q.C, i64 (f : Nat)] [] (Ret (bo (zrB q f))) := by
  obtain ⟨k, w, l, g, m, r, key, vn, vt, vb, fr, t, lim, n, c⟩ := q
  match f, hf with
  | 1, _ =>
    show ACalls Try.prog 26 _ [] (Ret (bo (decide (l.length = 0))))
    refine acalls_of_awp hT mixed Try.func26 rfl (by kernel_rfl) (by kernel_rfl) (Nat.le_of_ble_eq_true rfl) ?_
    refine fork (fun a => ?_) (fun a => ?_)
    · rw [decide_eq_true (show l.length = 0 by have : (l.length : Int) = 0 := beq_iff_eq.1 a; omega)]
      refine end0 rfl rfl rfl rfl
    · rw [decide_eq_false (show ¬ l.length = 0 by have : (l.length : Int) ≠ 0 := beq_eq_false_iff_ne.1 a; omega)]
      refine end0 rfl rfl rfl rfl
  | 9, _ =>
    show ACalls Try.prog 26 _ [] (Ret (bo (decide (c.length = 0))))
    refine acalls_of_awp hT mixed Try.func26 rfl (by kernel_rfl) (by kernel_rfl) (Nat.le_of_ble_eq_true rfl) ?_
    refine fork (fun a => ?_) (fun a => ?_)
    · rw [decide_eq_true (show c.length = 0 by have : (c.length : Int) = 0 := beq_iff_eq.1 a; omega)]
      refine end0 rfl rfl rfl rfl
    · rw [decide_eq_false (show ¬ c.length = 0 by have : (c.length : Int) ≠ 0 := beq_eq_false_iff_ne.1 a; omega)]
      refine end0 rfl rfl rfl rfl
  | 3, _ =>
    cases m <;>
    · refine acalls_of_awp hT mixed Try.func26 rfl (by kernel_rfl) (by kernel_rfl) (Nat.le_of_ble_eq_true rfl) ?_
      refine end0 rfl rfl rfl rfl
  | 0, _ =>
    show ACalls Try.prog 26 _ [] (Ret (bo (w == 0)))
    refine acalls_of_awp hT mixed Try.func26 rfl (by kernel_rfl) (by kernel_rfl) (Nat.le_of_ble_eq_true rfl) ?_
    refine fork (fun a => ?_) (fun a => ?_)
    · rw [show (w == 0) = true from a]
      refine end0 rfl rfl rfl rfl
    · rw [show (w == 0) = false from a]
      refine end0 rfl rfl rfl rfl
  | 2, _ =>
    show ACalls Try.prog 26 _ [] (Ret (bo ((g : Int) == 0)))
    refine acalls_of_awp hT mixed Try.func26 rfl (by kernel_rfl) (by kernel_rfl) (Nat.le_of_ble_eq_true rfl) ?_
    refine fork (fun a => ?_) (fun a => ?_)
    · rw [show ((g : Int) == 0) = true from a]
      refine end0 rfl rfl rfl rfl
    · rw [show ((g : Int) == 0) = false from a]
      refine end0 rfl rfl rfl rfl
  | 4, _ =>
    show ACalls Try.prog 26 _ [] (Ret (bo (r == 0)))
    refine acalls_of_awp hT mixed Try.func26 rfl (by kernel_rfl) (by kernel_rfl) (Nat.le_of_ble_eq_true rfl) ?_
    refine fork (fun a => ?_) (fun a => ?_)
    · rw [show (r == 0) = true from a]
      refine end0 rfl rfl rfl rfl
    · rw [show (r == 0) = false from a]
      refine end0 rfl rfl rfl rfl
  | 5, _ =>
    show ACalls Try.prog 26 _ [] (Ret (bo (strEq key ⟨#[]⟩)))
    refine acalls_of_awp hT mixed Try.func26 rfl (by kernel_rfl) (by kernel_rfl) (Nat.le_of_ble_eq_true rfl) ?_
    refine fork (fun a => ?_) (fun a => ?_)
    · rw [show (strEq key ⟨#[]⟩) = true from a]
      refine end0 rfl rfl rfl rfl
    · rw [show (strEq key ⟨#[]⟩) = false from a]
      refine end0 rfl rfl rfl rfl
  | 6, _ =>
    show ACalls Try.prog 26 _ [] (Ret (bo (zeroV vn vt vb)))
    refine acalls_of_awp hT mixed Try.func26 rfl (by kernel_rfl) (by kernel_rfl) (Nat.le_of_ble_eq_true rfl) ?_
    refine fork (fun a => ?_) (fun a => ?_)
    · rw [show (zeroV vn vt vb) = true from a]
      refine end0 rfl rfl rfl rfl
    · rw [show (zeroV vn vt vb) = false from a]
      refine end0 rfl rfl rfl rfl
  | 7, _ =>
    show ACalls Try.prog 26 _ [] (Ret (bo (zeroR fr t lim)))
    refine acalls_of_awp hT mixed Try.func26 rfl (by kernel_rfl) (by kernel_rfl) (Nat.le_of_ble_eq_true rfl) ?_
    refine fork (fun a => ?_) (fun a => ?_)
    · rw [show (zeroR fr t lim) = true from a]
      refine end0 rfl rfl rfl rfl
    · rw [show (zeroR fr t lim) = false from a]
      refine end0 rfl rfl rfl rfl
  | 8, _ =>
    show ACalls Try.prog 26 _ [] (Ret (bo (n == 0)))
    refine acalls_of_awp hT mixed Try.func26 rfl (by kernel_rfl) (by kernel_rfl) (Nat.le_of_ble_eq_true rfl) ?_
    refine fork (fun a => ?_) (fun a => ?_)
    · rw [show (n == 0) = true from a]
      refine end0 rfl rfl rfl rfl
    · rw [show (n == 0) = false from a]
      refine end0 rfl rfl rfl rfl
  | n + 10, h => exact absurd h (by omega)
def rqF (L : List Nat) (nm zr : Nat → Bool) (f : Nat) : Bool := if f ∈ L then nm f else zr f
def rqN (N : Nat) (L : List Nat) (nm zr : Nat → Bool) : Bool := decide (∀ f, f < N → rqF L nm zr f = true)
def rqB (q : Rq) : Bool := decide (1 ≤ q.k ∧ q.k ≤ 17) && rqN 10 (fldL q.k) (nmB q) (zrB q)
theorem fldL_len (k : Int) : (fldL k).length ≤ 3 := by
  unfold fldL
  repeat' split
  all_goals simp
theorem rqright_ok (q : Rq) (h : q.ok) : ACalls Try.prog 9 [.agg q.C] [] (Ret (bo (rqB q))) := by
  have hfl := fields_ok q.k
  have hlen := fldL_len q.k
  have hwi := swithin_ok q.k 1 17
  have hn := fun f hf => named_ok q h f hf
  have hz := fun f hf => zero_ok q f hf
  obtain ⟨O, hO⟩ : ∃ O, O = rqB q := ⟨_, rfl⟩
  rw [← hO]
  unfold rqB at hO
  obtain ⟨L, hL⟩ : ∃ L, L = fldL q.k := ⟨_, rfl⟩
  rw [← hL] at hfl hlen hO
  have hct := fun f => fcontains_ok L f (by omega)
  generalize nmB q = nm at *
  generalize zrB q = zr at *
  obtain ⟨k, w, l, g, m, r, key, vn, vt, vb, fr, t, lim, n, c⟩ := q
  dsimp only at hfl hO hwi
  clear hL
  refine acalls_of_awp hT mixed Try.func9 rfl (by kernel_rfl) (by kernel_rfl) (Nat.le_of_ble_eq_true rfl) ?_
  refine callP hfl rfl rfl ?_
  refine loopI (α := { j : Nat // j ≤ 10 ∧ ∀ f, f < j → rqF L nm zr f = true }) (fun x => [(1, .ptr 0 0), (3, fdV L), (4, i64 (x.val : Nat))]) (fun _ => [.row (Rq.C ⟨k, w, l, g, m, r, key, vn, vt, vb, fr, t, lim, n, c⟩)]) (fun x => 10 - x.val) ⟨0, by omega, fun f hf => absurd hf (by omega)⟩ [0] ⟨⟨rfl, rfl, rfl, True.intro⟩, ⟨.inl rfl, True.intro⟩, rfl, rfl, rfl⟩ ?_
  rintro ⟨j, hj, hall⟩ K hK
  have hinc : wrp .i64 ((j : Int) + 1) = ((j + 1 : Nat) : Int) := by rw [wrpE, wi64]; omega
  have hjc := hct j
  refine forkD (fun a => ?_) (fun a => ?_)
  · have hj9 : j ≤ 9 := by have : (j : Int) ≤ 9 := a; omega
    have hnj := hn j hj9
    have hzj := hz j hj9
    have nx : rqF L nm zr j = true → ∀ f, f < j + 1 → rqF L nm zr f = true := fun e f hf => by
      by_cases e2 : f = j
      · rw [e2]; exact e
      · exact hall f (by omega)
    have bd : rqF L nm zr j = false → O = false := fun e => by
      rw [hO, show rqN 10 L nm zr = false from decide_eq_false (fun hh => by rw [hh j (by omega)] at e; cases e), Bool.and_false]
    unfold rqF at nx bd
    by_cases hm : j ∈ L
    · rw [decide_eq_true hm] at hjc
      rw [if_pos hm] at nx bd
      cases e : nm j with
      | true =>
        rw [e] at hnj
        refine callP hjc rfl rfl ?_
        refine callP hnj rfl rfl ?_
        refine callP hjc rfl rfl ?_
        refine hK ⟨j + 1, by omega, nx e⟩ [0] _ (show 10 - j = 10 - (j + 1) + 1 by omega) ⟨⟨rfl, rfl, congrArg i64 hinc, True.intro⟩, ⟨.inl rfl, True.intro⟩, rfl, rfl, rfl⟩
      | false =>
        rw [e] at hnj
        rw [bd e]
        refine callP hjc rfl rfl ?_
        refine callP hnj rfl rfl ?_
        refine end0 rfl rfl rfl rfl
    · rw [decide_eq_false hm] at hjc
      rw [if_neg hm] at nx bd
      cases e : zr j with
      | true =>
        rw [e] at hzj
        refine callP hjc rfl rfl ?_
        refine callP hjc rfl rfl ?_
        refine callP hzj rfl rfl ?_
        refine hK ⟨j + 1, by omega, nx e⟩ [0] _ (show 10 - j = 10 - (j + 1) + 1 by omega) ⟨⟨rfl, rfl, congrArg i64 hinc, True.intro⟩, ⟨.inl rfl, True.intro⟩, rfl, rfl, rfl⟩
      | false =>
        rw [e] at hzj
        rw [bd e]
        refine callP hjc rfl rfl ?_
        refine callP hjc rfl rfl ?_
        refine callP hzj rfl rfl ?_
        refine end0 rfl rfl rfl rfl
  · have hj10 : j = 10 := by have : ¬ (j : Int) ≤ 9 := a; omega
    subst hj10
    have : O = decide (1 ≤ k ∧ k ≤ 17) := by
      rw [hO, show rqN 10 L nm zr = true from decide_eq_true hall, Bool.and_true]
    rw [this]
    generalize decide (1 ≤ k ∧ k ≤ 17) = z at hwi ⊢
    cases z <;>
    · refine callP hwi rfl rfl ?_
      refine end0 rfl rfl rfl rfl
end Go.Proofs.Ytgchhmfobkcnfaa.A

namespace Go.Proofs.Ytgchhmfobkcnfaa.A
open Go
set_option linter.unusedVariables false
set_option linter.unusedSimpArgs false
set_option maxRecDepth 100000
set_option pp.maxSteps 400

def bareL (L : List Nat) (q : Rq) : Rq := ⟨q.k, if 0 ∈ L then q.w else 0, if 1 ∈ L then q.l else [], if 2 ∈ L then q.g else 0, if 3 ∈ L then q.m else false, if 4 ∈ L then q.r else 0, if 5 ∈ L then q.key else emp,
  if 6 ∈ L then q.vn else false, if 6 ∈ L then q.vt else emp, if 6 ∈ L then q.vb else 0, if 7 ∈ L then q.f else emp, if 7 ∈ L then q.t else emp, if 7 ∈ L then q.lim else 0, if 8 ∈ L then q.n else 0, if 9 ∈ L then q.c else []⟩
def bareQ (q : Rq) : Rq := bareL (fldL q.k) q
theorem mem_sw {a b : Rq} : a = b ↔ (a.k = b.k ∧ a.w = b.w ∧ a.l = b.l ∧ a.g = b.g ∧ a.m = b.m ∧ a.r = b.r ∧ a.key = b.key ∧ (a.vn = b.vn ∧ a.vt = b.vt ∧ a.vb = b.vb) ∧ (a.f = b.f ∧ a.t = b.t ∧ a.lim = b.lim) ∧ a.n = b.n ∧ a.c = b.c) := by
  constructor
  · rintro rfl
    simp
  · cases a; cases b
    simp only [Rq.mk.injEq]
    rintro ⟨h1, h2, h3, h4, h5, h6, h7, ⟨h8, h9, h10⟩, ⟨h11, h12, h13⟩, h14, h15⟩
    simp [*]
end Go.Proofs.Ytgchhmfobkcnfaa.A

namespace Go.Proofs.Ytgchhmfobkcnfaa.A
open Go
set_option linter.unusedVariables false
set_option linter.unusedSimpArgs false
set_option maxRecDepth 100000
set_option pp.maxSteps 400

end Go.Proofs.Ytgchhmfobkcnfaa.A
