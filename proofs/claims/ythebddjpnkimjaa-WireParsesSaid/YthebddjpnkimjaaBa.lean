/- Words for values, lists of numbers. No condition. -/
import Derived.Test.YthebddjpnkimjaaAmT
import Derived.Test.YthebddjpnkimjaaAmE
import Derived.Test.YthebddjpnkimjaaOs
import Derived.Test.YthebddjpnkimjaaOu
import Derived.Test.YthebddjpnkimjaaOw
import Derived.Test.YthebddjpnkimjaaAm19
import Derived.Laws.Bits64
namespace Go.Proofs.Ythebddjpnkimjaa.A
open Go
set_option linter.unusedVariables false
set_option maxRecDepth 100000
set_option pp.maxSteps 1500

def fl (b : Nat) : AV := .sc (.float .f64 b)
def u64 (n : Int) : AV := .sc (.int .u64 n)
def i64 (n : Int) : AV := .sc (.int .i64 n)
def bo (b : Bool) : AV := .sc (.bool b)

def str (s : ByteArray) : AV := .sc (.string s)
def u64n (n : Nat) : AV := u64 n
def us (l : List Nat) : AV := .view l.length (l.map u64n)
def IdxR (p : Prop) (v : AV) : Prop := ∃ i : Int, v = i64 i ∧ (0 ≤ i ↔ p)
theorem take_snocN {l : List Nat} {i x : Nat} (h : l[i]? = some x) : l.take (i + 1) = l.take i ++ [x] := by
  obtain ⟨hi, rfl⟩ := List.getElem?_eq_some_iff.1 h
  exact List.take_succ_eq_append_getElem hi
theorem endE {T : Tab} {rs : List ResultVar} {R : AV → Prop} {s : St} {vs : List AV} {v : AV} (hd : s.ds = []) (hv : resV T s rs = some vs) (hf : frz s.H 0 8 (mkR vs) = some v) (hR : R v) : endK T rs 0 (fun E G => ∃ v, R v ∧ E = .ret v ∧ G = []) .ret s :=
  ⟨hd, [], v, ⟨⟨vs, hv, hf⟩, True.intro, Nat.zero_le _, rfl⟩, v, hR, rfl, rfl⟩
theorem and64 {a b : Nat} (ha : a < 18446744073709551616) (hb : b < 18446744073709551616) : wrp .u64 ((BitVec.ofInt IntKind.u64.bits (a : Int) &&& BitVec.ofInt IntKind.u64.bits (b : Int)).toNat : Int) = ((a &&& b : Nat) : Int) := by
  have e1 : (BitVec.ofInt 64 (a : Int)).toNat = a := by rw [BitVec.toNat_ofInt]; omega
  have e2 : (BitVec.ofInt 64 (b : Int)).toNat = b := by rw [BitVec.toNat_ofInt]; omega
  have e : (BitVec.ofInt IntKind.u64.bits (a : Int) &&& BitVec.ofInt IntKind.u64.bits (b : Int)).toNat = a &&& b := by
    show (BitVec.ofInt 64 (a : Int) &&& BitVec.ofInt 64 (b : Int)).toNat = _
    rw [BitVec.toNat_and, e1, e2]
  have hlt : a &&& b ≤ a := Nat.and_le_left
  rw [e, wrpE, wu64]
  omega
theorem or64 {a b : Nat} (ha : a < 18446744073709551616) (hb : b < 18446744073709551616) : wrp .u64 ((BitVec.ofInt IntKind.u64.bits (a : Int) ||| BitVec.ofInt IntKind.u64.bits (b : Int)).toNat : Int) = ((a ||| b : Nat) : Int) := by
  have e1 : (BitVec.ofInt 64 (a : Int)).toNat = a := by rw [BitVec.toNat_ofInt]; omega
  have e2 : (BitVec.ofInt 64 (b : Int)).toNat = b := by rw [BitVec.toNat_ofInt]; omega
  have e : (BitVec.ofInt IntKind.u64.bits (a : Int) ||| BitVec.ofInt IntKind.u64.bits (b : Int)).toNat = a ||| b := by
    show (BitVec.ofInt 64 (a : Int) ||| BitVec.ofInt 64 (b : Int)).toNat = _
    rw [BitVec.toNat_or, e1, e2]
  have hlt : a ||| b < 2 ^ 64 := Nat.or_lt_two_pow ha hb
  rw [e, wrpE, wu64]
  omega
theorem allC_us : ∀ l : List Nat, allC (l.map u64n) = true
  | [] => rfl
  | x :: l => by
    show (bif isC (u64n x) then allC (l.map u64n) else false) = true
    rw [allC_us l]
    rfl
theorem srcA_us (H : Heap) (l : List Nat) : srcA H 1 (us l) = some (l.map u64n) := by
  show (bif Nat.beq (l.map u64n).length (l.length * 1) then some (l.map u64n) else none) = _
  have : Nat.beq (l.map u64n).length (l.length * 1) = true := by rw [List.length_map, Nat.mul_one]; exact Nat.beq_refl _
  rw [this]
  rfl
theorem renO_us (r : Nat → Nat) (l : List Nat) : renO r (.row (l.map u64n)) = .row (l.map u64n) := by
  simp only [renO]
  rw [renL_map (fun _ _ => rfl)]
theorem frz_us {H : Heap} {i m : Nat} {l : List Nat} (h : nth H i = some (.row (l.map u64n))) (hm : Nat.blt i m = false) : frz H m 8 (.slc i 0 l.length 1) = some (us l) := by
  have h1 : rdN H i 0 (l.length * 1) = some (l.map u64n) := rdN_all h (by rw [List.length_map]; omega)
  have h2 : mapO (frz0 H m 7) (l.map u64n) = some (l.map u64n) := mapO_map (f := frz0 H m 7) (g := u64n) (h := u64n) (fun _ => rfl) l
  simp only [frz, frz0, hm, cond_false, h1, h2]
  rfl
theorem callHR {P : Program} {g : FuncId} {bs args : List AV} {v v' : AV} {Hs H : Heap} (h : ACalls P g bs Hs (RetH v Hs)) (is : List Nat) (ha : args = renL (rn is H.length) bs) (hsel : Sel H (rn is H.length) is Hs) (hn : noDup is = true)
    (hv : ren (rn is H.length) v = v') (hm : merge H is (renH (rn is H.length) Hs) = H) : ACalls P g args H (RetH v' H) := by
  subst ha
  refine callS h is hsel hn ?_
  rintro E G ⟨rfl, rfl⟩ _
  exact ⟨_, _, rfl, hm, by simp only [renE, hv], rfl⟩
theorem frz_us2 {H : Heap} {i n : Nat} {l : List Nat} (h : nth H i = some (.row (l.map u64n))) (hn : n = l.length) (hm : Nat.blt i 2 = false) (k : Nat) : frz H 2 (k + 2) (.slc i 0 n 1) = some (us l) := by
  subst hn
  have h1 : rdN H i 0 (l.length * 1) = some (l.map u64n) := rdN_all h (by rw [List.length_map]; omega)
  have h2 : mapO (frz0 H 2 (k + 1)) (l.map u64n) = some (l.map u64n) := mapO_map (f := frz0 H 2 (k + 1)) (g := u64n) (h := u64n) (fun _ => rfl) l
  simp only [frz, frz0, hm, cond_false, h1, h2]
  rfl
theorem nth_mapI {α : Type} {g : α → AV} {L : List α} {w : Int} {x : α} (h : L[w.toNat]? = some x) : nth (List.drop (w.toNat * 1) (L.map g)) 0 = some (g x) := by
  rw [nth_eq, List.getElem?_drop, Nat.mul_one, Nat.add_zero, List.getElem?_map, h]
  rfl
theorem compSelf_ok (l : List Nat) (hn : l.length < 9223372036854775807) : ACalls Try.prog 34 [us l, us l] [] (Ret (i64 0)) := by
  refine acalls_of_awp hT mixed Try.func34 rfl (by kernel_rfl) (by kernel_rfl) (Nat.le_of_ble_eq_true rfl) ?_
  refine forkD (fun h => absurd h (Int.lt_irrefl _)) (fun h => ?_)
  refine forkD (fun h => absurd h (Int.lt_irrefl _)) (fun h => ?_)
  refine loopI (α := { k : Nat // k ≤ l.length }) (fun k => [(0, us l), (1, us l), (5, i64 (k.val : Nat))]) (fun _ => []) (fun k => l.length - k.val) ⟨0, Nat.zero_le _⟩ [] ⟨⟨rfl, rfl, rfl, True.intro⟩, True.intro, rfl, rfl, rfl⟩ ?_
  rintro ⟨k, hk⟩ K hK
  have hinc : wrp .i64 ((k : Int) + 1) = ((k + 1 : Nat) : Int) := by rw [wrpE, wi64]; omega
  refine forkD (fun h => ?_) (fun h => end0 rfl rfl rfl rfl)
  have h' : k < l.length := by have : (k : Int) < (l.length : Int) := h; omega
  obtain ⟨y, hy⟩ : ∃ y, l[k]? = some y := ⟨_, List.getElem?_eq_getElem h'⟩
  have hb := (show (0 : Int) ≤ (k : Nat) ∧ ((k : Nat) : Int) < (l.length : Nat) by omega)
  refine ⟨[0, 0, 0, 0, 0, 0, 0, 0, 0], [[], [], [0, 1], [0, 1, 2], [], [], [4, 5], [4, 5, 6], [0, 1, 2, 3, 4, 5, 6, 7]], [0, 0, 0, 0, 0, 0, 0, 0, 0], [], [[0], [5], [22, 23], [24], [1], [5], [26, 27], [28], [25, 29]], Ob.intro (by kernel_rfl) ?_⟩
  refine Ob.intro hb ?_
  refine optK_intro (nth_map hy) ?_
  refine Ob.intro hb ?_
  refine optK_intro (nth_map hy) ?_
  refine forkD (fun h => absurd h (Int.lt_irrefl _)) (fun h => ?_)
  refine optK_intro (nth_map hy) ?_
  refine same ?_
  refine optK_intro (nth_map hy) ?_
  refine same ?_
  refine ⟨[0, 0, 0, 0, 0, 0, 0, 0, 0], [[], [], [0, 1], [0, 1, 2], [], [], [4, 5], [4, 5, 6], [0, 1, 2, 3, 4, 5, 6, 7]], [0, 0, 0, 0, 0, 0, 0, 0, 0], [], [[0], [5], [31, 32], [33], [1], [5], [35, 36], [37], [34, 38]], Ob.intro (by kernel_rfl) ?_⟩
  refine Ob.intro hb ?_
  refine optK_intro (nth_map hy) ?_
  refine Ob.intro hb ?_
  refine optK_intro (nth_map hy) ?_
  refine forkD (fun h => absurd h (Int.lt_irrefl _)) (fun h => ?_)
  refine optK_intro (nth_map hy) ?_
  refine same ?_
  refine optK_intro (nth_map hy) ?_
  refine same ?_
  refine hK ⟨k + 1, h'⟩ [] _ (show l.length - k = l.length - (k + 1) + 1 by omega) ⟨⟨rfl, rfl, congrArg i64 hinc, True.intro⟩, True.intro, rfl, rfl, rfl⟩
theorem sameSelf_ok (l : List Nat) (hn : l.length < 9223372036854775807) : ACalls Try.prog 18 [us l, us l] [] (Ret (bo true)) := by
  refine acalls_of_awp hT mixed Try.func18 rfl (by kernel_rfl) (by kernel_rfl) (Nat.le_of_ble_eq_true rfl) ?_
  refine callP (compSelf_ok l hn) rfl rfl ?_
  refine end0 rfl rfl rfl rfl
theorem frz_us3 {H : Heap} {i n m k : Nat} {l : List Nat} (h : nth H i = some (.row (l.map u64n))) (hn : n = l.length) (hm : Nat.blt i m = false) : frz H m (k + 2) (.slc i 0 n 1) = some (us l) := by
  subst hn
  have h1 : rdN H i 0 (l.length * 1) = some (l.map u64n) := rdN_all h (by rw [List.length_map]; omega)
  have h2 : mapO (frz0 H m (k + 1)) (l.map u64n) = some (l.map u64n) := mapO_map (f := frz0 H m (k + 1)) (g := u64n) (h := u64n) (fun _ => rfl) l
  simp only [frz, frz0, hm, cond_false, h1, h2]
  rfl
theorem wf_nat {l : List AV} (h : Wf (.int .u64) l) : ∃ m : Nat, l = [u64 m] ∧ m < 18446744073709551616 := by
  obtain ⟨m, rfl, hm⟩ := h
  have hm := wf_u64 hm
  refine ⟨m.toNat, ?_, by omega⟩
  have : ((m.toNat : Nat) : Int) = m := by omega
  rw [this]
  rfl
theorem wf_nats {l : List AV} (h : Wf (.slice (.int .u64)) l) : ∃ m : List Nat, l = [us m] ∧ (∀ x ∈ m, x < 18446744073709551616) ∧ m.length ≤ 9223372036854775807 := by
  obtain ⟨rows, rfl, hlen, hr⟩ := h
  have key : ∀ rows : List (List AV), (∀ r ∈ rows, Wf (.int .u64) r) → ∃ m : List Nat, m.length = rows.length ∧ rows.flatten = m.map u64n ∧ ∀ x ∈ m, x < 18446744073709551616 := by
    intro rows
    induction rows with
    | nil => intro _; exact ⟨[], rfl, rfl, by simp⟩
    | cons r rows ih =>
      intro hr
      obtain ⟨m, h1, h2, h3⟩ := ih fun x hx => hr x (List.mem_cons_of_mem _ hx)
      obtain ⟨x, rfl, hx⟩ := wf_nat (hr r (List.mem_cons_self ..))
      refine ⟨x :: m, by simp [h1], by simp only [List.flatten_cons, h2, List.map_cons]; rfl, ?_⟩
      intro y hy
      rcases List.mem_cons.1 hy with rfl | hy
      · exact hx
      · exact h3 y hy
  obtain ⟨m, h1, h2, h3⟩ := key rows hr
  exact ⟨m, by rw [us, h1, h2], h3, by omega⟩
def nilS : AV := .sc (.slice none 0 0)
end Go.Proofs.Ythebddjpnkimjaa.A
