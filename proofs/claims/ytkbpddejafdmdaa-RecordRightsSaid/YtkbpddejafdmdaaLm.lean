/- label: comparisons, and what is a label. No condition. -/
import Derived.Test.YtkbpddejafdmdaaBb
namespace Go.Proofs.Ytkbpddejafdmdaa.A
open Go
set_option linter.unusedVariables false
set_option maxRecDepth 100000
set_option pp.maxSteps 1500

def sgI (x y : Int) : Int := if x < y then -1 else if y < x then 1 else 0
/-- Of two lists, part by part. -/
def lexI : List Nat → List Nat → Int
  | x :: a, y :: b => if x < y then -1 else if y < x then 1 else lexI a b
  | _, _ => 0
def cmpL (a b : List Nat) : Int := if a.length < b.length then -1 else if b.length < a.length then 1 else lexI a b
theorem lexI_drop {a b : List Nat} {k x y : Nat} (hx : a[k]? = some x) (hy : b[k]? = some y) : lexI (a.drop k) (b.drop k) = if x < y then -1 else if y < x then 1 else lexI (a.drop (k + 1)) (b.drop (k + 1)) := by
  obtain ⟨h1, rfl⟩ := List.getElem?_eq_some_iff.1 hx
  obtain ⟨h2, rfl⟩ := List.getElem?_eq_some_iff.1 hy
  rw [List.drop_eq_getElem_cons h1, List.drop_eq_getElem_cons h2, lexI]
theorem lexI_end {a b : List Nat} {k : Nat} (h : a.length ≤ k) : lexI (a.drop k) (b.drop k) = 0 := by
  rw [List.drop_eq_nil_of_le h]
  rfl
theorem lexI_zero : ∀ {a b : List Nat}, a.length = b.length → (lexI a b = 0 ↔ a = b)
  | [], [], _ => by simp [lexI]
  | [], _ :: _, h => by simp at h
  | _ :: _, [], h => by simp at h
  | x :: a, y :: b, h => by
    have ih := lexI_zero (a := a) (b := b) (by simpa using h)
    unfold lexI
    by_cases h1 : x < y
    · rw [if_pos h1]
      simp
      intro he
      omega
    · rw [if_neg h1]
      by_cases h2 : y < x
      · rw [if_pos h2]
        simp
        intro he
        omega
      · rw [if_neg h2, ih]
        have : x = y := by omega
        simp [this]
theorem cmpL_zero (a b : List Nat) : cmpL a b = 0 ↔ a = b := by
  unfold cmpL
  by_cases h1 : a.length < b.length
  · rw [if_pos h1]
    refine ⟨fun h => by omega, fun h => by rw [h] at h1; omega⟩
  · rw [if_neg h1]
    by_cases h2 : b.length < a.length
    · rw [if_pos h2]
      refine ⟨fun h => by omega, fun h => by rw [h] at h2; omega⟩
    · rw [if_neg h2]
      exact lexI_zero (by omega)
/-- It rises from p on. -/
def risB : Nat → List Nat → Bool
  | _, [] => true
  | p, x :: l => decide (p < x) && risB x l
def rightB (l : List Nat) : Bool := decide (l.length ≤ 6) && risB 0 l
theorem risB_drop {l : List Nat} {k p x : Nat} (hx : l[k]? = some x) : risB p (l.drop k) = (decide (p < x) && risB x (l.drop (k + 1))) := by
  obtain ⟨h1, rfl⟩ := List.getElem?_eq_some_iff.1 hx
  rw [List.drop_eq_getElem_cons h1, risB]
structure RtSt (l : List Nat) where
  k : Nat
  p : Nat
  hk : k ≤ l.length
  hp : risB p (l.drop k) = risB 0 l
theorem right_ok (l : List Nat) (hn : l.length < 9223372036854775807) : ACalls Try.prog 105 [us l] [] (Ret (bo (rightB l))) := by
  refine acalls_of_awp hT mixed Try.func105 rfl (by kernel_rfl) (by kernel_rfl) (Nat.le_of_ble_eq_true rfl) ?_
  refine forkD (fun h => ?_) (fun h => ?_)
  · have h' : ¬ l.length ≤ 6 := by have : (l.length : Int) > 6 := h; omega
    refine end0 rfl rfl rfl (congrArg bo (by unfold rightB; rw [decide_eq_false h']; rfl))
  have h' : l.length ≤ 6 := by have : ¬ (l.length : Int) > 6 := h; omega
  have hr : rightB l = risB 0 l := by unfold rightB; rw [decide_eq_true h']; rfl
  rw [hr]
  refine loopI (α := RtSt l) (fun z => [(0, us l), (3, u64n z.p), (9, us l), (10, i64 l.length), (11, i64 (z.k : Nat))]) (fun _ => []) (fun z => l.length - z.k) ⟨0, 0, Nat.zero_le _, rfl⟩ [] ⟨⟨rfl, rfl, rfl, rfl, rfl, True.intro⟩, True.intro, rfl, rfl, rfl⟩ ?_
  rintro ⟨k, p, hk, hp⟩ K hK
  have hinc : wrp .i64 ((k : Int) + 1) = ((k + 1 : Nat) : Int) := by rw [wrpE, wi64]; omega
  refine forkD (fun h => ?_) (fun h => ?_)
  · have h' : k < l.length := by have : (k : Int) < (l.length : Int) := h; omega
    obtain ⟨y, hy⟩ : ∃ y, l[k]? = some y := ⟨_, List.getElem?_eq_getElem h'⟩
    rw [risB_drop hy] at hp
    refine Ob.intro (show (0 : Int) ≤ (k : Nat) ∧ ((k : Nat) : Int) < (l.length : Nat) by omega) ?_
    refine optK_intro (nth_map hy) ?_
    refine forkD (fun g => ?_) (fun g => ?_)
    · have g' : ¬ p < y := by have : (y : Int) ≤ (p : Int) := g; omega
      rw [decide_eq_false g', Bool.false_and] at hp
      refine end0 rfl rfl rfl (congrArg bo hp)
    have g' : p < y := by have : ¬ (y : Int) ≤ (p : Int) := g; omega
    rw [decide_eq_true g', Bool.true_and] at hp
    refine hK ⟨k + 1, y, h', hp⟩ [] _ (show l.length - k = l.length - (k + 1) + 1 by omega) ⟨⟨rfl, rfl, rfl, rfl, congrArg i64 hinc, True.intro⟩, True.intro, rfl, rfl, rfl⟩
  · have h' : k = l.length := by have : ¬ (k : Int) < (l.length : Int) := h; omega
    rw [h', List.drop_length] at hp
    refine end0 rfl rfl rfl (congrArg bo hp)
end Go.Proofs.Ytkbpddejafdmdaa.A

namespace Go.Proofs.Ytkbpddejafdmdaa.A
open Go
set_option linter.unusedVariables false
set_option maxRecDepth 100000
set_option pp.maxSteps 1500

def prevL (l : List Nat) : Nat → Nat
  | 0 => 0
  | j + 1 => l.getD j 0
def ints (l : List Int) : AV := .view l.length (l.map i64)
def orI : List Int → Int
  | [] => 0
  | x :: l => if x = 0 then orI l else x
theorem orI_drop {l : List Int} {k : Nat} {x : Int} (hx : l[k]? = some x) : orI (l.drop k) = if x = 0 then orI (l.drop (k + 1)) else x := by
  obtain ⟨h1, rfl⟩ := List.getElem?_eq_some_iff.1 hx
  rw [List.drop_eq_getElem_cons h1, orI]
/-- Which of two lists stands ahead, as slices.Compare says. -/
def lexS : List Nat → List Nat → Int
  | x :: a, y :: b => if sgI x y = 0 then lexS a b else sgI x y
  | _ :: _, [] => 1
  | [], _ :: _ => -1
  | [], [] => 0
theorem lexS_drop {a b : List Nat} {k x y : Nat} (hx : a[k]? = some x) (hy : b[k]? = some y) : lexS (a.drop k) (b.drop k) = if sgI x y = 0 then lexS (a.drop (k + 1)) (b.drop (k + 1)) else sgI x y := by
  obtain ⟨h1, rfl⟩ := List.getElem?_eq_some_iff.1 hx
  obtain ⟨h2, rfl⟩ := List.getElem?_eq_some_iff.1 hy
  rw [List.drop_eq_getElem_cons h1, List.drop_eq_getElem_cons h2, lexS]
theorem lexS_lexI : ∀ {a b : List Nat}, a.length = b.length → lexS a b = lexI a b
  | [], [], _ => rfl
  | [], _ :: _, h => by simp at h
  | _ :: _, [], h => by simp at h
  | x :: a, y :: b, h => by
    unfold lexS lexI sgI
    rw [lexS_lexI (a := a) (b := b) (by simpa using h)]
    by_cases h1 : x < y
    · rw [if_pos (show (x : Int) < y by omega), if_pos h1]
      rfl
    · rw [if_neg (show ¬ (x : Int) < y by omega), if_neg h1]
      by_cases h2 : y < x
      · rw [if_pos (show (y : Int) < x by omega), if_pos h2]
        rfl
      · rw [if_neg (show ¬ (y : Int) < x by omega), if_neg h2]
        rfl
theorem cmpL_or (a b : List Nat) : orI [sgI a.length b.length, lexS a b] = cmpL a b := by
  unfold orI cmpL sgI
  by_cases h1 : a.length < b.length
  · rw [if_pos (show (a.length : Int) < b.length by omega), if_pos h1]
    rfl
  · rw [if_neg (show ¬ (a.length : Int) < b.length by omega), if_neg h1]
    by_cases h2 : b.length < a.length
    · rw [if_pos (show (b.length : Int) < a.length by omega), if_pos h2]
      rfl
    · rw [if_neg (show ¬ (b.length : Int) < a.length by omega), if_neg h2, if_pos rfl, lexS_lexI (by omega)]
      unfold orI
      by_cases h3 : lexI a b = 0
      · rw [if_pos h3, h3]
        rfl
      · rw [if_neg h3]
end Go.Proofs.Ytkbpddejafdmdaa.A

namespace Go.Proofs.Ytkbpddejafdmdaa.A
open Go
set_option linter.unusedVariables false
set_option maxRecDepth 100000
set_option pp.maxSteps 1500

theorem rd_us {H : Heap} {p off k x : Nat} {R : List Nat} (h : nth H p = some (.row (R.map u64n))) (hk : off = k) (hx : R[k]? = some x) : rd1 H p off = some (u64n x) := by
  subst hk
  unfold rd1
  rw [h]
  show nth (R.map u64n) off = _
  rw [nth_eq, List.getElem?_map, hx]
  rfl
theorem wr_us {K : Heap → Prop} {H : Heap} {p off k : Nat} {l : List AV} {R : List Nat} {x : Nat} (h : nth H p = some (.row (R.map u64n))) (hx : l = [u64n x]) (hk : off = k) (hl : k < R.length) (q : K (H.set p (.row ((R.set k x).map u64n)))) : optK (wr H p off l) K := by
  subst hx hk
  refine optK_intro (wr_eq h (by rw [List.length_map]; exact hl)) ?_
  have e : setAll (R.map u64n) off [u64n x] = (R.set off x).map u64n := by
    rw [List.map_set]
    rfl
  rw [e]
  exact q
/-- The number at a place. -/
def atN (R : List Nat) (k : Nat) : Nat := R.getD k 0
theorem atN_some {R : List Nat} {k : Nat} (h : k < R.length) : R[k]? = some (atN R k) := by
  unfold atN
  rw [List.getD_eq_getElem?_getD, List.getElem?_eq_getElem h]
  rfl
/-- Two places changed for one another. -/
def swp (R : List Nat) (i j : Nat) : List Nat := (R.set i (atN R j)).set j (atN R i)
theorem swp_len (R : List Nat) (i j : Nat) : (swp R i j).length = R.length := by unfold swp; rw [List.length_set, List.length_set]
theorem swp_at {R : List Nat} {i j : Nat} (hi : i < R.length) (hj : j < R.length) (k : Nat) : atN (swp R i j) k = if k = j then atN R i else if k = i then atN R j else atN R k := by
  unfold swp
  show List.getD _ k 0 = _
  rw [List.getD_eq_getElem?_getD, List.getElem?_set]
  by_cases h1 : k = j
  · subst h1
    rw [if_pos rfl, if_pos rfl, if_pos (by rw [List.length_set]; exact hj)]
    rfl
  · rw [if_neg (Ne.symm h1), if_neg h1, List.getElem?_set]
    by_cases h2 : k = i
    · subst h2
      rw [if_pos rfl, if_pos rfl, if_pos hi]
      rfl
    · rw [if_neg (Ne.symm h2), if_neg h2]
      rw [← List.getD_eq_getElem?_getD]
      rfl
theorem swp_perm {R : List Nat} {i j : Nat} (hi : i < R.length) (hj : j < R.length) : (swp R i j).Perm R := by
  have h1 : atN R i = R[i] := by unfold atN; rw [List.getD_eq_getElem?_getD, List.getElem?_eq_getElem hi]; rfl
  have h2 : atN R j = R[j] := by unfold atN; rw [List.getD_eq_getElem?_getD, List.getElem?_eq_getElem hj]; rfl
  unfold swp
  rw [h1, h2]
  exact List.set_set_perm hi hj
/-- As many of each, and as it was outside of a, b. -/
structure SO (a b : Nat) (R R' : List Nat) : Prop where
  len : R'.length = R.length
  perm : R'.Perm R
  out : ∀ k, k < a ∨ b ≤ k → atN R' k = atN R k
theorem SO.refl (a b : Nat) (R : List Nat) : SO a b R R := ⟨rfl, .refl _, fun _ _ => rfl⟩
theorem SO.trans {a b : Nat} {R S T : List Nat} (h : SO a b R S) (k : SO a b S T) : SO a b R T := ⟨k.len.trans h.len, k.perm.trans h.perm, fun i hi => (k.out i hi).trans (h.out i hi)⟩
theorem SO.wide {a b c d : Nat} {R S : List Nat} (h : SO a b R S) (h1 : c ≤ a) (h2 : b ≤ d) : SO c d R S := ⟨h.len, h.perm, fun k hk => h.out k (by omega)⟩
theorem SO.swp {a b i j : Nat} {R : List Nat} (hi : i < R.length) (hj : j < R.length) (h1 : a ≤ i ∧ i < b) (h2 : a ≤ j ∧ j < b) : SO a b R (swp R i j) :=
  ⟨swp_len R i j, swp_perm hi hj, fun k hk => by rw [swp_at hi hj, if_neg (by omega), if_neg (by omega)]⟩
/-- It doesn't fall in a, b. -/
def SI (a b : Nat) (R : List Nat) : Prop := ∀ i j, a ≤ i → i < j → j < b → atN R i ≤ atN R j
structure InsO (R0 : List Nat) (a b : Nat) where
  i : Nat
  R : List Nat
  h1 : a + 1 ≤ i
  h2 : i ≤ b ∨ i = a + 1
  so : SO a b R0 R
  si : SI a i R
structure InsI (R0 : List Nat) (a b i : Nat) where
  j : Nat
  R : List Nat
  h1 : a ≤ j
  h2 : j ≤ i
  so : SO a b R0 R
  si : ∀ p q, a ≤ p → p < q → q ≤ i → q ≠ j → atN R p ≤ atN R q
theorem belowH_us (R : List Nat) : belowH 1 [.row (R.map u64n)] = true := by
  have h : ∀ l : List Nat, belowL 1 (l.map u64n) = true := fun l => by
    induction l with
    | nil => rfl
    | cons x l ih => show (bif below 1 (u64n x) then belowL 1 (l.map u64n) else false) = true; rw [ih]; rfl
  simp only [belowH, belowO, h]
  rfl
end Go.Proofs.Ytkbpddejafdmdaa.A

namespace Go.Proofs.Ytkbpddejafdmdaa.A
open Go
set_option linter.unusedVariables false
set_option maxRecDepth 100000
set_option pp.maxSteps 1500

def IntR (v : AV) : Prop := ∃ i : Int, v = i64 i
theorem belowL_us (m : Nat) : ∀ l : List Nat, belowL m (l.map u64n) = true
  | [] => rfl
  | x :: l => by show (bif below m (u64n x) then belowL m (l.map u64n) else false) = true; rw [belowL_us m l]; rfl
theorem belowH_us1 (R : List Nat) : belowH 2 [.dead, .row (R.map u64n)] = true := by
  simp only [belowH, belowO, belowL_us]
  rfl
theorem renH_us (r : Nat → Nat) (R : List Nat) : renH r [.row (R.map u64n)] = [.row (R.map u64n)] := by
  simp only [renH, renO_us]
end Go.Proofs.Ytkbpddejafdmdaa.A

namespace Go.Proofs.Ytkbpddejafdmdaa.A
open Go
set_option linter.unusedVariables false
set_option maxRecDepth 100000
set_option pp.maxSteps 1500

theorem zerosU (n : Nat) : zerosA ti22.zero n = (List.replicate n 0).map u64n := by
  unfold zerosA
  induction n with
  | zero => rfl
  | succ n ih => rw [List.replicate_succ, List.replicate_succ, List.flatten_cons, ih]; rfl
def vws (LL : List (List Nat)) : AV := .view LL.length (LL.map us)
structure CatSt (LL : List (List Nat)) where
  k : Nat
  R : List Nat
  m : Nat
  hk : k ≤ LL.length
  hm : m ≤ R.length
  hR : R.take m = (LL.take k).flatten
theorem flat_le (LL : List (List Nat)) (k : Nat) : (LL.take k).flatten.length ≤ LL.flatten.length := by
  have : LL.flatten = (LL.take k).flatten ++ (LL.drop k).flatten := by rw [← List.flatten_append, List.take_append_drop]
  rw [this, List.length_append]
  omega
end Go.Proofs.Ytkbpddejafdmdaa.A

namespace Go.Proofs.Ytkbpddejafdmdaa.A
open Go
set_option linter.unusedVariables false
set_option maxRecDepth 100000
set_option pp.maxSteps 1500

/-- The first n, each once where it stands beside itself. -/
def ddN (R : List Nat) : Nat → List Nat
  | 0 => []
  | n + 1 => if n = 0 ∨ atN R n ≠ atN R (n - 1) then ddN R n ++ [atN R n] else ddN R n
theorem ddN_new {R : List Nat} {n : Nat} (h : n = 0 ∨ atN R n ≠ atN R (n - 1)) : ddN R (n + 1) = ddN R n ++ [atN R n] := by
  show (if _ then _ else _) = _
  rw [if_pos h]
theorem ddN_old {R : List Nat} {n : Nat} (h0 : 0 < n) (h : atN R n = atN R (n - 1)) : ddN R (n + 1) = ddN R n := by
  show (if _ then _ else _) = _
  rw [if_neg (fun hh => hh.elim (by omega) (fun k => k h))]
theorem take_at {R : List Nat} {k : Nat} (h : k < R.length) : R.take (k + 1) = R.take k ++ [atN R k] := take_snocA (atN_some h)
theorem setAll_us (R Z : List Nat) (off : Nat) (h : off + Z.length ≤ R.length) : setAll (R.map u64n) off (Z.map u64n) = (R.take off ++ Z ++ R.drop (off + Z.length)).map u64n := by
  apply List.ext_getElem?
  intro k
  rw [setAll_get _ _ _ _ (by rw [List.length_map, List.length_map]; exact h), List.getElem?_map, List.getElem?_map, List.getElem?_map, List.length_map]
  have ht : (R.take off).length = off := by rw [List.length_take]; omega
  by_cases h1 : k < off
  · rw [if_neg (by omega), List.append_assoc, List.getElem?_append_left (by omega), List.getElem?_take_of_lt h1]
  · by_cases h2 : k < off + Z.length
    · rw [if_pos (by omega), List.append_assoc, List.getElem?_append_right (by omega), ht, List.getElem?_append_left (by omega)]
    · rw [if_neg (by omega), List.getElem?_append_right (by rw [List.length_append, ht]; omega), List.length_append, ht, List.getElem?_drop, show off + Z.length + (k - (off + Z.length)) = k by omega]
theorem wr_zeros {K : Heap → Prop} {H : Heap} {p off k n m : Nat} {R : List Nat} (h : nth H p = some (.row (R.map u64n))) (hk : off = k) (hm : n = m) (hl : k + m ≤ R.length) (q : K (H.set p (.row ((R.take k ++ List.replicate m 0 ++ R.drop (k + m)).map u64n)))) : optK (wr H p off (zerosA ti22.zero n)) K := by
  subst hk hm
  rw [zerosU]
  refine optK_intro (wr_eq h (by rw [List.length_map, List.length_map, List.length_replicate]; exact hl)) ?_
  rw [setAll_us _ _ _ (by rw [List.length_replicate]; exact hl), List.length_replicate]
  exact q
structure CpSt (R0 : List Nat) (k : Nat) where
  t : Nat
  i : Nat
  R : List Nat
  ht : 1 ≤ t
  ht2 : t ≤ R0.length - k
  hi : i ≤ k + t - 1
  len : R.length = R0.length
  old : ∀ p, k + t - 1 ≤ p → atN R p = atN R0 p
  hR : R.take i = ddN R0 (k + t)
end Go.Proofs.Ytkbpddejafdmdaa.A

namespace Go.Proofs.Ytkbpddejafdmdaa.A
open Go
set_option linter.unusedVariables false
set_option maxRecDepth 100000
set_option pp.maxSteps 1500

def Srt (l : List Nat) : Prop := l.Pairwise (· < ·)
theorem srt_uniq : ∀ {a b : List Nat}, Srt a → Srt b → (∀ x, x ∈ a ↔ x ∈ b) → a = b
  | [], [], _, _, _ => rfl
  | [], y :: b, _, _, h => absurd ((h y).2 (List.mem_cons_self ..)) (List.not_mem_nil)
  | x :: a, [], _, _, h => absurd ((h x).1 (List.mem_cons_self ..)) (List.not_mem_nil)
  | x :: a, y :: b, ha, hb, h => by
    obtain ⟨ha1, ha2⟩ := List.pairwise_cons.1 ha
    obtain ⟨hb1, hb2⟩ := List.pairwise_cons.1 hb
    have hxy : x = y := by
      rcases List.mem_cons.1 ((h x).1 (List.mem_cons_self ..)) with e | e
      · exact e
      · rcases List.mem_cons.1 ((h y).2 (List.mem_cons_self ..)) with e2 | e2
        · exact e2.symm
        · have := hb1 x e
          have := ha1 y e2
          omega
    subst hxy
    rw [srt_uniq ha2 hb2 fun z => ?_]
    constructor
    · intro hz
      rcases List.mem_cons.1 ((h z).1 (List.mem_cons_of_mem _ hz)) with e | e
      · have := ha1 z hz
        omega
      · exact e
    · intro hz
      rcases List.mem_cons.1 ((h z).2 (List.mem_cons_of_mem _ hz)) with e | e
      · have := hb1 z hz
        omega
      · exact e
def putL : List Nat → Nat → List Nat
  | [], t => [t]
  | x :: l, t => if t < x then t :: x :: l else if t = x then x :: l else x :: putL l t
theorem mem_putL (t x : Nat) : ∀ l : List Nat, x ∈ putL l t ↔ x = t ∨ x ∈ l
  | [] => by simp [putL]
  | y :: l => by
    unfold putL
    by_cases h1 : t < y
    · rw [if_pos h1]
      simp
    · rw [if_neg h1]
      by_cases h2 : t = y
      · rw [if_pos h2]
        simp [h2]
      · rw [if_neg h2]
        simp only [List.mem_cons, mem_putL t x l]
        constructor
        · rintro (h | h | h)
          · exact .inr (.inl h)
          · exact .inl h
          · exact .inr (.inr h)
        · rintro (h | h | h)
          · exact .inr (.inl h)
          · exact .inl h
          · exact .inr (.inr h)
theorem len_putL (t : Nat) : ∀ l : List Nat, (putL l t).length ≤ l.length + 1
  | [] => by simp [putL]
  | y :: l => by
    have := len_putL t l
    unfold putL
    by_cases h1 : t < y
    · rw [if_pos h1]
      simp
    · rw [if_neg h1]
      by_cases h2 : t = y
      · rw [if_pos h2]
        simp
      · rw [if_neg h2]
        simp only [List.length_cons]
        omega
theorem srt_putL (t : Nat) : ∀ {l : List Nat}, Srt l → Srt (putL l t)
  | [], _ => by simp [putL, Srt]
  | y :: l, h => by
    obtain ⟨h1, h2⟩ := List.pairwise_cons.1 h
    unfold putL
    by_cases q1 : t < y
    · rw [if_pos q1]
      refine List.pairwise_cons.2 ⟨fun z hz => ?_, h⟩
      rcases List.mem_cons.1 hz with rfl | hz
      · exact q1
      · have := h1 z hz
        omega
    · rw [if_neg q1]
      by_cases q2 : t = y
      · rw [if_pos q2]
        exact h
      · rw [if_neg q2]
        refine List.pairwise_cons.2 ⟨fun z hz => ?_, srt_putL t h2⟩
        rcases (mem_putL t z l).1 hz with rfl | hz
        · omega
        · exact h1 z hz
/-- Of tags, each once, in their order. -/
def ofL (tags : List Nat) : List Nat := tags.foldl putL []
theorem ofL_snoc (l : List Nat) (t : Nat) : ofL (l ++ [t]) = putL (ofL l) t := by unfold ofL; rw [List.foldl_append]; rfl
theorem foldl_put : ∀ (tags l : List Nat), Srt l → Srt (tags.foldl putL l) ∧ ∀ x, x ∈ tags.foldl putL l ↔ x ∈ l ∨ x ∈ tags
  | [], l, h => ⟨h, fun x => by simp⟩
  | t :: tags, l, h => by
    obtain ⟨h1, h2⟩ := foldl_put tags (putL l t) (srt_putL t h)
    refine ⟨h1, fun x => ?_⟩
    rw [List.foldl_cons, h2, mem_putL, List.mem_cons]
    constructor
    · rintro ((h | h) | h)
      · exact .inr (.inl h)
      · exact .inl h
      · exact .inr (.inr h)
    · rintro (h | h | h)
      · exact .inl (.inr h)
      · exact .inl (.inl h)
      · exact .inr h
theorem srt_ofL (tags : List Nat) : Srt (ofL tags) := (foldl_put tags [] List.Pairwise.nil).1
theorem mem_ofL (tags : List Nat) (x : Nat) : x ∈ ofL tags ↔ x ∈ tags := by
  unfold ofL
  rw [(foldl_put tags [] List.Pairwise.nil).2]
  simp
theorem srt_snoc {l : List Nat} {x : Nat} (h : Srt l) (hx : ∀ y ∈ l, y < x) : Srt (l ++ [x]) := by
  unfold Srt
  rw [List.pairwise_append]
  exact ⟨h, List.pairwise_singleton .., fun a ha b hb => by rw [List.mem_singleton.1 hb]; exact hx a ha⟩
theorem ddN_ok (R : List Nat) (hs : SI 0 R.length R) : ∀ n, n ≤ R.length → Srt (ddN R n) ∧ (∀ x, x ∈ ddN R n ↔ ∃ k, k < n ∧ atN R k = x)
  | 0, _ => ⟨List.Pairwise.nil, fun x => by simp [ddN]⟩
  | n + 1, hn => by
    obtain ⟨h1, h2⟩ := ddN_ok R hs n (by omega)
    by_cases hc : n = 0 ∨ atN R n ≠ atN R (n - 1)
    · rw [ddN_new hc]
      refine ⟨srt_snoc h1 fun y hy => ?_, fun x => ?_⟩
      · obtain ⟨k, hk, rfl⟩ := (h2 y).1 hy
        have a1 := hs k n (Nat.zero_le _) hk (by omega)
        have a2 := hs (n - 1) n (Nat.zero_le _) (by omega) (by omega)
        by_cases hkn : k = n - 1
        · subst hkn
          omega
        · have a3 := hs k (n - 1) (Nat.zero_le _) (by omega) (by omega)
          omega
      · rw [List.mem_append, h2, List.mem_singleton]
        constructor
        · rintro (⟨k, hk, e⟩ | e)
          · exact ⟨k, by omega, e⟩
          · exact ⟨n, by omega, e.symm⟩
        · rintro ⟨k, hk, e⟩
          by_cases hkn : k = n
          · subst hkn
            exact .inr e.symm
          · exact .inl ⟨k, by omega, e⟩
    · have hc2 : 0 < n ∧ atN R n = atN R (n - 1) := ⟨by omega, Classical.byContradiction fun h => hc (.inr h)⟩
      rw [ddN_old hc2.1 hc2.2]
      refine ⟨h1, fun x => ?_⟩
      rw [h2]
      constructor
      · rintro ⟨k, hk, e⟩
        exact ⟨k, by omega, e⟩
      · rintro ⟨k, hk, e⟩
        by_cases hkn : k = n
        · subst hkn
          exact ⟨k - 1, by omega, by rw [← hc2.2]; exact e⟩
        · exact ⟨k, by omega, e⟩
theorem mem_atN (R : List Nat) (x : Nat) : x ∈ R ↔ ∃ k, k < R.length ∧ atN R k = x := by
  rw [List.mem_iff_getElem?]
  constructor
  · rintro ⟨k, hk⟩
    have h := (List.getElem?_eq_some_iff.1 hk).1
    refine ⟨k, h, ?_⟩
    rw [atN_some h] at hk
    exact Option.some.inj hk
  · rintro ⟨k, hk, rfl⟩
    exact ⟨k, atN_some hk⟩
/-- What is sorted, and each once, is what the document says. -/
theorem ddN_ofL {R0 R : List Nat} (so : SO 0 R0.length R0 R) (si : SI 0 R0.length R) : ddN R R.length = ofL R0 := by
  rw [← so.len] at si
  obtain ⟨h1, h2⟩ := ddN_ok R si R.length (Nat.le_refl _)
  refine srt_uniq h1 (srt_ofL R0) fun x => ?_
  rw [h2, ← mem_atN, mem_ofL]
  exact so.perm.mem_iff
structure PutSt (l : List Nat) (t : Nat) where
  i : Nat
  put : Bool
  out : List Nat
  hi : i ≤ l.length
  srt : Srt out
  mem : ∀ x, x ∈ out ↔ (x ∈ l.take i ∧ x ≠ t) ∨ (put = true ∧ x = t)
  hp : put = true ↔ ∃ x, x ∈ l.take i ∧ t ≤ x
  len : out.length ≤ l.length + 1
end Go.Proofs.Ytkbpddejafdmdaa.A

namespace Go.Proofs.Ytkbpddejafdmdaa.A
open Go
set_option linter.unusedVariables false
set_option maxRecDepth 100000
set_option pp.maxSteps 1500

theorem len_foldl_put : ∀ (tags l : List Nat), (tags.foldl putL l).length ≤ l.length + tags.length
  | [], l => by simp
  | t :: tags, l => by
    have h1 := len_foldl_put tags (putL l t)
    have h2 := len_putL t l
    rw [List.foldl_cons, List.length_cons]
    omega
theorem len_ofL (tags : List Nat) : (ofL tags).length ≤ tags.length := by
  have := len_foldl_put tags []
  unfold ofL
  simpa using this
inductive OfSt where
  | start
  | mid (k : Nat)
def OfSt.L (tags : List Nat) : OfSt → List (Nat × AV)
  | .start => [(0, us tags), (3, .slc 0 0 0 1), (4, i64 0)]
  | .mid k => [(0, us tags), (3, us (ofL (tags.take k))), (4, i64 (k : Nat))]
def OfSt.H : OfSt → Heap
  | .start => [.row []]
  | .mid _ => []
def OfSt.m (tags : List Nat) : OfSt → Nat
  | .start => tags.length
  | .mid k => tags.length - k
theorem frz_usT {H : Heap} {i n m k : Nat} {R : List Nat} (h : nth H i = some (.row (R.map u64n))) (hn : n ≤ R.length) (hm : Nat.blt i m = false) : frz H m (k + 2) (.slc i 0 n 1) = some (us (R.take n)) := by
  have h1 : rdN H i 0 (n * 1) = some ((R.take n).map u64n) := by
    rw [rdN_eq h (by rw [List.length_map]; omega), List.drop_zero, Nat.mul_one, List.map_take]
  have h2 : mapO (frz0 H m (k + 1)) ((R.take n).map u64n) = some ((R.take n).map u64n) := mapO_map (f := frz0 H m (k + 1)) (g := u64n) (h := u64n) (fun _ => rfl) (R.take n)
  have h3 : (R.take n).length = n := by rw [List.length_take]; omega
  have h4 : us (R.take n) = .view n ((R.take n).map u64n) := by unfold us; rw [h3]
  rw [h4]
  simp only [frz, frz0, hm, cond_false, h1, h2]
def ofP (tags : List Nat) : List Nat × Int := if 0 ∈ tags then ([], 1) else if 6 < (ofL tags).length then ([], 5) else (ofL tags, 0)
end Go.Proofs.Ytkbpddejafdmdaa.A

namespace Go.Proofs.Ytkbpddejafdmdaa.A
open Go
set_option linter.unusedVariables false
set_option maxRecDepth 100000
set_option pp.maxSteps 1500

def joinP (a b : List Nat) : List Nat × Int := if rightB a = true ∧ rightB b = true then ofP (a ++ b) else ([], 1)
theorem rightB_len {l : List Nat} (h : rightB l = true) : l.length ≤ 6 := by
  unfold rightB at h
  rw [Bool.and_eq_true] at h
  exact of_decide_eq_true h.1
def inB (a b : List Nat) : Bool := a.all fun x => decide (x ∈ b)
theorem inB_drop {a b : List Nat} {k x : Nat} (hx : a[k]? = some x) : inB (a.drop k) b = (decide (x ∈ b) && inB (a.drop (k + 1)) b) := by
  obtain ⟨h1, rfl⟩ := List.getElem?_eq_some_iff.1 hx
  rw [List.drop_eq_getElem_cons h1]
  unfold inB
  rw [List.all_cons]
def notIn (b : List Nat) (x : Nat) : Bool := !(decide (x ∈ b))
/-- Where p is met first. -/
def idxP (p : Nat → Bool) (l : List Nat) : Int := if l.any p then (l.findIdx p : Nat) else -1
structure IxSt (p : Nat → Bool) (l : List Nat) where
  k : Nat
  hk : k ≤ l.length
  hno : ∀ j, j < k → p (atN l j) = false
theorem idxP_at {p : Nat → Bool} {l : List Nat} {k : Nat} (hk : k < l.length) (hno : ∀ j, j < k → p (atN l j) = false) (h : p (atN l k) = true) : idxP p l = (k : Nat) := by
  have h1 : l.any p = true := List.any_eq_true.2 ⟨atN l k, (mem_atN l _).2 ⟨k, hk, rfl⟩, h⟩
  unfold idxP
  rw [if_pos h1]
  have hat : ∀ j (hj : j < l.length), l[j] = atN l j := fun j hj => by
    have := atN_some hj
    rw [List.getElem?_eq_getElem hj] at this
    exact Option.some.inj this
  have : l.findIdx p = k := by
    rw [List.findIdx_eq hk]
    refine ⟨by rw [hat k hk]; exact h, fun j hj => by rw [hat j (by omega)]; exact hno j hj⟩
  rw [this]
theorem idxP_none {p : Nat → Bool} {l : List Nat} (hno : ∀ j, j < l.length → p (atN l j) = false) : idxP p l = -1 := by
  have h1 : l.any p = false := by
    rw [Bool.eq_false_iff]
    intro h
    obtain ⟨x, hx, hp⟩ := List.any_eq_true.1 h
    obtain ⟨j, hj, rfl⟩ := (mem_atN l x).1 hx
    rw [hno j hj] at hp
    cases hp
  unfold idxP
  rw [h1]
  rfl
theorem inB_idx (a b : List Nat) : inB a b = decide (idxP (notIn b) a < 0) := by
  unfold idxP
  cases h : a.any (notIn b) with
  | true =>
    obtain ⟨x, hx, hp⟩ := List.any_eq_true.1 h
    have h1 : inB a b = false := by
      rw [Bool.eq_false_iff]
      intro hh
      have := List.all_eq_true.1 hh x hx
      unfold notIn at hp
      rw [this] at hp
      cases hp
    rw [h1, if_pos rfl]
    exact (decide_eq_false (by omega)).symm
  | false =>
    have h1 : inB a b = true := by
      refine List.all_eq_true.2 fun x hx => ?_
      have : notIn b x = false := by
        cases hq : notIn b x with
        | false => rfl
        | true =>
          have := List.any_eq_true.2 ⟨x, hx, hq⟩
          rw [h] at this
          cases this
      unfold notIn at this
      simpa using this
    rw [h1]
    rfl
end Go.Proofs.Ytkbpddejafdmdaa.A

namespace Go.Proofs.Ytkbpddejafdmdaa.A
open Go
set_option linter.unusedVariables false
set_option maxRecDepth 100000
set_option pp.maxSteps 1500

def delB (b : List Nat) (c : Bool) (x : Nat) : Bool := decide (x ∈ b) != c
theorem belowH_us3 (b : List Nat) (c : Bool) (R : List Nat) : belowH 3 [.row [us b], .row [bo c], .row (R.map u64n)] = true := by
  simp only [belowH, belowO, belowL_us]
  rfl
def keepL (b : List Nat) (c : Bool) (l : List Nat) : List Nat := l.filter fun x => !(delB b c x)
theorem keep_snoc (b : List Nat) (c : Bool) (l : List Nat) (x : Nat) : keepL b c (l ++ [x]) = keepL b c l ++ (if delB b c x then [] else [x]) := by
  unfold keepL
  rw [List.filter_append]
  cases h : delB b c x <;> simp [h]
theorem keep_all {b : List Nat} {c : Bool} {l : List Nat} {k : Nat} (h : ∀ j, j < k → delB b c (atN l j) = false) (hk : k ≤ l.length) : keepL b c (l.take k) = l.take k := by
  unfold keepL
  rw [List.filter_eq_self]
  intro x hx
  obtain ⟨j, hj, rfl⟩ := (mem_atN _ x).1 hx
  rw [List.length_take] at hj
  have : atN (l.take k) j = atN l j := by
    unfold atN
    rw [List.getD_eq_getElem?_getD, List.getElem?_take_of_lt (by omega), ← List.getD_eq_getElem?_getD]
  rw [this, h j (by omega)]
  rfl
structure DelSt (b : List Nat) (c : Bool) (l : List Nat) where
  i : Nat
  j : Nat
  R : List Nat
  hij : i < j
  hj : j ≤ l.length
  len : R.length = l.length
  old : ∀ p, j ≤ p → atN R p = atN l p
  hR : R.take i = keepL b c (l.take j)
theorem idxP_cases (p : Nat → Bool) (l : List Nat) : (idxP p l = -1 ∧ ∀ j, j < l.length → p (atN l j) = false) ∨ ∃ k, k < l.length ∧ idxP p l = (k : Nat) ∧ p (atN l k) = true ∧ ∀ j, j < k → p (atN l j) = false := by
  by_cases h : ∃ k, k < l.length ∧ p (atN l k) = true
  · have key : ∀ n, (∃ k, k < n ∧ k < l.length ∧ p (atN l k) = true) → ∃ k, k < l.length ∧ p (atN l k) = true ∧ ∀ j, j < k → p (atN l j) = false := by
      intro n
      induction n with
      | zero => rintro ⟨k, hk, _⟩; omega
      | succ n ih =>
        rintro ⟨k, hk, h1, h2⟩
        by_cases hq : ∃ k, k < n ∧ k < l.length ∧ p (atN l k) = true
        · exact ih hq
        · have hkn : k = n := by
            refine Classical.byContradiction fun hne => hq ⟨k, by omega, h1, h2⟩
          subst hkn
          refine ⟨k, h1, h2, fun j hj => ?_⟩
          cases hp : p (atN l j) with
          | false => rfl
          | true => exact absurd ⟨j, hj, by omega, hp⟩ hq
    obtain ⟨k, h1, h2⟩ := h
    obtain ⟨k, h3, h4, h5⟩ := key (k + 1) ⟨k, by omega, h1, h2⟩
    exact .inr ⟨k, h3, idxP_at h3 h5 h4, h4, h5⟩
  · have hno : ∀ j, j < l.length → p (atN l j) = false := fun j hj => by
      cases hp : p (atN l j) with
      | false => rfl
      | true => exact absurd ⟨j, hj, hp⟩ h
    exact .inl ⟨idxP_none hno, hno⟩
def keptP (a b : List Nat) (c : Bool) : List Nat := if rightB a = true ∧ rightB b = true then keepL b c a else []
end Go.Proofs.Ytkbpddejafdmdaa.A

namespace Go.Proofs.Ytkbpddejafdmdaa.A
open Go
set_option linter.unusedVariables false
set_option maxRecDepth 100000
set_option pp.maxSteps 1500

def packN (l : List Nat) : List Nat := l.length :: l.flatMap be8
def packB (l : List Nat) : ByteArray := BA (packN l)
def pkN (l : List Nat) (k : Nat) : List Nat := l.length :: (l.take k).flatMap be8
theorem pkN_succ {l : List Nat} {k x : Nat} (h : l[k]? = some x) : pkN l (k + 1) = pkN l k ++ be8 x := by
  unfold pkN
  rw [take_snocA h, List.flatMap_append, List.cons_append]
  simp
theorem pkN_len (l : List Nat) (k : Nat) (hk : k ≤ l.length) : (pkN l k).length = 1 + 8 * k := by
  have h : ∀ m : List Nat, (m.flatMap be8).length = 8 * m.length := fun m => by
    induction m with
    | nil => rfl
    | cons x m ih => rw [List.flatMap_cons, List.length_append, ih, List.length_cons]; show (beN x 8).length + _ = _; rw [beN_len]; omega
  unfold pkN
  rw [List.length_cons, h, List.length_take]
  omega
/-- The first j bytes of a number. -/
def beF (t j : Nat) : List Nat := (be8 t).take j
theorem be8_at (t j : Nat) (h : j < 8) : (be8 t)[j]? = some (t / 256 ^ (7 - j) % 256) := by
  have key : ∀ n j, j < n → (beN t n)[j]? = some (t / 256 ^ (n - 1 - j) % 256) := by
    intro n
    induction n with
    | zero => intro j h; omega
    | succ n ih =>
      intro j h
      cases j with
      | zero => rfl
      | succ j =>
        show (beN t n)[j]? = _
        rw [ih j (by omega), show n + 1 - 1 - (j + 1) = n - 1 - j by omega]
  exact key 8 j h
theorem beF_succ (t j : Nat) (h : j < 8) : beF t (j + 1) = beF t j ++ [t / 256 ^ (7 - j) % 256] := take_snocA (be8_at t j h)
theorem beF_len (t j : Nat) (h : j ≤ 8) : (beF t j).length = j := by
  unfold beF
  rw [List.length_take]
  show min j (beN t 8).length = j
  rw [beN_len]
  omega
theorem shr_byte (t j : Nat) (h : j < 8) : wrp .u8 (hd ((t : Int).fdiv (2 ^ min (wrp .i64 (8 * wrp .i64 (7 - (j : Int)))).toNat IntKind.u64.bits))) = ((t / 256 ^ (7 - j) % 256 : Nat) : Int) := by
  have e1 : wrp .i64 (7 - (j : Int)) = ((7 - j : Nat) : Int) := by rw [wrpE, wi64]; omega
  have e2 : wrp .i64 (8 * ((7 - j : Nat) : Int)) = ((8 * (7 - j) : Nat) : Int) := by rw [wrpE, wi64]; omega
  rw [e1, e2, hd_eq, Int.toNat_natCast]
  have e3 : min (8 * (7 - j)) IntKind.u64.bits = 8 * (7 - j) := Nat.min_eq_left (show 8 * (7 - j) ≤ 64 by omega)
  have e4 : (2 : Int) ^ (8 * (7 - j)) = ((256 ^ (7 - j) : Nat) : Int) := by
    rw [Int.pow_mul, Int.natCast_pow]
    rfl
  rw [e3, e4, Int.fdiv_eq_ediv_of_nonneg _ (Int.natCast_nonneg _), ← Int.natCast_ediv]
  exact byteW _
theorem rem_byte (x : Nat) : wrp .u8 (hd ((x : Int).tmod 256)) = ((x % 256 : Nat) : Int) := by
  rw [hd_eq]
  show wrp .u8 ((x % 256 : Nat) : Int) = _
  rw [byteW]
  omega
structure PkIn (l : List Nat) (k x : Nat) where
  j : Nat
  R : List Nat
  hj : j ≤ 8
  hR : R = pkN l k ++ beF x j
structure PkOut (l : List Nat) where
  k : Nat
  R : List Nat
  hk : k ≤ l.length
  hR : R = pkN l k
def packP (l : List Nat) : ByteArray × Int := if rightB l = true then (packB l, 0) else (emp, 1)
theorem lpack_ok (l : List Nat) (hn : l.length < 9223372036854775807) : ACalls Try.prog 93 [us l] [] (Ret (.tup [str (packP l).1, i64 (packP l).2])) := by
  have hc := right_ok l hn
  cases hr : rightB l with
  | false =>
    have hp : packP l = (emp, 1) := by unfold packP; rw [hr]; rfl
    rw [hp]
    rw [hr] at hc
    refine acalls_of_awp hT mixed Try.func93 rfl (by kernel_rfl) (by kernel_rfl) (Nat.le_of_ble_eq_true rfl) ?_
    refine callP hc rfl rfl ?_
    refine end0 rfl rfl rfl rfl
  | true =>
    have hp : packP l = (packB l, 0) := by unfold packP; rw [if_pos hr]
    rw [hp]
    rw [hr] at hc
    have h6 := rightB_len hr
    refine acalls_of_awp hT mixed Try.func93 rfl (by kernel_rfl) (by kernel_rfl) (Nat.le_of_ble_eq_true rfl) ?_
    refine callP hc rfl rfl ?_
    have hw : wrp .u8 (l.length : Int) = ((l.length : Nat) : Int) := by rw [wrpE, wu8]; omega
    refine loopI (α := PkOut l) (fun z => [(4, .slc 0 0 z.R.length 1), (15, us l), (16, i64 l.length), (17, i64 (z.k : Nat))]) (fun z => [.row (z.R.map u8n)]) (fun z => l.length - z.k) ⟨0, [l.length], Nat.zero_le _, rfl⟩ [0]
      ⟨⟨rfl, rfl, rfl, rfl, True.intro⟩, ⟨.inl (by show some (AObj.row [.sc (.int .u8 (wrp .u8 (l.length : Int)))]) = some (renO _ (.row ([l.length].map u8n))); rw [renO_u8, hw]; rfl), True.intro⟩, rfl, rfl, rfl⟩ ?_
    rintro ⟨k, R, hk, hR⟩ K hK
    have hinc : wrp .i64 ((k : Int) + 1) = ((k + 1 : Nat) : Int) := by rw [wrpE, wi64]; omega
    have hRl : R.length = 1 + 8 * k := by rw [hR, pkN_len l k hk]
    refine forkD (fun h => ?_) (fun h => ?_)
    · have h' : k < l.length := by have : (k : Int) < (l.length : Int) := h; omega
      obtain ⟨x, hx⟩ : ∃ x, l[k]? = some x := ⟨_, List.getElem?_eq_getElem h'⟩
      refine Ob.intro (show (0 : Int) ≤ (k : Nat) ∧ ((k : Nat) : Int) < (l.length : Nat) by omega) ?_
      refine optK_intro (nth_map hx) ?_
      refine loopI (α := PkIn l k x) (fun z => [(4, .slc 0 0 z.R.length 1), (6, u64n x), (15, us l), (16, i64 l.length), (17, i64 (k : Nat)), (21, i64 (z.j : Nat))]) (fun z => [.row (z.R.map u8n)]) (fun z => 8 - z.j) ⟨0, R, Nat.zero_le _, by rw [hR]; simp [beF]⟩ [0]
        ⟨⟨rfl, rfl, rfl, rfl, rfl, rfl, True.intro⟩, ⟨.inl (by rw [renO_u8]; rfl), True.intro⟩, rfl, rfl, rfl⟩ ?_
      rintro ⟨j, R2, hj, hR2⟩ K2 hK2
      have hincj : wrp .i64 ((j : Int) + 1) = ((j + 1 : Nat) : Int) := by rw [wrpE, wi64]; omega
      have hRl2 : R2.length = 1 + 8 * k + j := by rw [hR2, List.length_append, pkN_len l k hk, beF_len x j hj]
      refine forkD (fun h => ?_) (fun h => ?_)
      · have h2 : j < 8 := by have : (j : Int) < 8 := h; omega
        refine Ob.intro (show (0 : Int) ≤ wrp .i64 (8 * wrp .i64 (7 - (j : Int))) by rw [wrpE, wrpE, wi64, wi64]; omega) ?_
        refine Ob.intro rfl ?_
        refine optK_intro (rdN_all (cs := R2.map u8n) rfl (by rw [List.length_map, Nat.mul_one])) ?_
        refine Ob.intro (show (R2.length + 1) * 1 ≤ 140737488355328 ∧ R2.length + 1 ≤ 9223372036854775807 by omega) ?_
        refine hK2 ⟨j + 1, R2 ++ [x / 256 ^ (7 - j) % 256], h2, by rw [hR2, beF_succ x j h2, List.append_assoc]⟩ [2] _ (show 8 - j = 8 - (j + 1) + 1 by omega) ⟨⟨slcE rfl (by rw [List.length_append]; rfl), rfl, rfl, rfl, rfl, congrArg i64 hincj, True.intro⟩, ⟨.inl ?_, True.intro⟩, rfl, rfl, rfl⟩
        show some (AObj.row (R2.map u8n ++ [.sc (.int .u8 (wrp .u8 (hd ((x : Int).fdiv (2 ^ min (wrp .i64 (8 * wrp .i64 (7 - (j : Int)))).toNat IntKind.u64.bits)))))])) = some (renO _ (.row ((R2 ++ [x / 256 ^ (7 - j) % 256]).map u8n)))
        rw [renO_u8, shr_byte x j h2, List.map_append]
        rfl
      · have h2 : j = 8 := by have : ¬ (j : Int) < 8 := h; omega
        refine hK ⟨k + 1, R2, h', by rw [hR2, h2, pkN_succ hx]; rfl⟩ [0] _ (show l.length - k = l.length - (k + 1) + 1 by omega) ⟨⟨rfl, rfl, rfl, congrArg i64 hinc, True.intro⟩, ⟨.inl (by rw [renO_u8]; rfl), True.intro⟩, rfl, rfl, rfl⟩
    · have h' : k = l.length := by have : ¬ (k : Int) < (l.length : Int) := h; omega
      have hRp : R = packN l := by rw [hR, h']; unfold pkN packN; rw [List.take_length]
      refine optK_intro (a := R.map u8n) (src_all rfl (by rw [List.length_map])) ?_
      refine optK_intro (a := R.map UInt8.ofNat) (textA_u8 R) ?_
      refine end0 rfl rfl rfl ?_
      show AV.tup [str (BA R), i64 0] = _
      rw [hRp]
      rfl
def rowM (t m : Nat) : List Nat := List.replicate (8 - m) 0 ++ beN t m
theorem rowM_set (t m : Nat) (h : m < 8) : (rowM t m).set (7 - m) (t / 256 ^ m % 256) = rowM t (m + 1) := by
  unfold rowM
  rw [show 8 - m = (7 - m) + 1 by omega, List.replicate_succ', List.append_assoc, List.set_append_right _ _ (by rw [List.length_replicate]; exact Nat.le_refl _), List.length_replicate, Nat.sub_self, show 8 - (m + 1) = 7 - m by omega]
  rfl
structure RpIn (t : Nat) where
  m : Nat
  X : List Nat
  hm : m ≤ 8
  hX : X = rowM t m
theorem packB_size {l : List Nat} : (packB l).size = 1 + 8 * l.length := by
  unfold packB
  rw [BA_size]
  have := pkN_len l l.length (Nat.le_refl _)
  unfold pkN at this
  rw [List.take_length] at this
  exact this
theorem packN_lt {l : List Nat} (h : l.length < 256) : ∀ x ∈ packN l, x < 256 := by
  intro x hx
  unfold packN at hx
  rcases List.mem_cons.1 hx with rfl | hx
  · exact h
  · obtain ⟨y, _, hy⟩ := List.mem_flatMap.1 hx
    exact beN_lt y 8 x hy
end Go.Proofs.Ytkbpddejafdmdaa.A

namespace Go.Proofs.Ytkbpddejafdmdaa.A
open Go
set_option linter.unusedVariables false
set_option maxRecDepth 100000
set_option pp.maxSteps 1500

/-- The first k numbers of eight bytes behind the first byte. -/
def tagsB (s : ByteArray) : Nat → List Nat
  | 0 => []
  | k + 1 => tagsB s k ++ [valB s (1 + 8 * k) 8]
theorem tagsB_len (s : ByteArray) : ∀ k, (tagsB s k).length = k
  | 0 => rfl
  | k + 1 => by simp [tagsB, tagsB_len s k]
theorem tagsB_lt (s : ByteArray) : ∀ k, ∀ x ∈ tagsB s k, x < 18446744073709551616
  | 0, x, h => by cases h
  | k + 1, x, h => by
    rcases List.mem_append.1 h with h | h
    · exact tagsB_lt s k x h
    · rw [List.mem_singleton.1 h]
      exact valB_64 s _
structure UnP where
  l : List Nat
  n : Int
  e : Int
def unpL (s : ByteArray) : UnP :=
  if s.size = 0 then ⟨[], 0, 3⟩ else if 6 < octB s 0 then ⟨[], 0, 4⟩ else if s.size < 1 + 8 * octB s 0 then ⟨[], 0, 3⟩ else
    if rightB (tagsB s (octB s 0)) = true then ⟨tagsB s (octB s 0), (1 + 8 * octB s 0 : Nat), 0⟩ else ⟨[], 0, 4⟩
theorem unW {P : Program} {g : FuncId} {s : ByteArray} {args : List AV} {H : Heap} (h : ACalls P g args H (fun E G => ((E = .ret (.tup [us (unpL s).l, i64 (unpL s).n, i64 (unpL s).e])) ∨ ((unpL s).l = [] ∧ E = .ret (.tup [nilS, i64 (unpL s).n, i64 (unpL s).e]))) ∧ G = [])) : ACalls P g args H (Ret (.tup [us (unpL s).l, i64 (unpL s).n, i64 (unpL s).e])) := by
  refine h.weakR ?_
  rintro E G ⟨rfl | ⟨h, rfl⟩, rfl⟩
  · exact ⟨_, ⟨rfl, rfl⟩, EndR_refl _⟩
  · rw [h]
    exact ⟨_, ⟨rfl, rfl⟩, EndR_nilT _⟩
structure UnIn (s : ByteArray) (k : Nat) where
  j : Nat
  hj : j ≤ 8
structure UnOut (s : ByteArray) where
  k : Nat
  R : List Nat
  hk : k ≤ octB s 0
  hR : R = tagsB s k
theorem lunpack_ok (s : ByteArray) : ACalls Try.prog 109 [str s] [] (Ret (.tup [us (unpL s).l, i64 (unpL s).n, i64 (unpL s).e])) := by
  refine unW ?_
  refine acalls_of_awp hT mixed Try.func109 rfl (by kernel_rfl) (by kernel_rfl) (Nat.le_of_ble_eq_true rfl) ?_
  refine fork (fun h => ?_) (fun h => ?_)
  · have h0 : s.size = 0 := by
      have : s = ⟨#[]⟩ := strEq_iff.1 h
      rw [this]
      rfl
    have hu : unpL s = ⟨[], 0, 3⟩ := by unfold unpL; rw [if_pos h0]
    rw [hu]
    exact ⟨rfl, [], .tup [nilS, i64 0, i64 3], ⟨⟨_, rfl, rfl⟩, True.intro, Nat.zero_le _, rfl⟩, .inr ⟨rfl, rfl⟩, rfl⟩
  have h0 : s.size ≠ 0 := fun hh => by
    have : s = ⟨#[]⟩ := by
      apply ext_BA
      exact List.eq_nil_of_length_eq_zero (by rw [listB]; exact hh)
    rw [strEq_iff.2 this] at h
    cases h
  have hn := octB_lt s 0
  have e1 : wrp .i64 (octB s 0 : Int) = ((octB s 0 : Nat) : Int) := byteI _ (by omega)
  have e20 : wrp .i64 (8 * ((octB s 0 : Nat) : Int)) = ((8 * octB s 0 : Nat) : Int) := by rw [wrpE, wi64]; omega
  have e2 : wrp .i64 (1 + wrp .i64 (8 * ((octB s 0 : Nat) : Int))) = ((1 + 8 * octB s 0 : Nat) : Int) := by rw [e20, wrpE, wi64]; omega
  refine Ob.intro (show (0 : Int) ≤ 0 ∧ 0 < (s.size : Int) by omega) ?_
  refine forkD (fun h => ?_) (fun h => ?_)
  · have h6 : 6 < octB s 0 := by
      have : wrp .i64 (octB s 0 : Int) > 6 := h
      rw [e1] at this
      omega
    have hu : unpL s = ⟨[], 0, 4⟩ := by unfold unpL; rw [if_neg h0, if_pos h6]
    rw [hu]
    exact ⟨rfl, [], .tup [nilS, i64 0, i64 4], ⟨⟨_, rfl, rfl⟩, True.intro, Nat.zero_le _, rfl⟩, .inr ⟨rfl, rfl⟩, rfl⟩
  have h6 : ¬ 6 < octB s 0 := by
    have : ¬ wrp .i64 (octB s 0 : Int) > 6 := h
    rw [e1] at this
    omega
  refine forkD (fun h => ?_) (fun h => ?_)
  · have hs : s.size < 1 + 8 * octB s 0 := by
      have : (s.size : Int) < wrp .i64 (1 + wrp .i64 (8 * wrp .i64 (octB s 0 : Int))) := h
      rw [e1, e2] at this
      omega
    have hu : unpL s = ⟨[], 0, 3⟩ := by unfold unpL; rw [if_neg h0, if_neg h6, if_pos hs]
    rw [hu]
    exact ⟨rfl, [], .tup [nilS, i64 0, i64 3], ⟨⟨_, rfl, rfl⟩, True.intro, Nat.zero_le _, rfl⟩, .inr ⟨rfl, rfl⟩, rfl⟩
  have hs : ¬ s.size < 1 + 8 * octB s 0 := by
    have : ¬ (s.size : Int) < wrp .i64 (1 + wrp .i64 (8 * wrp .i64 (octB s 0 : Int))) := h
    rw [e1, e2] at this
    omega
  refine loopG (α := UnOut s) (fun z => [(0, str s), (6, i64 (1 + 8 * octB s 0 : Nat)), (7, .slc 0 0 z.R.length 1), (8, i64 (1 + 8 * z.k : Nat))]) (fun z => [.row (z.R.map u64n)]) [] (fun z => octB s 0 - z.k) ⟨0, [], Nat.zero_le _, rfl⟩ [.at_ 7 1] [0]
    ⟨⟨rfl, congrArg i64 (by show wrp .i64 (1 + wrp .i64 (8 * wrp .i64 (octB s 0 : Int))) = _; rw [e1, e2]), rfl, rfl, True.intro⟩, ⟨.inl rfl, True.intro⟩, rfl, rfl, rfl⟩ ?_
  rintro ⟨k, R, hk, hR⟩ K hK
  have hRl : R.length = k := by rw [hR, tagsB_len]
  have e8 : wrp .i64 (((1 + 8 * k : Nat) : Int) + 8) = ((1 + 8 * (k + 1) : Nat) : Int) := by rw [wrpE, wi64]; omega
  refine forkD (fun h => ?_) (fun h => ?_)
  · have h' : k < octB s 0 := by have : ((1 + 8 * k : Nat) : Int) < ((1 + 8 * octB s 0 : Nat) : Int) := h; omega
    have hsz : (s.extract (1 + 8 * k) (1 + 8 * (k + 1))).size = 8 := by rw [ext_size (by omega)]; omega
    refine Ob.intro (show (0 : Int) ≤ (1 + 8 * k : Nat) ∧ ((1 + 8 * k : Nat) : Int) ≤ wrp .i64 (((1 + 8 * k : Nat) : Int) + 8) ∧ wrp .i64 (((1 + 8 * k : Nat) : Int) + 8) ≤ (s.size : Int) by rw [e8]; omega) ?_
    refine loopI (α := UnIn s k) (fun z => [(0, str s), (6, i64 (1 + 8 * octB s 0 : Nat)), (7, .slc 0 0 R.length 1), (8, i64 (1 + 8 * k : Nat)), (9, u64n (valB s (1 + 8 * k) z.j)), (38, .view 8 (bytesA (s.extract (1 + 8 * k) (1 + 8 * (k + 1))))), (39, i64 8), (40, i64 (z.j : Nat))]) (fun z => [.row (R.map u64n)]) (fun z => 8 - z.j) ⟨0, Nat.zero_le _⟩ [0]
      ⟨⟨rfl, rfl, rfl, rfl, rfl, ?_, ?_, rfl, True.intro⟩, ⟨.inl (by rw [renO_us]; rfl), True.intro⟩, rfl, rfl, rfl⟩ ?_
    · show AV.view (s.extract ((1 + 8 * k : Nat) : Int).toNat (wrp .i64 (((1 + 8 * k : Nat) : Int) + 8)).toNat).size (bytesA (s.extract ((1 + 8 * k : Nat) : Int).toNat (wrp .i64 (((1 + 8 * k : Nat) : Int) + 8)).toNat)) = .view 8 _
      rw [e8, Int.toNat_natCast, Int.toNat_natCast, hsz]
    · show AV.sc (.int .i64 ((s.extract ((1 + 8 * k : Nat) : Int).toNat (wrp .i64 (((1 + 8 * k : Nat) : Int) + 8)).toNat).size : Nat)) = i64 8
      rw [e8, Int.toNat_natCast, Int.toNat_natCast, hsz]
      rfl
    rintro ⟨j, hj⟩ K2 hK2
    have hincj : wrp .i64 ((j : Int) + 1) = ((j + 1 : Nat) : Int) := by rw [wrpE, wi64]; omega
    refine forkD (fun h => ?_) (fun h => ?_)
    · have h2 : j < 8 := by have : (j : Int) < 8 := h; omega
      have hx : (byL (s.extract (1 + 8 * k) (1 + 8 * (k + 1))))[j]? = some (octB s (1 + 8 * k + j)) := by
        rw [byL_at (by rw [hsz]; exact h2), ext_at (by omega) (by omega)]
      refine Ob.intro (show (0 : Int) ≤ (j : Nat) ∧ ((j : Nat) : Int) < ((8 : Nat) : Int) by omega) ?_
      refine optK_intro (a := u8n (octB s (1 + 8 * k + j))) (by rw [bytesA_u8]; exact nth_map hx) ?_
      refine Ob.intro (by decide) ?_
      refine hK2 ⟨j + 1, h2⟩ [0] _ (show 8 - j = 8 - (j + 1) + 1 by omega) ⟨⟨rfl, rfl, rfl, rfl, congrArg (fun z => AV.sc (.int .u64 z)) (or_byte64 _ _ (valB_lt8 s _ j h2) (octB_lt s _)), rfl, rfl, congrArg i64 hincj, True.intro⟩, ⟨.inl (by rw [renO_us]; rfl), True.intro⟩, rfl, rfl, rfl⟩
    · have h2 : j = 8 := by have : ¬ (j : Int) < 8 := h; omega
      subst h2
      refine Ob.intro rfl ?_
      refine optK_intro (rdN_all (cs := R.map u64n) rfl (by rw [List.length_map, Nat.mul_one])) ?_
      refine Ob.intro (show (R.length + 1) * 8 ≤ 140737488355328 ∧ R.length + 1 ≤ 9223372036854775807 by omega) ?_
      refine hK ⟨k + 1, R ++ [valB s (1 + 8 * k) 8], h', by rw [hR]; rfl⟩ [] [2] _ (show octB s 0 - k = octB s 0 - (k + 1) + 1 by omega) ⟨⟨rfl, rfl, slcE rfl (by rw [List.length_append]; rfl), congrArg i64 e8, True.intro⟩, ⟨.inl ?_, True.intro⟩, rfl, rfl, rfl⟩
      show some (AObj.row (R.map u64n ++ [u64n (valB s (1 + 8 * k) 8)])) = some (renO _ (.row ((R ++ [valB s (1 + 8 * k) 8]).map u64n)))
      rw [renO_us, List.map_append]
      rfl
  · have h' : k = octB s 0 := by have : ¬ ((1 + 8 * k : Nat) : Int) < ((1 + 8 * octB s 0 : Nat) : Int) := h; omega
    rw [h'] at hR
    have hc := right_ok R (by omega)
    have hfz : frz [.row (R.map u64n)] 0 8 (.slc 0 0 R.length 1) = some (us R) := frz_us3 (k := 6) rfl rfl rfl
    have hfz7 : frz [.row (R.map u64n)] 0 7 (.slc 0 0 R.length 1) = some (us R) := frz_us3 (k := 5) rfl rfl rfl
    have hfm : mapO (frz [.row (R.map u64n)] 0 8) [.slc 0 0 R.length 1] = some [us R] := by simp only [mapO, hfz]
    cases hr : rightB R with
    | false =>
      have hu : unpL s = ⟨[], 0, 4⟩ := by unfold unpL; rw [if_neg h0, if_neg h6, if_neg hs, ← hR, hr]; rfl
      rw [hr] at hc
      refine callF hc hfm rfl ?_
      rw [hu]
      exact ⟨rfl, [], .tup [nilS, i64 0, i64 4], ⟨⟨_, rfl, rfl⟩, True.intro, Nat.zero_le _, rfl⟩, .inr ⟨rfl, rfl⟩, rfl⟩
    | true =>
      have hu : unpL s = ⟨R, (1 + 8 * octB s 0 : Nat), 0⟩ := by unfold unpL; rw [if_neg h0, if_neg h6, if_neg hs, ← hR, if_pos hr]
      rw [hr] at hc
      refine callF hc hfm rfl ?_
      rw [hu]
      have hft : frz [.row (R.map u64n)] 0 8 (.tup [.slc 0 0 R.length 1, i64 (1 + 8 * octB s 0 : Nat), i64 0]) = some (.tup [us R, i64 (1 + 8 * octB s 0 : Nat), i64 0]) := frz_tup (by simp only [mapO, hfz7]; rfl)
      exact ⟨rfl, [], .tup [us R, i64 (1 + 8 * octB s 0 : Nat), i64 0], ⟨⟨_, rfl, hft⟩, True.intro, Nat.zero_le _, rfl⟩, .inl rfl, rfl⟩
end Go.Proofs.Ytkbpddejafdmdaa.A

namespace Go.Proofs.Ytkbpddejafdmdaa.A
open Go
set_option linter.unusedVariables false
set_option maxRecDepth 100000
set_option pp.maxSteps 1500

/-! ### Packs -/
theorem flat_at : ∀ {l : List Nat} {k j x : Nat}, l[k]? = some x → j < 8 → (l.flatMap be8)[8 * k + j]? = (be8 x)[j]?
  | [], k, j, x, h, _ => by simp at h
  | y :: l, 0, j, x, h, hj => by
    simp at h
    subst h
    rw [List.flatMap_cons, List.getElem?_append_left (by show _ < (beN y 8).length; rw [beN_len]; omega)]
    simp
  | y :: l, k + 1, j, x, h, hj => by
    have hl : (be8 y).length = 8 := beN_len y 8
    rw [List.flatMap_cons, List.getElem?_append_right (by rw [hl]; omega), hl, show 8 * (k + 1) + j - 8 = 8 * k + j by omega]
    exact flat_at (by simpa using h) hj
theorem packN_at {l : List Nat} {k j x : Nat} (h : l[k]? = some x) (hj : j < 8) : (packN l)[1 + 8 * k + j]? = some (x / 256 ^ (7 - j) % 256) := by
  unfold packN
  rw [show 1 + 8 * k + j = (8 * k + j) + 1 by omega, List.getElem?_cons_succ, flat_at h hj, be8_at x j hj]
theorem octB_left {a b : ByteArray} {i : Nat} (h : i < a.size) : octB (a ++ b) i = octB a i := by
  rw [octB_eq, octB_eq, byL_append, List.getD_eq_getElem?_getD, List.getD_eq_getElem?_getD, List.getElem?_append_left (by rw [byL_len]; exact h)]
theorem octB_BA {l : List Nat} (h : ∀ x ∈ l, x < 256) (i : Nat) : octB (BA l) i = l.getD i 0 := by rw [octB_eq, byL_BA h]
theorem size_append (a b : ByteArray) : (a ++ b).size = a.size + b.size := by
  rw [← listB, appendB, List.length_append, listB, listB]
theorem tags_back {l : List Nat} (h6 : l.length ≤ 6) (h64 : ∀ x ∈ l, x < 18446744073709551616) (s : ByteArray) : ∀ k, k ≤ l.length → tagsB (packB l ++ s) k = l.take k
  | 0, _ => by simp [tagsB]
  | k + 1, hk => by
    obtain ⟨x, hx⟩ : ∃ x, l[k]? = some x := ⟨_, List.getElem?_eq_getElem (by omega)⟩
    rw [tagsB, tags_back h6 h64 s k (by omega), take_snocA hx]
    congr 2
    have hv := valB_beN (s := packB l ++ s) (p := 1 + 8 * k) (t := x) (n := 8) (fun j hj => by
      have hlt : 1 + 8 * k + j < (packB l).size := by rw [packB_size]; omega
      rw [octB_left hlt]
      unfold packB
      rw [octB_BA (packN_lt (by omega)), List.getD_eq_getElem?_getD, packN_at hx hj]
      rfl) 8 (Nat.le_refl _)
    rw [hv, Nat.sub_self, Nat.pow_zero, Nat.div_one]
    exact Nat.mod_eq_of_lt (h64 x (List.mem_of_getElem? hx))
theorem unp_pack {l : List Nat} (hr : rightB l = true) (h64 : ∀ x ∈ l, x < 18446744073709551616) (s : ByteArray) : unpL (packB l ++ s) = ⟨l, ((packB l).size : Nat), 0⟩ := by
  have h6 := rightB_len hr
  have hsz := packB_size (l := l)
  have h0 : octB (packB l ++ s) 0 = l.length := by
    rw [octB_left (by omega)]
    unfold packB
    rw [octB_BA (packN_lt (by omega))]
    rfl
  have hall := size_append (packB l) s
  unfold unpL
  rw [h0, tags_back h6 h64 s l.length (Nat.le_refl _), List.take_length, if_neg (by omega), if_neg (by omega), if_neg (by omega), if_pos hr, hsz]
end Go.Proofs.Ytkbpddejafdmdaa.A
