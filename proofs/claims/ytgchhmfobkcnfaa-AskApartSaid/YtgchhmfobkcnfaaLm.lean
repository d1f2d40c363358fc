/- label: comparisons, and what is a label. No condition. -/
import Derived.Test.YtgchhmfobkcnfaaBb
namespace Go.Proofs.Ytgchhmfobkcnfaa.A
open Go
set_option linter.unusedVariables false
set_option maxRecDepth 100000
set_option pp.maxSteps 1500

/-- It rises from p on. -/
def risB : Nat → List Nat → Bool
  | _, [] => true
  | p, x :: l => decide (p < x) && risB x l
def rightB (l : List Nat) : Bool := decide (l.length ≤ 6) && risB 0 l
theorem risB_drop {l : List Nat} {k p x : Nat} (hx : l[k]? = some x) : risB p (l.drop k) = (decide (p < x) && risB x (l.drop (k + 1))) := by
  obtain ⟨h1, rfl⟩ := List.getElem?_eq_some_iff.1 hx
  rw [List.drop_eq_getElem_cons h1, risB]
structure RtSt (l : List Nat) where
  k : Nat
  p : Nat
  hk : k ≤ l.length
  hp : risB p (l.drop k) = risB 0 l
theorem right_ok (l : List Nat) (hn : l.length < 9223372036854775807) : ACalls Try.prog 51 [us l] [] (Ret (bo (rightB l))) := by
  refine acalls_of_awp hT mixed Try.func51 rfl (by kernel_rfl) (by kernel_rfl) (Nat.le_of_ble_eq_true rfl) ?_
  refine forkD (fun h => ?_) (fun h => ?_)
  · have h' : ¬ l.length ≤ 6 := by have : (l.length : Int) > 6 := h; omega
    refine end0 rfl rfl rfl (congrArg bo (by unfold rightB; rw [decide_eq_false h']; rfl))
  have h' : l.length ≤ 6 := by have : ¬ (l.length : Int) > 6 := h; omega
  have hr : rightB l = risB 0 l := by unfold rightB; rw [decide_eq_true h']; rfl
  rw [hr]
  refine loopI (α := RtSt l) (fun z => [(0, us l), (3, u64n z.p), (9, us l), (10, i64 l.length), (11, i64 (z.k : Nat))]) (fun _ => []) (fun z => l.length - z.k) ⟨0, 0, Nat.zero_le _, rfl⟩ [] ⟨⟨rfl, rfl, rfl, rfl, rfl, True.intro⟩, True.intro, rfl, rfl, rfl⟩ ?_
  rintro ⟨k, p, hk, hp⟩ K hK
  have hinc : wrp .i64 ((k : Int) + 1) = ((k + 1 : Nat) : Int) := by rw [wrpE, wi64]; omega
  refine forkD (fun h => ?_) (fun h => ?_)
  · have h' : k < l.length := by have : (k : Int) < (l.length : Int) := h; omega
    obtain ⟨y, hy⟩ : ∃ y, l[k]? = some y := ⟨_, List.getElem?_eq_getElem h'⟩
    rw [risB_drop hy] at hp
    refine Ob.intro (show (0 : Int) ≤ (k : Nat) ∧ ((k : Nat) : Int) < (l.length : Nat) by omega) ?_
    refine optK_intro (nth_map hy) ?_
    refine forkD (fun g => ?_) (fun g => ?_)
    · have g' : ¬ p < y := by have : (y : Int) ≤ (p : Int) := g; omega
      rw [decide_eq_false g', Bool.false_and] at hp
      refine end0 rfl rfl rfl (congrArg bo hp)
    have g' : p < y := by have : ¬ (y : Int) ≤ (p : Int) := g; omega
    rw [decide_eq_true g', Bool.true_and] at hp
    refine hK ⟨k + 1, y, h', hp⟩ [] _ (show l.length - k = l.length - (k + 1) + 1 by omega) ⟨⟨rfl, rfl, rfl, rfl, congrArg i64 hinc, True.intro⟩, True.intro, rfl, rfl, rfl⟩
  · have h' : k = l.length := by have : ¬ (k : Int) < (l.length : Int) := h; omega
    rw [h', List.drop_length] at hp
    refine end0 rfl rfl rfl (congrArg bo hp)
end Go.Proofs.Ytgchhmfobkcnfaa.A

namespace Go.Proofs.Ytgchhmfobkcnfaa.A
open Go
set_option linter.unusedVariables false
set_option maxRecDepth 100000
set_option pp.maxSteps 1500

end Go.Proofs.Ytgchhmfobkcnfaa.A

namespace Go.Proofs.Ytgchhmfobkcnfaa.A
open Go
set_option linter.unusedVariables false
set_option maxRecDepth 100000
set_option pp.maxSteps 1500

/-- The number at a place. -/
def atN (R : List Nat) (k : Nat) : Nat := R.getD k 0
/-- As many of each, and as it was outside of a, b. -/
structure SO (a b : Nat) (R R' : List Nat) : Prop where
  len : R'.length = R.length
  perm : R'.Perm R
  out : ∀ k, k < a ∨ b ≤ k → atN R' k = atN R k
theorem SO.refl (a b : Nat) (R : List Nat) : SO a b R R := ⟨rfl, .refl _, fun _ _ => rfl⟩
theorem SO.trans {a b : Nat} {R S T : List Nat} (h : SO a b R S) (k : SO a b S T) : SO a b R T := ⟨k.len.trans h.len, k.perm.trans h.perm, fun i hi => (k.out i hi).trans (h.out i hi)⟩
end Go.Proofs.Ytgchhmfobkcnfaa.A

namespace Go.Proofs.Ytgchhmfobkcnfaa.A
open Go
set_option linter.unusedVariables false
set_option maxRecDepth 100000
set_option pp.maxSteps 1500

end Go.Proofs.Ytgchhmfobkcnfaa.A

namespace Go.Proofs.Ytgchhmfobkcnfaa.A
open Go
set_option linter.unusedVariables false
set_option maxRecDepth 100000
set_option pp.maxSteps 1500

end Go.Proofs.Ytgchhmfobkcnfaa.A

namespace Go.Proofs.Ytgchhmfobkcnfaa.A
open Go
set_option linter.unusedVariables false
set_option maxRecDepth 100000
set_option pp.maxSteps 1500

end Go.Proofs.Ytgchhmfobkcnfaa.A

namespace Go.Proofs.Ytgchhmfobkcnfaa.A
open Go
set_option linter.unusedVariables false
set_option maxRecDepth 100000
set_option pp.maxSteps 1500

def putL : List Nat → Nat → List Nat
  | [], t => [t]
  | x :: l, t => if t < x then t :: x :: l else if t = x then x :: l else x :: putL l t
/-- Of tags, each once, in their order. -/
def ofL (tags : List Nat) : List Nat := tags.foldl putL []
end Go.Proofs.Ytgchhmfobkcnfaa.A

namespace Go.Proofs.Ytgchhmfobkcnfaa.A
open Go
set_option linter.unusedVariables false
set_option maxRecDepth 100000
set_option pp.maxSteps 1500

inductive OfSt where
  | start
  | mid (k : Nat)
def OfSt.L (tags : List Nat) : OfSt → List (Nat × AV)
  | .start => [(0, us tags), (3, .slc 0 0 0 1), (4, i64 0)]
  | .mid k => [(0, us tags), (3, us (ofL (tags.take k))), (4, i64 (k : Nat))]
def OfSt.H : OfSt → Heap
  | .start => [.row []]
  | .mid _ => []
def OfSt.m (tags : List Nat) : OfSt → Nat
  | .start => tags.length
  | .mid k => tags.length - k
end Go.Proofs.Ytgchhmfobkcnfaa.A

namespace Go.Proofs.Ytgchhmfobkcnfaa.A
open Go
set_option linter.unusedVariables false
set_option maxRecDepth 100000
set_option pp.maxSteps 1500

theorem rightB_len {l : List Nat} (h : rightB l = true) : l.length ≤ 6 := by
  unfold rightB at h
  rw [Bool.and_eq_true] at h
  exact of_decide_eq_true h.1
end Go.Proofs.Ytgchhmfobkcnfaa.A

namespace Go.Proofs.Ytgchhmfobkcnfaa.A
open Go
set_option linter.unusedVariables false
set_option maxRecDepth 100000
set_option pp.maxSteps 1500

end Go.Proofs.Ytgchhmfobkcnfaa.A

namespace Go.Proofs.Ytgchhmfobkcnfaa.A
open Go
set_option linter.unusedVariables false
set_option maxRecDepth 100000
set_option pp.maxSteps 1500

def packN (l : List Nat) : List Nat := l.length :: l.flatMap be8
def packB (l : List Nat) : ByteArray := BA (packN l)
def pkN (l : List Nat) (k : Nat) : List Nat := l.length :: (l.take k).flatMap be8
theorem pkN_succ {l : List Nat} {k x : Nat} (h : l[k]? = some x) : pkN l (k + 1) = pkN l k ++ be8 x := by
  unfold pkN
  rw [take_snocA h, List.flatMap_append, List.cons_append]
  simp
theorem pkN_len (l : List Nat) (k : Nat) (hk : k ≤ l.length) : (pkN l k).length = 1 + 8 * k := by
  have h : ∀ m : List Nat, (m.flatMap be8).length = 8 * m.length := fun m => by
    induction m with
    | nil => rfl
    | cons x m ih => rw [List.flatMap_cons, List.length_append, ih, List.length_cons]; show (beN x 8).length + _ = _; rw [beN_len]; omega
  unfold pkN
  rw [List.length_cons, h, List.length_take]
  omega
/-- The first j bytes of a number. -/
def beF (t j : Nat) : List Nat := (be8 t).take j
theorem be8_at (t j : Nat) (h : j < 8) : (be8 t)[j]? = some (t / 256 ^ (7 - j) % 256) := by
  have key : ∀ n j, j < n → (beN t n)[j]? = some (t / 256 ^ (n - 1 - j) % 256) := by
    intro n
    induction n with
    | zero => intro j h; omega
    | succ n ih =>
      intro j h
      cases j with
      | zero => rfl
      | succ j =>
        show (beN t n)[j]? = _
        rw [ih j (by omega), show n + 1 - 1 - (j + 1) = n - 1 - j by omega]
  exact key 8 j h
theorem beF_succ (t j : Nat) (h : j < 8) : beF t (j + 1) = beF t j ++ [t / 256 ^ (7 - j) % 256] := take_snocA (be8_at t j h)
theorem beF_len (t j : Nat) (h : j ≤ 8) : (beF t j).length = j := by
  unfold beF
  rw [List.length_take]
  show min j (beN t 8).length = j
  rw [beN_len]
  omega
theorem shr_byte (t j : Nat) (h : j < 8) : wrp .u8 (hd ((t : Int).fdiv (2 ^ min (wrp .i64 (8 * wrp .i64 (7 - (j : Int)))).toNat IntKind.u64.bits))) = ((t / 256 ^ (7 - j) % 256 : Nat) : Int) := by
  have e1 : wrp .i64 (7 - (j : Int)) = ((7 - j : Nat) : Int) := by rw [wrpE, wi64]; omega
  have e2 : wrp .i64 (8 * ((7 - j : Nat) : Int)) = ((8 * (7 - j) : Nat) : Int) := by rw [wrpE, wi64]; omega
  rw [e1, e2, hd_eq, Int.toNat_natCast]
  have e3 : min (8 * (7 - j)) IntKind.u64.bits = 8 * (7 - j) := Nat.min_eq_left (show 8 * (7 - j) ≤ 64 by omega)
  have e4 : (2 : Int) ^ (8 * (7 - j)) = ((256 ^ (7 - j) : Nat) : Int) := by
    rw [Int.pow_mul, Int.natCast_pow]
    rfl
  rw [e3, e4, Int.fdiv_eq_ediv_of_nonneg _ (Int.natCast_nonneg _), ← Int.natCast_ediv]
  exact byteW _
structure PkIn (l : List Nat) (k x : Nat) where
  j : Nat
  R : List Nat
  hj : j ≤ 8
  hR : R = pkN l k ++ beF x j
structure PkOut (l : List Nat) where
  k : Nat
  R : List Nat
  hk : k ≤ l.length
  hR : R = pkN l k
def packP (l : List Nat) : ByteArray × Int := if rightB l = true then (packB l, 0) else (emp, 1)
theorem lpack_ok (l : List Nat) (hn : l.length < 9223372036854775807) : ACalls Try.prog 96 [us l] [] (Ret (.tup [str (packP l).1, i64 (packP l).2])) := by
  have hc := right_ok l hn
  cases hr : rightB l with
  | false =>
    have hp : packP l = (emp, 1) := by unfold packP; rw [hr]; rfl
    rw [hp]
    rw [hr] at hc
    refine acalls_of_awp hT mixed Try.func96 rfl (by kernel_rfl) (by kernel_rfl) (Nat.le_of_ble_eq_true rfl) ?_
    refine callP hc rfl rfl ?_
    refine end0 rfl rfl rfl rfl
  | true =>
    have hp : packP l = (packB l, 0) := by unfold packP; rw [if_pos hr]
    rw [hp]
    rw [hr] at hc
    have h6 := rightB_len hr
    refine acalls_of_awp hT mixed Try.func96 rfl (by kernel_rfl) (by kernel_rfl) (Nat.le_of_ble_eq_true rfl) ?_
    refine callP hc rfl rfl ?_
    have hw : wrp .u8 (l.length : Int) = ((l.length : Nat) : Int) := by rw [wrpE, wu8]; omega
    refine loopI (α := PkOut l) (fun z => [(4, .slc 0 0 z.R.length 1), (15, us l), (16, i64 l.length), (17, i64 (z.k : Nat))]) (fun z => [.row (z.R.map u8n)]) (fun z => l.length - z.k) ⟨0, [l.length], Nat.zero_le _, rfl⟩ [0]
      ⟨⟨rfl, rfl, rfl, rfl, True.intro⟩, ⟨.inl (by show some (AObj.row [.sc (.int .u8 (wrp .u8 (l.length : Int)))]) = some (renO _ (.row ([l.length].map u8n))); rw [renO_u8, hw]; rfl), True.intro⟩, rfl, rfl, rfl⟩ ?_
    rintro ⟨k, R, hk, hR⟩ K hK
    have hinc : wrp .i64 ((k : Int) + 1) = ((k + 1 : Nat) : Int) := by rw [wrpE, wi64]; omega
    have hRl : R.length = 1 + 8 * k := by rw [hR, pkN_len l k hk]
    refine forkD (fun h => ?_) (fun h => ?_)
    · have h' : k < l.length := by have : (k : Int) < (l.length : Int) := h; omega
      obtain ⟨x, hx⟩ : ∃ x, l[k]? = some x := ⟨_, List.getElem?_eq_getElem h'⟩
      refine Ob.intro (show (0 : Int) ≤ (k : Nat) ∧ ((k : Nat) : Int) < (l.length : Nat) by omega) ?_
      refine optK_intro (nth_map hx) ?_
      refine loopI (α := PkIn l k x) (fun z => [(4, .slc 0 0 z.R.length 1), (6, u64n x), (15, us l), (16, i64 l.length), (17, i64 (k : Nat)), (21, i64 (z.j : Nat))]) (fun z => [.row (z.R.map u8n)]) (fun z => 8 - z.j) ⟨0, R, Nat.zero_le _, by rw [hR]; simp [beF]⟩ [0]
        ⟨⟨rfl, rfl, rfl, rfl, rfl, rfl, True.intro⟩, ⟨.inl (by rw [renO_u8]; rfl), True.intro⟩, rfl, rfl, rfl⟩ ?_
      rintro ⟨j, R2, hj, hR2⟩ K2 hK2
      have hincj : wrp .i64 ((j : Int) + 1) = ((j + 1 : Nat) : Int) := by rw [wrpE, wi64]; omega
      have hRl2 : R2.length = 1 + 8 * k + j := by rw [hR2, List.length_append, pkN_len l k hk, beF_len x j hj]
      refine forkD (fun h => ?_) (fun h => ?_)
      · have h2 : j < 8 := by have : (j : Int) < 8 := h; omega
        refine Ob.intro (show (0 : Int) ≤ wrp .i64 (8 * wrp .i64 (7 - (j : Int))) by rw [wrpE, wrpE, wi64, wi64]; omega) ?_
        refine Ob.intro rfl ?_
        refine optK_intro (rdN_all (cs := R2.map u8n) rfl (by rw [List.length_map, Nat.mul_one])) ?_
        refine Ob.intro (show (R2.length + 1) * 1 ≤ 140737488355328 ∧ R2.length + 1 ≤ 9223372036854775807 by omega) ?_
        refine hK2 ⟨j + 1, R2 ++ [x / 256 ^ (7 - j) % 256], h2, by rw [hR2, beF_succ x j h2, List.append_assoc]⟩ [2] _ (show 8 - j = 8 - (j + 1) + 1 by omega) ⟨⟨slcE rfl (by rw [List.length_append]; rfl), rfl, rfl, rfl, rfl, congrArg i64 hincj, True.intro⟩, ⟨.inl ?_, True.intro⟩, rfl, rfl, rfl⟩
        show some (AObj.row (R2.map u8n ++ [.sc (.int .u8 (wrp .u8 (hd ((x : Int).fdiv (2 ^ min (wrp .i64 (8 * wrp .i64 (7 - (j : Int)))).toNat IntKind.u64.bits)))))])) = some (renO _ (.row ((R2 ++ [x / 256 ^ (7 - j) % 256]).map u8n)))
        rw [renO_u8, shr_byte x j h2, List.map_append]
        rfl
      · have h2 : j = 8 := by have : ¬ (j : Int) < 8 := h; omega
        refine hK ⟨k + 1, R2, h', by rw [hR2, h2, pkN_succ hx]; rfl⟩ [0] _ (show l.length - k = l.length - (k + 1) + 1 by omega) ⟨⟨rfl, rfl, rfl, congrArg i64 hinc, True.intro⟩, ⟨.inl (by rw [renO_u8]; rfl), True.intro⟩, rfl, rfl, rfl⟩
    · have h' : k = l.length := by have : ¬ (k : Int) < (l.length : Int) := h; omega
      have hRp : R = packN l := by rw [hR, h']; unfold pkN packN; rw [List.take_length]
      refine optK_intro (a := R.map u8n) (src_all rfl (by rw [List.length_map])) ?_
      refine optK_intro (a := R.map UInt8.ofNat) (textA_u8 R) ?_
      refine end0 rfl rfl rfl ?_
      show AV.tup [str (BA R), i64 0] = _
      rw [hRp]
      rfl
theorem packB_size {l : List Nat} : (packB l).size = 1 + 8 * l.length := by
  unfold packB
  rw [BA_size]
  have := pkN_len l l.length (Nat.le_refl _)
  unfold pkN at this
  rw [List.take_length] at this
  exact this
theorem packN_lt {l : List Nat} (h : l.length < 256) : ∀ x ∈ packN l, x < 256 := by
  intro x hx
  unfold packN at hx
  rcases List.mem_cons.1 hx with rfl | hx
  · exact h
  · obtain ⟨y, _, hy⟩ := List.mem_flatMap.1 hx
    exact beN_lt y 8 x hy
end Go.Proofs.Ytgchhmfobkcnfaa.A

namespace Go.Proofs.Ytgchhmfobkcnfaa.A
open Go
set_option linter.unusedVariables false
set_option maxRecDepth 100000
set_option pp.maxSteps 1500

/-- The first k numbers of eight bytes behind the first byte. -/
def tagsB (s : ByteArray) : Nat → List Nat
  | 0 => []
  | k + 1 => tagsB s k ++ [valB s (1 + 8 * k) 8]
theorem tagsB_len (s : ByteArray) : ∀ k, (tagsB s k).length = k
  | 0 => rfl
  | k + 1 => by simp [tagsB, tagsB_len s k]
theorem tagsB_lt (s : ByteArray) : ∀ k, ∀ x ∈ tagsB s k, x < 18446744073709551616
  | 0, x, h => by cases h
  | k + 1, x, h => by
    rcases List.mem_append.1 h with h | h
    · exact tagsB_lt s k x h
    · rw [List.mem_singleton.1 h]
      exact valB_64 s _
structure UnP where
  l : List Nat
  n : Int
  e : Int
def unpL (s : ByteArray) : UnP :=
  if s.size = 0 then ⟨[], 0, 3⟩ else if 6 < octB s 0 then ⟨[], 0, 4⟩ else if s.size < 1 + 8 * octB s 0 then ⟨[], 0, 3⟩ else
    if rightB (tagsB s (octB s 0)) = true then ⟨tagsB s (octB s 0), (1 + 8 * octB s 0 : Nat), 0⟩ else ⟨[], 0, 4⟩
theorem unW {P : Program} {g : FuncId} {s : ByteArray} {args : List AV} {H : Heap} (h : ACalls P g args H (fun E G => ((E = .ret (.tup [us (unpL s).l, i64 (unpL s).n, i64 (unpL s).e])) ∨ ((unpL s).l = [] ∧ E = .ret (.tup [nilS, i64 (unpL s).n, i64 (unpL s).e]))) ∧ G = [])) : ACalls P g args H (Ret (.tup [us (unpL s).l, i64 (unpL s).n, i64 (unpL s).e])) := by
  refine h.weakR ?_
  rintro E G ⟨rfl | ⟨h, rfl⟩, rfl⟩
  · exact ⟨_, ⟨rfl, rfl⟩, EndR_refl _⟩
  · rw [h]
    exact ⟨_, ⟨rfl, rfl⟩, EndR_nilT _⟩
structure UnIn (s : ByteArray) (k : Nat) where
  j : Nat
  hj : j ≤ 8
structure UnOut (s : ByteArray) where
  k : Nat
  R : List Nat
  hk : k ≤ octB s 0
  hR : R = tagsB s k
theorem lunpack_ok (s : ByteArray) : ACalls Try.prog 110 [str s] [] (Ret (.tup [us (unpL s).l, i64 (unpL s).n, i64 (unpL s).e])) := by
  refine unW ?_
  refine acalls_of_awp hT mixed Try.func110 rfl (by kernel_rfl) (by kernel_rfl) (Nat.le_of_ble_eq_true rfl) ?_
  refine fork (fun h => ?_) (fun h => ?_)
  · have h0 : s.size = 0 := by
      have : s = ⟨#[]⟩ := strEq_iff.1 h
      rw [this]
      rfl
    have hu : unpL s = ⟨[], 0, 3⟩ := by unfold unpL; rw [if_pos h0]
    rw [hu]
    exact ⟨rfl, [], .tup [nilS, i64 0, i64 3], ⟨⟨_, rfl, rfl⟩, True.intro, Nat.zero_le _, rfl⟩, .inr ⟨rfl, rfl⟩, rfl⟩
  have h0 : s.size ≠ 0 := fun hh => by
    have : s = ⟨#[]⟩ := by
      apply ext_BA
      exact List.eq_nil_of_length_eq_zero (by rw [listB]; exact hh)
    rw [strEq_iff.2 this] at h
    cases h
  have hn := octB_lt s 0
  have e1 : wrp .i64 (octB s 0 : Int) = ((octB s 0 : Nat) : Int) := byteI _ (by omega)
  have e20 : wrp .i64 (8 * ((octB s 0 : Nat) : Int)) = ((8 * octB s 0 : Nat) : Int) := by rw [wrpE, wi64]; omega
  have e2 : wrp .i64 (1 + wrp .i64 (8 * ((octB s 0 : Nat) : Int))) = ((1 + 8 * octB s 0 : Nat) : Int) := by rw [e20, wrpE, wi64]; omega
  refine Ob.intro (show (0 : Int) ≤ 0 ∧ 0 < (s.size : Int) by omega) ?_
  refine forkD (fun h => ?_) (fun h => ?_)
  · have h6 : 6 < octB s 0 := by
      have : wrp .i64 (octB s 0 : Int) > 6 := h
      rw [e1] at this
      omega
    have hu : unpL s = ⟨[], 0, 4⟩ := by unfold unpL; rw [if_neg h0, if_pos h6]
    rw [hu]
    exact ⟨rfl, [], .tup [nilS, i64 0, i64 4], ⟨⟨_, rfl, rfl⟩, True.intro, Nat.zero_le _, rfl⟩, .inr ⟨rfl, rfl⟩, rfl⟩
  have h6 : ¬ 6 < octB s 0 := by
    have : ¬ wrp .i64 (octB s 0 : Int) > 6 := h
    rw [e1] at this
    omega
  refine forkD (fun h => ?_) (fun h => ?_)
  · have hs : s.size < 1 + 8 * octB s 0 := by
      have : (s.size : Int) < wrp .i64 (1 + wrp .i64 (8 * wrp .i64 (octB s 0 : Int))) := h
      rw [e1, e2] at this
      omega
    have hu : unpL s = ⟨[], 0, 3⟩ := by unfold unpL; rw [if_neg h0, if_neg h6, if_pos hs]
    rw [hu]
    exact ⟨rfl, [], .tup [nilS, i64 0, i64 3], ⟨⟨_, rfl, rfl⟩, True.intro, Nat.zero_le _, rfl⟩, .inr ⟨rfl, rfl⟩, rfl⟩
  have hs : ¬ s.size < 1 + 8 * octB s 0 := by
    have : ¬ (s.size : Int) < wrp .i64 (1 + wrp .i64 (8 * wrp .i64 (octB s 0 : Int))) := h
    rw [e1, e2] at this
    omega
  refine loopG (α := UnOut s) (fun z => [(0, str s), (6, i64 (1 + 8 * octB s 0 : Nat)), (7, .slc 0 0 z.R.length 1), (8, i64 (1 + 8 * z.k : Nat))]) (fun z => [.row (z.R.map u64n)]) [] (fun z => octB s 0 - z.k) ⟨0, [], Nat.zero_le _, rfl⟩ [.at_ 7 1] [0]
    ⟨⟨rfl, congrArg i64 (by show wrp .i64 (1 + wrp .i64 (8 * wrp .i64 (octB s 0 : Int))) = _; rw [e1, e2]), rfl, rfl, True.intro⟩, ⟨.inl rfl, True.intro⟩, rfl, rfl, rfl⟩ ?_
  rintro ⟨k, R, hk, hR⟩ K hK
  have hRl : R.length = k := by rw [hR, tagsB_len]
  have e8 : wrp .i64 (((1 + 8 * k : Nat) : Int) + 8) = ((1 + 8 * (k + 1) : Nat) : Int) := by rw [wrpE, wi64]; omega
  refine forkD (fun h => ?_) (fun h => ?_)
  · have h' : k < octB s 0 := by have : ((1 + 8 * k : Nat) : Int) < ((1 + 8 * octB s 0 : Nat) : Int) := h; omega
    have hsz : (s.extract (1 + 8 * k) (1 + 8 * (k + 1))).size = 8 := by rw [ext_size (by omega)]; omega
    refine Ob.intro (show (0 : Int) ≤ (1 + 8 * k : Nat) ∧ ((1 + 8 * k : Nat) : Int) ≤ wrp .i64 (((1 + 8 * k : Nat) : Int) + 8) ∧ wrp .i64 (((1 + 8 * k : Nat) : Int) + 8) ≤ (s.size : Int) by rw [e8]; omega) ?_
    refine loopI (α := UnIn s k) (fun z => [(0, str s), (6, i64 (1 + 8 * octB s 0 : Nat)), (7, .slc 0 0 R.length 1), (8, i64 (1 + 8 * k : Nat)), (9, u64n (valB s (1 + 8 * k) z.j)), (38, .view 8 (bytesA (s.extract (1 + 8 * k) (1 + 8 * (k + 1))))), (39, i64 8), (40, i64 (z.j : Nat))]) (fun z => [.row (R.map u64n)]) (fun z => 8 - z.j) ⟨0, Nat.zero_le _⟩ [0]
      ⟨⟨rfl, rfl, rfl, rfl, rfl, ?_, ?_, rfl, True.intro⟩, ⟨.inl (by rw [renO_us]; rfl), True.intro⟩, rfl, rfl, rfl⟩ ?_
    · show AV.view (s.extract ((1 + 8 * k : Nat) : Int).toNat (wrp .i64 (((1 + 8 * k : Nat) : Int) + 8)).toNat).size (bytesA (s.extract ((1 + 8 * k : Nat) : Int).toNat (wrp .i64 (((1 + 8 * k : Nat) : Int) + 8)).toNat)) = .view 8 _
      rw [e8, Int.toNat_natCast, Int.toNat_natCast, hsz]
    · show AV.sc (.int .i64 ((s.extract ((1 + 8 * k : Nat) : Int).toNat (wrp .i64 (((1 + 8 * k : Nat) : Int) + 8)).toNat).size : Nat)) = i64 8
      rw [e8, Int.toNat_natCast, Int.toNat_natCast, hsz]
      rfl
    rintro ⟨j, hj⟩ K2 hK2
    have hincj : wrp .i64 ((j : Int) + 1) = ((j + 1 : Nat) : Int) := by rw [wrpE, wi64]; omega
    refine forkD (fun h => ?_) (fun h => ?_)
    · have h2 : j < 8 := by have : (j : Int) < 8 := h; omega
      have hx : (byL (s.extract (1 + 8 * k) (1 + 8 * (k + 1))))[j]? = some (octB s (1 + 8 * k + j)) := by
        rw [byL_at (by rw [hsz]; exact h2), ext_at (by omega) (by omega)]
      refine Ob.intro (show (0 : Int) ≤ (j : Nat) ∧ ((j : Nat) : Int) < ((8 : Nat) : Int) by omega) ?_
      refine optK_intro (a := u8n (octB s (1 + 8 * k + j))) (by rw [bytesA_u8]; exact nth_map hx) ?_
      refine Ob.intro (by decide) ?_
      refine hK2 ⟨j + 1, h2⟩ [0] _ (show 8 - j = 8 - (j + 1) + 1 by omega) ⟨⟨rfl, rfl, rfl, rfl, congrArg (fun z => AV.sc (.int .u64 z)) (or_byte64 _ _ (valB_lt8 s _ j h2) (octB_lt s _)), rfl, rfl, congrArg i64 hincj, True.intro⟩, ⟨.inl (by rw [renO_us]; rfl), True.intro⟩, rfl, rfl, rfl⟩
    · have h2 : j = 8 := by have : ¬ (j : Int) < 8 := h; omega
      subst h2
      refine Ob.intro rfl ?_
      refine optK_intro (rdN_all (cs := R.map u64n) rfl (by rw [List.length_map, Nat.mul_one])) ?_
      refine Ob.intro (show (R.length + 1) * 8 ≤ 140737488355328 ∧ R.length + 1 ≤ 9223372036854775807 by omega) ?_
      refine hK ⟨k + 1, R ++ [valB s (1 + 8 * k) 8], h', by rw [hR]; rfl⟩ [] [2] _ (show octB s 0 - k = octB s 0 - (k + 1) + 1 by omega) ⟨⟨rfl, rfl, slcE rfl (by rw [List.length_append]; rfl), congrArg i64 e8, True.intro⟩, ⟨.inl ?_, True.intro⟩, rfl, rfl, rfl⟩
      show some (AObj.row (R.map u64n ++ [u64n (valB s (1 + 8 * k) 8)])) = some (renO _ (.row ((R ++ [valB s (1 + 8 * k) 8]).map u64n)))
      rw [renO_us, List.map_append]
      rfl
  · have h' : k = octB s 0 := by have : ¬ ((1 + 8 * k : Nat) : Int) < ((1 + 8 * octB s 0 : Nat) : Int) := h; omega
    rw [h'] at hR
    have hc := right_ok R (by omega)
    have hfz : frz [.row (R.map u64n)] 0 8 (.slc 0 0 R.length 1) = some (us R) := frz_us3 (k := 6) rfl rfl rfl
    have hfz7 : frz [.row (R.map u64n)] 0 7 (.slc 0 0 R.length 1) = some (us R) := frz_us3 (k := 5) rfl rfl rfl
    have hfm : mapO (frz [.row (R.map u64n)] 0 8) [.slc 0 0 R.length 1] = some [us R] := by simp only [mapO, hfz]
    cases hr : rightB R with
    | false =>
      have hu : unpL s = ⟨[], 0, 4⟩ := by unfold unpL; rw [if_neg h0, if_neg h6, if_neg hs, ← hR, hr]; rfl
      rw [hr] at hc
      refine callF hc hfm rfl ?_
      rw [hu]
      exact ⟨rfl, [], .tup [nilS, i64 0, i64 4], ⟨⟨_, rfl, rfl⟩, True.intro, Nat.zero_le _, rfl⟩, .inr ⟨rfl, rfl⟩, rfl⟩
    | true =>
      have hu : unpL s = ⟨R, (1 + 8 * octB s 0 : Nat), 0⟩ := by unfold unpL; rw [if_neg h0, if_neg h6, if_neg hs, ← hR, if_pos hr]
      rw [hr] at hc
      refine callF hc hfm rfl ?_
      rw [hu]
      have hft : frz [.row (R.map u64n)] 0 8 (.tup [.slc 0 0 R.length 1, i64 (1 + 8 * octB s 0 : Nat), i64 0]) = some (.tup [us R, i64 (1 + 8 * octB s 0 : Nat), i64 0]) := frz_tup (by simp only [mapO, hfz7]; rfl)
      exact ⟨rfl, [], .tup [us R, i64 (1 + 8 * octB s 0 : Nat), i64 0], ⟨⟨_, rfl, hft⟩, True.intro, Nat.zero_le _, rfl⟩, .inl rfl, rfl⟩
end Go.Proofs.Ytgchhmfobkcnfaa.A

namespace Go.Proofs.Ytgchhmfobkcnfaa.A
open Go
set_option linter.unusedVariables false
set_option maxRecDepth 100000
set_option pp.maxSteps 1500

/-! ### Packs -/
theorem flat_at : ∀ {l : List Nat} {k j x : Nat}, l[k]? = some x → j < 8 → (l.flatMap be8)[8 * k + j]? = (be8 x)[j]?
  | [], k, j, x, h, _ => by simp at h
  | y :: l, 0, j, x, h, hj => by
    simp at h
    subst h
    rw [List.flatMap_cons, List.getElem?_append_left (by show _ < (beN y 8).length; rw [beN_len]; omega)]
    simp
  | y :: l, k + 1, j, x, h, hj => by
    have hl : (be8 y).length = 8 := beN_len y 8
    rw [List.flatMap_cons, List.getElem?_append_right (by rw [hl]; omega), hl, show 8 * (k + 1) + j - 8 = 8 * k + j by omega]
    exact flat_at (by simpa using h) hj
theorem packN_at {l : List Nat} {k j x : Nat} (h : l[k]? = some x) (hj : j < 8) : (packN l)[1 + 8 * k + j]? = some (x / 256 ^ (7 - j) % 256) := by
  unfold packN
  rw [show 1 + 8 * k + j = (8 * k + j) + 1 by omega, List.getElem?_cons_succ, flat_at h hj, be8_at x j hj]
theorem octB_left {a b : ByteArray} {i : Nat} (h : i < a.size) : octB (a ++ b) i = octB a i := by
  rw [octB_eq, octB_eq, byL_append, List.getD_eq_getElem?_getD, List.getD_eq_getElem?_getD, List.getElem?_append_left (by rw [byL_len]; exact h)]
theorem octB_BA {l : List Nat} (h : ∀ x ∈ l, x < 256) (i : Nat) : octB (BA l) i = l.getD i 0 := by rw [octB_eq, byL_BA h]
theorem size_append (a b : ByteArray) : (a ++ b).size = a.size + b.size := by
  rw [← listB, appendB, List.length_append, listB, listB]
theorem tags_back {l : List Nat} (h6 : l.length ≤ 6) (h64 : ∀ x ∈ l, x < 18446744073709551616) (s : ByteArray) : ∀ k, k ≤ l.length → tagsB (packB l ++ s) k = l.take k
  | 0, _ => by simp [tagsB]
  | k + 1, hk => by
    obtain ⟨x, hx⟩ : ∃ x, l[k]? = some x := ⟨_, List.getElem?_eq_getElem (by omega)⟩
    rw [tagsB, tags_back h6 h64 s k (by omega), take_snocA hx]
    congr 2
    have hv := valB_beN (s := packB l ++ s) (p := 1 + 8 * k) (t := x) (n := 8) (fun j hj => by
      have hlt : 1 + 8 * k + j < (packB l).size := by rw [packB_size]; omega
      rw [octB_left hlt]
      unfold packB
      rw [octB_BA (packN_lt (by omega)), List.getD_eq_getElem?_getD, packN_at hx hj]
      rfl) 8 (Nat.le_refl _)
    rw [hv, Nat.sub_self, Nat.pow_zero, Nat.div_one]
    exact Nat.mod_eq_of_lt (h64 x (List.mem_of_getElem? hx))
theorem unp_pack {l : List Nat} (hr : rightB l = true) (h64 : ∀ x ∈ l, x < 18446744073709551616) (s : ByteArray) : unpL (packB l ++ s) = ⟨l, ((packB l).size : Nat), 0⟩ := by
  have h6 := rightB_len hr
  have hsz := packB_size (l := l)
  have h0 : octB (packB l ++ s) 0 = l.length := by
    rw [octB_left (by omega)]
    unfold packB
    rw [octB_BA (packN_lt (by omega))]
    rfl
  have hall := size_append (packB l) s
  unfold unpL
  rw [h0, tags_back h6 h64 s l.length (Nat.le_refl _), List.take_length, if_neg (by omega), if_neg (by omega), if_neg (by omega), if_pos hr, hsz]
end Go.Proofs.Ytgchhmfobkcnfaa.A
