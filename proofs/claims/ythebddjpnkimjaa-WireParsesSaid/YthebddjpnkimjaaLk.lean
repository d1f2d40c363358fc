/- label: its bytes. No condition. -/
import Derived.Test.YthebddjpnkimjaaLj
namespace Go.Proofs.Ythebddjpnkimjaa.A
open Go
set_option linter.unusedVariables false
set_option maxRecDepth 100000
set_option pp.maxSteps 1500

def packN (l : List Nat) : List Nat := l.length :: l.flatMap be8
def packB (l : List Nat) : ByteArray := BA (packN l)
def pkN (l : List Nat) (k : Nat) : List Nat := l.length :: (l.take k).flatMap be8
theorem pkN_succ {l : List Nat} {k x : Nat} (h : l[k]? = some x) : pkN l (k + 1) = pkN l k ++ be8 x := by
  unfold pkN
  rw [take_snocA h, List.flatMap_append, List.cons_append]
  simp
theorem pkN_len (l : List Nat) (k : Nat) (hk : k ≤ l.length) : (pkN l k).length = 1 + 8 * k := by
  have h : ∀ m : List Nat, (m.flatMap be8).length = 8 * m.length := fun m => by
    induction m with
    | nil => rfl
    | cons x m ih => rw [List.flatMap_cons, List.length_append, ih, List.length_cons]; show (beN x 8).length + _ = _; rw [beN_len]; omega
  unfold pkN
  rw [List.length_cons, h, List.length_take]
  omega
/-- The first j bytes of a number. -/
def beF (t j : Nat) : List Nat := (be8 t).take j
theorem be8_at (t j : Nat) (h : j < 8) : (be8 t)[j]? = some (t / 256 ^ (7 - j) % 256) := by
  have key : ∀ n j, j < n → (beN t n)[j]? = some (t / 256 ^ (n - 1 - j) % 256) := by
    intro n
    induction n with
    | zero => intro j h; omega
    | succ n ih =>
      intro j h
      cases j with
      | zero => rfl
      | succ j =>
        show (beN t n)[j]? = _
        rw [ih j (by omega), show n + 1 - 1 - (j + 1) = n - 1 - j by omega]
  exact key 8 j h
theorem beF_succ (t j : Nat) (h : j < 8) : beF t (j + 1) = beF t j ++ [t / 256 ^ (7 - j) % 256] := take_snocA (be8_at t j h)
theorem beF_len (t j : Nat) (h : j ≤ 8) : (beF t j).length = j := by
  unfold beF
  rw [List.length_take]
  show min j (beN t 8).length = j
  rw [beN_len]
  omega
theorem shr_byte (t j : Nat) (h : j < 8) : wrp .u8 (hd ((t : Int).fdiv (2 ^ min (wrp .i64 (8 * wrp .i64 (7 - (j : Int)))).toNat IntKind.u64.bits))) = ((t / 256 ^ (7 - j) % 256 : Nat) : Int) := by
  have e1 : wrp .i64 (7 - (j : Int)) = ((7 - j : Nat) : Int) := by rw [wrpE, wi64]; omega
  have e2 : wrp .i64 (8 * ((7 - j : Nat) : Int)) = ((8 * (7 - j) : Nat) : Int) := by rw [wrpE, wi64]; omega
  rw [e1, e2, hd_eq, Int.toNat_natCast]
  have e3 : min (8 * (7 - j)) IntKind.u64.bits = 8 * (7 - j) := Nat.min_eq_left (show 8 * (7 - j) ≤ 64 by omega)
  have e4 : (2 : Int) ^ (8 * (7 - j)) = ((256 ^ (7 - j) : Nat) : Int) := by
    rw [Int.pow_mul, Int.natCast_pow]
    rfl
  rw [e3, e4, Int.fdiv_eq_ediv_of_nonneg _ (Int.natCast_nonneg _), ← Int.natCast_ediv]
  exact byteW _
theorem rem_byte (x : Nat) : wrp .u8 (hd ((x : Int).tmod 256)) = ((x % 256 : Nat) : Int) := by
  rw [hd_eq]
  show wrp .u8 ((x % 256 : Nat) : Int) = _
  rw [byteW]
  omega
structure PkIn (l : List Nat) (k x : Nat) where
  j : Nat
  R : List Nat
  hj : j ≤ 8
  hR : R = pkN l k ++ beF x j
structure PkOut (l : List Nat) where
  k : Nat
  R : List Nat
  hk : k ≤ l.length
  hR : R = pkN l k
def packP (l : List Nat) : ByteArray × Int := if rightB l = true then (packB l, 0) else (emp, 1)
theorem lpack_ok (l : List Nat) (hn : l.length < 9223372036854775807) : ACalls Try.prog 41 [us l] [] (Ret (.tup [str (packP l).1, i64 (packP l).2])) := by
  have hc := right_ok l hn
  cases hr : rightB l with
  | false =>
    have hp : packP l = (emp, 1) := by unfold packP; rw [hr]; rfl
    rw [hp]
    rw [hr] at hc
    refine acalls_of_awp hT mixed Try.func41 rfl (by kernel_rfl) (by kernel_rfl) (Nat.le_of_ble_eq_true rfl) ?_
    refine callP hc rfl rfl ?_
    refine end0 rfl rfl rfl rfl
  | true =>
    have hp : packP l = (packB l, 0) := by unfold packP; rw [if_pos hr]
    rw [hp]
    rw [hr] at hc
    have h6 := rightB_len hr
    refine acalls_of_awp hT mixed Try.func41 rfl (by kernel_rfl) (by kernel_rfl) (Nat.le_of_ble_eq_true rfl) ?_
    refine callP hc rfl rfl ?_
    have hw : wrp .u8 (l.length : Int) = ((l.length : Nat) : Int) := by rw [wrpE, wu8]; omega
    refine loopI (α := PkOut l) (fun z => [(4, .slc 0 0 z.R.length 1), (15, us l), (16, i64 l.length), (17, i64 (z.k : Nat))]) (fun z => [.row (z.R.map u8n)]) (fun z => l.length - z.k) ⟨0, [l.length], Nat.zero_le _, rfl⟩ [0]
      ⟨⟨rfl, rfl, rfl, rfl, True.intro⟩, ⟨.inl (by show some (AObj.row [.sc (.int .u8 (wrp .u8 (l.length : Int)))]) = some (renO _ (.row ([l.length].map u8n))); rw [renO_u8, hw]; rfl), True.intro⟩, rfl, rfl, rfl⟩ ?_
    rintro ⟨k, R, hk, hR⟩ K hK
    have hinc : wrp .i64 ((k : Int) + 1) = ((k + 1 : Nat) : Int) := by rw [wrpE, wi64]; omega
    have hRl : R.length = 1 + 8 * k := by rw [hR, pkN_len l k hk]
    refine forkD (fun h => ?_) (fun h => ?_)
    · have h' : k < l.length := by have : (k : Int) < (l.length : Int) := h; omega
      obtain ⟨x, hx⟩ : ∃ x, l[k]? = some x := ⟨_, List.getElem?_eq_getElem h'⟩
      refine Ob.intro (show (0 : Int) ≤ (k : Nat) ∧ ((k : Nat) : Int) < (l.length : Nat) by omega) ?_
      refine optK_intro (nth_map hx) ?_
      refine loopI (α := PkIn l k x) (fun z => [(4, .slc 0 0 z.R.length 1), (6, u64n x), (15, us l), (16, i64 l.length), (17, i64 (k : Nat)), (21, i64 (z.j : Nat))]) (fun z => [.row (z.R.map u8n)]) (fun z => 8 - z.j) ⟨0, R, Nat.zero_le _, by rw [hR]; simp [beF]⟩ [0]
        ⟨⟨rfl, rfl, rfl, rfl, rfl, rfl, True.intro⟩, ⟨.inl (by rw [renO_u8]; rfl), True.intro⟩, rfl, rfl, rfl⟩ ?_
      rintro ⟨j, R2, hj, hR2⟩ K2 hK2
      have hincj : wrp .i64 ((j : Int) + 1) = ((j + 1 : Nat) : Int) := by rw [wrpE, wi64]; omega
      have hRl2 : R2.length = 1 + 8 * k + j := by rw [hR2, List.length_append, pkN_len l k hk, beF_len x j hj]
      refine forkD (fun h => ?_) (fun h => ?_)
      · have h2 : j < 8 := by have : (j : Int) < 8 := h; omega
        refine Ob.intro (show (0 : Int) ≤ wrp .i64 (8 * wrp .i64 (7 - (j : Int))) by rw [wrpE, wrpE, wi64, wi64]; omega) ?_
        refine Ob.intro rfl ?_
        refine optK_intro (rdN_all (cs := R2.map u8n) rfl (by rw [List.length_map, Nat.mul_one])) ?_
        refine Ob.intro (show (R2.length + 1) * 1 ≤ 140737488355328 ∧ R2.length + 1 ≤ 9223372036854775807 by omega) ?_
        refine hK2 ⟨j + 1, R2 ++ [x / 256 ^ (7 - j) % 256], h2, by rw [hR2, beF_succ x j h2, List.append_assoc]⟩ [2] _ (show 8 - j = 8 - (j + 1) + 1 by omega) ⟨⟨slcE rfl (by rw [List.length_append]; rfl), rfl, rfl, rfl, rfl, congrArg i64 hincj, True.intro⟩, ⟨.inl ?_, True.intro⟩, rfl, rfl, rfl⟩
        show some (AObj.row (R2.map u8n ++ [.sc (.int .u8 (wrp .u8 (hd ((x : Int).fdiv (2 ^ min (wrp .i64 (8 * wrp .i64 (7 - (j : Int)))).toNat IntKind.u64.bits)))))])) = some (renO _ (.row ((R2 ++ [x / 256 ^ (7 - j) % 256]).map u8n)))
        rw [renO_u8, shr_byte x j h2, List.map_append]
        rfl
      · have h2 : j = 8 := by have : ¬ (j : Int) < 8 := h; omega
        refine hK ⟨k + 1, R2, h', by rw [hR2, h2, pkN_succ hx]; rfl⟩ [0] _ (show l.length - k = l.length - (k + 1) + 1 by omega) ⟨⟨rfl, rfl, rfl, congrArg i64 hinc, True.intro⟩, ⟨.inl (by rw [renO_u8]; rfl), True.intro⟩, rfl, rfl, rfl⟩
    · have h' : k = l.length := by have : ¬ (k : Int) < (l.length : Int) := h; omega
      have hRp : R = packN l := by rw [hR, h']; unfold pkN packN; rw [List.take_length]
      refine optK_intro (a := R.map u8n) (src_all rfl (by rw [List.length_map])) ?_
      refine optK_intro (a := R.map UInt8.ofNat) (textA_u8 R) ?_
      refine end0 rfl rfl rfl ?_
      show AV.tup [str (BA R), i64 0] = _
      rw [hRp]
      rfl
def rowM (t m : Nat) : List Nat := List.replicate (8 - m) 0 ++ beN t m
theorem rowM_set (t m : Nat) (h : m < 8) : (rowM t m).set (7 - m) (t / 256 ^ m % 256) = rowM t (m + 1) := by
  unfold rowM
  rw [show 8 - m = (7 - m) + 1 by omega, List.replicate_succ', List.append_assoc, List.set_append_right _ _ (by rw [List.length_replicate]; exact Nat.le_refl _), List.length_replicate, Nat.sub_self, show 8 - (m + 1) = 7 - m by omega]
  rfl
structure RpIn (t : Nat) where
  m : Nat
  X : List Nat
  hm : m ≤ 8
  hX : X = rowM t m
theorem rpack_ok (l : List Nat) (hn : l.length ≤ 200) (h64 : ∀ x ∈ l, x < 18446744073709551616) : ACalls Try.prog 53 [us l] [] (Ret (str (packB l))) := by
  refine acalls_of_awp hT mixed Try.func53 rfl (by kernel_rfl) (by kernel_rfl) (Nat.le_of_ble_eq_true rfl) ?_
  have hw : wrp .u8 (l.length : Int) = ((l.length : Nat) : Int) := by rw [wrpE, wu8]; omega
  refine loopI (α := PkOut l) (fun z => [(0, us l), (3, .slc 0 0 z.R.length 1), (4, i64 (z.k : Nat))]) (fun z => [.row (z.R.map u8n)]) (fun z => l.length - z.k) ⟨0, [l.length], Nat.zero_le _, rfl⟩ [0]
    ⟨⟨rfl, rfl, rfl, True.intro⟩, ⟨.inl (by show some (AObj.row [.sc (.int .u8 (wrp .u8 (l.length : Int)))]) = some (renO _ (.row ([l.length].map u8n))); rw [renO_u8, hw]; rfl), True.intro⟩, rfl, rfl, rfl⟩ ?_
  rintro ⟨k, R, hk, hR⟩ K hK
  have hinc : wrp .i64 ((k : Int) + 1) = ((k + 1 : Nat) : Int) := by rw [wrpE, wi64]; omega
  have hRl : R.length = 1 + 8 * k := by rw [hR, pkN_len l k hk]
  refine forkD (fun h => ?_) (fun h => ?_)
  · have h' : k < l.length := by have : (k : Int) < (l.length : Int) := h; omega
    obtain ⟨x, hx⟩ : ∃ x, l[k]? = some x := ⟨_, List.getElem?_eq_getElem h'⟩
    have hx64 := h64 x (List.mem_of_getElem? hx)
    refine Ob.intro (by decide) ?_
    refine Ob.intro (show (0 : Int) ≤ (k : Nat) ∧ ((k : Nat) : Int) < (l.length : Nat) by omega) ?_
    refine optK_intro (nth_map hx) ?_
    refine loopI (α := RpIn x) (fun z => [(0, us l), (3, .slc 0 0 R.length 1), (4, i64 (k : Nat)), (5, .slc 1 0 8 1), (6, u64n (x / 256 ^ z.m)), (7, i64 (7 - (z.m : Int)))]) (fun z => [.row (R.map u8n), .row (z.X.map u8n)]) (fun z => 8 - z.m) ⟨0, List.replicate 8 0, Nat.zero_le _, rfl⟩ [0, 1]
      ⟨⟨rfl, rfl, rfl, rfl, congrArg u64n (by rw [Nat.pow_zero, Nat.div_one]), rfl, True.intro⟩, ⟨.inl (by rw [renO_u8]; rfl), .inl (by rw [renO_u8]; rfl), True.intro⟩, rfl, rfl, rfl⟩ ?_
    rintro ⟨m, X, hm, hX⟩ K2 hK2
    have hdec : wrp .i64 (7 - (m : Int) - 1) = 7 - ((m + 1 : Nat) : Int) := by rw [wrpE, wi64]; omega
    have hXl : X.length = 8 := by
      rw [hX]
      unfold rowM
      rw [List.length_append, List.length_replicate, beN_len]
      omega
    refine forkD (fun h => ?_) (fun h => ?_)
    · have h2 : m < 8 := by have : (7 - (m : Int)) ≥ 0 := h; omega
      have ex : x / 256 ^ m < 18446744073709551616 := Nat.lt_of_le_of_lt (Nat.div_le_self ..) hx64
      refine Ob.intro (by decide) ?_
      refine Ob.intro (show (0 : Int) ≤ 7 - (m : Int) ∧ 7 - (m : Int) < ((8 : Nat) : Int) by omega) ?_
      refine wr_u8 (k := 7 - m) (x := x / 256 ^ m % 256) rfl rfl (rem_byte _) (by show 0 + (7 - (m : Int)).toNat * 1 = _; omega) (show 7 - m < X.length by omega) ?_
      refine Ob.intro (by decide) ?_
      refine hK2 ⟨m + 1, X.set (7 - m) (x / 256 ^ m % 256), h2, by rw [hX, rowM_set x m h2]⟩ [0, 1] _ (show 8 - m = 8 - (m + 1) + 1 by omega) ⟨⟨rfl, rfl, rfl, rfl, congrArg (fun z => AV.sc (.int .u64 z)) ?_, congrArg i64 hdec, True.intro⟩, ⟨.inl (by rw [renO_u8]; rfl), .inl (by rw [renO_u8]; rfl), True.intro⟩, rfl, rfl, rfl⟩
      show wrp .u64 (((x / 256 ^ m : Nat) : Int).tdiv 256) = ((x / 256 ^ (m + 1) : Nat) : Int)
      rw [Nat.pow_succ, ← Nat.div_div_eq_div_mul]
      generalize x / 256 ^ m = y at *
      show wrp .u64 ((y / 256 : Nat) : Int) = _
      rw [wrpE, wu64]
      omega
    · have h2 : m = 8 := by have : ¬ (7 - (m : Int)) ≥ 0 := h; omega
      have hX8 : X = be8 x := by rw [hX, h2]; rfl
      refine optK_intro (a := X.map u8n) (src_all rfl (by rw [List.length_map, hXl])) ?_
      refine Ob.intro (allC_u8 X) ?_
      refine optK_intro (rdN_all (cs := R.map u8n) rfl (by rw [List.length_map, Nat.mul_one])) ?_
      refine Ob.intro (show (R.length + 8) * 1 ≤ 140737488355328 ∧ R.length + 8 ≤ 9223372036854775807 by omega) ?_
      refine hK ⟨k + 1, R ++ X, h', by rw [hR, hX8, pkN_succ hx]⟩ [2] _ (show l.length - k = l.length - (k + 1) + 1 by omega) ⟨⟨rfl, slcE rfl (by rw [List.length_append, hXl]; rfl), congrArg i64 hinc, True.intro⟩, ⟨.inl ?_, True.intro⟩, rfl, rfl, rfl⟩
      show some (AObj.row (R.map u8n ++ X.map u8n)) = some (renO _ (.row ((R ++ X).map u8n)))
      rw [renO_u8, List.map_append]
  · have h' : k = l.length := by have : ¬ (k : Int) < (l.length : Int) := h; omega
    have hRp : R = packN l := by rw [hR, h']; unfold pkN packN; rw [List.take_length]
    refine optK_intro (a := R.map u8n) (src_all rfl (by rw [List.length_map])) ?_
    refine optK_intro (a := R.map UInt8.ofNat) (textA_u8 R) ?_
    refine end0 rfl rfl rfl ?_
    show str (BA R) = _
    rw [hRp]
    rfl
theorem packB_size {l : List Nat} : (packB l).size = 1 + 8 * l.length := by
  unfold packB
  rw [BA_size]
  have := pkN_len l l.length (Nat.le_refl _)
  unfold pkN at this
  rw [List.take_length] at this
  exact this
theorem packN_lt {l : List Nat} (h : l.length < 256) : ∀ x ∈ packN l, x < 256 := by
  intro x hx
  unfold packN at hx
  rcases List.mem_cons.1 hx with rfl | hx
  · exact h
  · obtain ⟨y, _, hy⟩ := List.mem_flatMap.1 hx
    exact beN_lt y 8 x hy
end Go.Proofs.Ythebddjpnkimjaa.A
