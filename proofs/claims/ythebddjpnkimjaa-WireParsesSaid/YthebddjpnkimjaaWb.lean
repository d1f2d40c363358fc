/- wire: the document's shapes; faults; numbers in groups. No condition. -/
import Derived.Test.YthebddjpnkimjaaWa
namespace Go.Proofs.Ythebddjpnkimjaa.A
open Go
set_option linter.unusedVariables false
set_option maxRecDepth 100000
set_option pp.maxSteps 1500

/-- What the document asks of a shape's letters. -/
def rgtL : List Nat → Bool
  | [] => true
  | c :: r => (if c = 42 then (match r with | [] => false | d :: _ => isL d) else isL c) && rgtL r
theorem rgtL_cons (c : Nat) (r : List Nat) : rgtL (c :: r) = ((if c = 42 then (match r with | [] => false | d :: _ => isL d) else isL c) && rgtL r) := by cases r <;> rfl
theorem parL_rgt : ∀ (l : List Nat), (parL false l).isSome = rgtL l ∧ (parL true l).isSome = (match l with | [] => false | d :: _ => isL d && rgtL l)
  | [] => ⟨rfl, rfl⟩
  | c :: r => by
    obtain ⟨h1, h2⟩ := parL_rgt r
    constructor
    · rw [rgtL_cons]
      unfold parL
      by_cases hc : c = 42
      · rw [if_pos ⟨hc, rfl⟩, if_pos hc, h2]
        cases r <;> rfl
      · rw [if_neg (fun h => hc h.1), if_neg hc]
        cases hl : isL c with
        | true => rw [if_pos rfl, Option.isSome_map, h1]; rfl
        | false => rfl
    · unfold parL
      rw [if_neg (fun h => by cases h.2)]
      cases hl : isL c with
      | true =>
        rw [if_pos rfl, Option.isSome_map, h1]
        have hc : ¬ c = 42 := fun e => by rw [e] at hl; cases hl
        show rgtL r = (isL c && rgtL (c :: r))
        rw [rgtL_cons, if_neg hc, hl]
        rfl
      | false =>
        show false = (isL c && rgtL (c :: r))
        rw [hl]
        rfl
theorem rgtL_drop {l : List Nat} {k c : Nat} (h : l[k]? = some c) : rgtL (l.drop k) = ((if c = 42 then (match l[k + 1]? with | none => false | some d => isL d) else isL c) && rgtL (l.drop (k + 1))) := by
  obtain ⟨h1, rfl⟩ := List.getElem?_eq_some_iff.1 h
  rw [List.drop_eq_getElem_cons h1, rgtL_cons]
  by_cases h2 : k + 1 < l.length
  · rw [List.drop_eq_getElem_cons h2, List.getElem?_eq_getElem h2]
  · rw [List.drop_eq_nil_of_le (by omega), List.getElem?_eq_none (by omega)]
theorem rwright_ok (s : ByteArray) (hn : s.size ≤ 60) : ACalls Try.prog 17 [str s] [] (Ret (bo (shP (byL s)).isSome)) := by
  refine acalls_of_awp hT mixed Try.func17 rfl (by kernel_rfl) (by kernel_rfl) (Nat.le_of_ble_eq_true rfl) ?_
  refine forkD (fun h => ?_) (fun h => ?_)
  · have h' : ¬ s.size ≤ 40 := by have : (s.size : Int) > 40 := h; omega
    refine end0 rfl rfl rfl (congrArg bo (by unfold shP; rw [if_neg (by rw [byL_len]; exact h')]; rfl))
  have h' : s.size ≤ 40 := by have : ¬ (s.size : Int) > 40 := h; omega
  have hs : (shP (byL s)).isSome = rgtL (byL s) := by unfold shP; rw [if_pos (by rw [byL_len]; exact h')]; exact (parL_rgt _).1
  rw [hs]
  refine loopI (α := { k : Nat // k ≤ s.size ∧ rgtL ((byL s).drop k) = rgtL (byL s) }) (fun z => [(0, str s), (3, i64 (z.val : Nat))]) (fun _ => []) (fun z => s.size - z.val) ⟨0, Nat.zero_le _, rfl⟩ [] ⟨⟨rfl, rfl, True.intro⟩, True.intro, rfl, rfl, rfl⟩ ?_
  rintro ⟨k, hk, hp⟩ K hK
  have hinc : wrp .i64 ((k : Int) + 1) = ((k + 1 : Nat) : Int) := by rw [wrpE, wi64]; omega
  have hdec : wrp .i64 ((s.size : Int) - 1) = (s.size : Int) - 1 := by rw [wrpE, wi64]; omega
  refine forkD (fun h => ?_) (fun h => ?_)
  · have h2 : k < s.size := by have : (k : Int) < (s.size : Int) := h; omega
    rw [rgtL_drop (byL_at h2)] at hp
    have hb : (0 : Int) ≤ (k : Nat) ∧ ((k : Nat) : Int) < (s.size : Int) := by omega
    have hm : s.size - k = s.size - (k + 1) + 1 := by omega
    refine Ob.intro hb ?_
    refine fork (fun g => ?_) (fun g => ?_)
    · have g' : octB s k = 42 := by
        have : ((octB s k : Nat) : Int) = 42 := beq_iff_eq.1 g
        omega
      rw [if_pos g'] at hp
      refine forkD (fun q => ?_) (fun q => ?_)
      · have q' : ¬ k + 1 < s.size := by
          have : (k : Int) ≥ wrp .i64 ((s.size : Int) - 1) := q
          rw [hdec] at this
          omega
        rw [List.getElem?_eq_none (by rw [byL_len]; omega)] at hp
        refine end0 rfl rfl rfl (congrArg bo hp)
      · have q' : k + 1 < s.size := by
          have : ¬ (k : Int) ≥ wrp .i64 ((s.size : Int) - 1) := q
          rw [hdec] at this
          omega
        rw [byL_at q'] at hp
        have hL := rletter_ok (octB s (k + 1)) (octB_lt s (k + 1))
        have hbi : (0 : Int) ≤ wrp .i64 ((k : Int) + 1) ∧ wrp .i64 ((k : Int) + 1) < (s.size : Int) := by rw [hinc]; omega
        have he : octB s (wrp .i64 ((k : Int) + 1)).toNat = octB s (k + 1) := by rw [hinc, Int.toNat_natCast]
        rw [← he] at hL hp
        refine Ob.intro hbi ?_
        refine callP hL rfl rfl ?_
        refine fork (fun q => ?_) (fun q => ?_)
        · have q2 : isL (octB s (wrp .i64 ((k : Int) + 1)).toNat) = true := q
          dsimp only at hp
          rw [q2] at hp
          refine hK ⟨k + 1, h2, hp⟩ [] _ hm ⟨⟨rfl, congrArg i64 hinc, True.intro⟩, True.intro, rfl, rfl, rfl⟩
        · have q2 : isL (octB s (wrp .i64 ((k : Int) + 1)).toNat) = false := q
          dsimp only at hp
          rw [q2] at hp
          refine end0 rfl rfl rfl (congrArg bo hp)
    · have g' : ¬ octB s k = 42 := fun e => by
        have : ((octB s k : Nat) : Int) ≠ 42 := beq_eq_false_iff_ne.1 g
        omega
      rw [if_neg g'] at hp
      have hL := rletter_ok (octB s k) (octB_lt s k)
      refine Ob.intro hb ?_
      refine callP hL rfl rfl ?_
      refine fork (fun q => ?_) (fun q => ?_)
      · have q2 : isL (octB s k) = true := q
        rw [q2] at hp
        refine hK ⟨k + 1, h2, hp⟩ [] _ hm ⟨⟨rfl, congrArg i64 hinc, True.intro⟩, True.intro, rfl, rfl, rfl⟩
      · have q2 : isL (octB s k) = false := q
        rw [q2] at hp
        refine end0 rfl rfl rfl (congrArg bo hp)
  · have h2 : k = s.size := by have : ¬ (k : Int) < (s.size : Int) := h; omega
    rw [List.drop_eq_nil_of_le (by rw [byL_len]; omega)] at hp
    refine end0 rfl rfl rfl (congrArg bo hp)
/-! ### Faults -/
/-- A fault, as it comes up. -/
def fltV (e : Int) : Value := .iface 71 (.int .i64 e)
theorem check_yes (e : Int) : ACalls Try.prog 21 [bo true, i64 e] [] (Ret (.tup [])) := by
  refine acalls_of_awp hT mixed Try.func21 rfl (by kernel_rfl) (by kernel_rfl) (Nat.le_of_ble_eq_true rfl) ?_
  exact ⟨rfl, [], .tup [], ⟨⟨_, rfl, rfl⟩, True.intro, Nat.zero_le _, rfl⟩, rfl, rfl⟩
theorem check_no (e : Int) : ACalls Try.prog 21 [bo false, i64 e] [] (fun E G => E = .pan (fltV e) ∧ G = []) := by
  refine acalls_of_awp hT mixed Try.func21 rfl (by kernel_rfl) (by kernel_rfl) (Nat.le_of_ble_eq_true rfl) ?_
  exact ⟨rfl, [], True.intro, Nat.zero_le _, rfl, rfl, rfl⟩
/-- A call that goes wrong for sure. -/
theorem callBad {P : Program} {g : FuncId} {bs args : List AV} {u : Value} {H : Heap} {K : AV → Heap → Prop} {Kp : Value → Heap → Prop} (h : ACalls P g bs [] (fun E G => E = .pan u ∧ G = [])) (ha : args = renL (rn [] H.length) bs) (k : Kp u H) : ACalls P g args H (panK K Kp) := by
  subst ha
  refine callS h [] True.intro rfl ?_
  rintro E G ⟨rfl, rfl⟩ _
  refine ⟨_, _, rfl, rfl, ?_⟩
  simp only [renH, merge, setMany, List.drop_nil, List.append_nil]
  exact k
/-! ### Numbers -/
/-- A number in groups. -/
def numN (n : Nat) : List Nat := if n < 128 then [n] else (128 + n % 128) :: numN (n / 128)
termination_by n
decreasing_by omega
theorem numN_lt {n : Nat} (h : n < 128) : numN n = [n] := by rw [numN, if_pos h]
theorem numN_ge {n : Nat} (h : ¬ n < 128) : numN n = (128 + n % 128) :: numN (n / 128) := by rw [numN, if_neg h]
theorem numN_len : ∀ (k n : Nat), n < 128 ^ (k + 1) → (numN n).length ≤ k + 1
  | 0, n, h => by rw [numN_lt (by simpa using h)]; exact Nat.le_refl _
  | k + 1, n, h => by
    by_cases h1 : n < 128
    · rw [numN_lt h1]; simp
    · rw [numN_ge h1, List.length_cons]
      have := numN_len k (n / 128) (by rw [Nat.pow_succ] at h; omega)
      omega
theorem numN_len10 {n : Nat} (h : n < 18446744073709551616) : (numN n).length ≤ 10 := numN_len 9 n (Nat.lt_of_lt_of_le h (by decide))
theorem numN_256 (n : Nat) : ∀ x ∈ numN n, x < 256 := by
  induction n using Nat.strongRecOn with
  | _ n ih =>
    intro x hx
    by_cases h1 : n < 128
    · rw [numN_lt h1, List.mem_singleton] at hx
      omega
    · rw [numN_ge h1] at hx
      rcases List.mem_cons.1 hx with rfl | hx
      · omega
      · exact ih (n / 128) (by omega) x hx
/-- The printer's heap: its bytes are the object k. -/
def PH (k : Nat) (R : List Nat) : Heap := .row [.slc k 0 R.length 1] :: (List.replicate (k - 1) .dead ++ [.row (R.map u8n)])
theorem or128 (n : Nat) : wrp .u8 ((BitVec.ofInt IntKind.u8.bits (wrp .u8 (hd ((n : Int).tmod 128))) ||| BitVec.ofInt IntKind.u8.bits 128).toNat : Int) = ((128 + n % 128 : Nat) : Int) := by
  have e0 : wrp .u8 (hd ((n : Int).tmod 128)) = ((n % 128 : Nat) : Int) := by
    rw [hd_eq]
    show wrp .u8 ((n % 128 : Nat) : Int) = _
    rw [byteW]
    omega
  have e2 : (BitVec.ofInt 8 ((n % 128 : Nat) : Int)).toNat = n % 128 := by rw [BitVec.toNat_ofInt]; omega
  have e4 : (BitVec.ofInt IntKind.u8.bits ((n % 128 : Nat) : Int) ||| BitVec.ofInt IntKind.u8.bits 128).toNat = 128 + n % 128 := by
    show (BitVec.ofInt 8 ((n % 128 : Nat) : Int) ||| BitVec.ofInt 8 128).toNat = _
    rw [BitVec.toNat_or, e2, show (BitVec.ofInt 8 128).toNat = 2 ^ 7 * 1 from rfl, Nat.or_comm, ← Nat.two_pow_add_eq_or_of_lt (by omega)]
  rw [e0, e4, byteW]
  omega
structure NumSt (n : Nat) (R0 : List Nat) where
  m : Nat
  R : List Nat
  hm : m ≤ n
  hR : R ++ numN m = R0 ++ numN n
  f : Nat
  hf : m < 128 ^ (f + 1)
  hl : R.length + f ≤ R0.length + 9
theorem belowH_PH3 (R : List Nat) : belowH 4 (PH 3 R) = true := by
  simp only [PH, belowH, belowO, belowL_u8, List.replicate, List.cons_append, List.nil_append]
  rfl
theorem belowH_PH4 (R : List Nat) : belowH 5 (PH 4 R) = true := by
  simp only [PH, belowH, belowO, belowL_u8, List.replicate, List.cons_append, List.nil_append]
  rfl
structure NmSt (n : Nat) (R0 : List Nat) extends NumSt n R0 where
  first : Bool
  h1 : first = true → m = n ∧ R = R0
def NmSt.H {n : Nat} {R0 : List Nat} (z : NmSt n R0) : Heap :=
  match z.first with
  | true => [.row [.slc 1 0 z.R.length 1], .row (z.R.map u8n)]
  | false => [.row [.slc 2 0 z.R.length 1], .dead, .row (z.R.map u8n)]
def NmR (R : List Nat) : AEnd → Heap → Prop := fun E G => E = .ret (.tup []) ∧ (G = PH 3 R ∨ G = PH 4 R)
theorem num_div (m : Nat) (h : m < 18446744073709551616) : wrp .u64 ((m : Int).tdiv 128) = ((m / 128 : Nat) : Int) := by
  show wrp .u64 ((m / 128 : Nat) : Int) = _
  rw [wrpE, wu64]
  omega
theorem number_ok (n : Nat) (R0 : List Nat) (hn : n < 18446744073709551616) (hl : R0.length ≤ 1000000) : ACalls Try.prog 37 [.ptr 0 0, u64n n] (PH 1 R0) (NmR (R0 ++ numN n)) := by
  refine acalls_of_awp hT mixed Try.func37 rfl (by kernel_rfl) (by kernel_rfl) (Nat.le_of_ble_eq_true rfl) ?_
  refine loopI (α := NmSt n R0) (fun z => [(0, .ptr 0 0), (1, u64n z.m)]) (fun z => z.H) (fun z => z.f) ⟨⟨n, R0, Nat.le_refl _, rfl, 9, Nat.lt_of_lt_of_le hn (by decide), by omega⟩, true, fun _ => ⟨rfl, rfl⟩⟩ [0, 1] ⟨⟨rfl, rfl, True.intro⟩, ⟨.inl rfl, .inl (by show _ = some (renO _ (.row (R0.map u8n))); rw [renO_u8]; rfl), True.intro⟩, rfl, rfl, rfl⟩ ?_
  rintro ⟨⟨m, R, hm, hR, f, hf, hl2⟩, first, h1⟩ K hK
  have hm64 : m < 18446744073709551616 := by omega
  have hf0 : ¬ m < 128 → f ≠ 0 := fun g e => by
    rw [e] at hf
    exact g (by simpa using hf)
  have hnext : ∀ g : ¬ m < 128, ∀ (is : List Nat) (s' : St), Weak 2 s' is [(0, .ptr 0 0), (1, u64n (m / 128))] [.row [.slc 2 0 (R ++ [128 + m % 128]).length 1], .dead, .row ((R ++ [128 + m % 128]).map u8n)] → K s' := fun g is s' hw =>
    hK ⟨⟨m / 128, R ++ [128 + m % 128], by omega, by rw [List.append_assoc, ← hR, numN_ge g]; rfl, f - 1, by rw [show f - 1 + 1 = f from by have := hf0 g; omega]; rw [Nat.pow_succ] at hf; omega, by rw [List.length_append, List.length_singleton]; have := hf0 g; omega⟩, false, fun h => (by cases h)⟩ is s' (by have := hf0 g; show f = f - 1 + 1; omega) hw
  have o1 : m < 128 → R0 ++ numN n = R ++ [m] := fun g => by rw [← hR, numN_lt g]
  have hw : m < 128 → wrp .u8 (m : Int) = ((m : Nat) : Int) := fun g => by rw [byteW]; omega
  cases first with
  | true =>
    have hrd : ∀ G : Heap, rdN (.row [.slc 1 0 R.length 1] :: .row (R.map u8n) :: G) 1 0 (R.length * 1) = some (R.map u8n) := fun G => rdN_all rfl (by rw [List.length_map]; omega)
    refine forkD (fun g => ?_) (fun g => ?_)
    · have g' : ¬ m < 128 := by have : (m : Int) ≥ 128 := g; omega
      refine Ob.intro (by decide) ?_
      refine Ob.intro rfl ?_
      refine optK_intro (hrd _) ?_
      refine Ob.intro (show (R.length + 1) * 1 ≤ 140737488355328 ∧ R.length + 1 ≤ 9223372036854775807 by omega) ?_
      refine Ob.intro (by decide) ?_
      refine hnext g' [0, 1, 3] _ ⟨⟨rfl, congrArg (fun z => AV.sc (.int .u64 z)) (num_div m hm64), True.intro⟩, ⟨.inl ?_, .inl rfl, .inl ?_, True.intro⟩, rfl, rfl, rfl⟩
      · show some (AObj.row [.slc 3 0 (R.length + 1) 1]) = some (renO _ (.row [.slc 2 0 (R ++ [128 + m % 128]).length 1]))
        rw [List.length_append]
        rfl
      · show some (AObj.row (R.map u8n ++ [.sc (.int .u8 (wrp .u8 ((BitVec.ofInt IntKind.u8.bits (wrp .u8 (hd ((m : Int).tmod 128))) ||| BitVec.ofInt IntKind.u8.bits 128).toNat : Int)))])) = some (renO _ (.row ((R ++ [128 + m % 128]).map u8n)))
        rw [renO_u8, or128, List.map_append]
        rfl
    · have g' : m < 128 := by have : ¬ (m : Int) ≥ 128 := g; omega
      refine Ob.intro rfl ?_
      refine optK_intro (hrd _) ?_
      refine Ob.intro (show (R.length + 1) * 1 ≤ 140737488355328 ∧ R.length + 1 ≤ 9223372036854775807 by omega) ?_
      have e1 : AObj.row [.slc 3 0 (R.length + 1) 1] = .row [.slc 3 0 (R0 ++ numN n).length 1] := by rw [o1 g', List.length_append]; rfl
      have e2 : AObj.row (R.map u8n ++ [.sc (.int .u8 (wrp .u8 (m : Int)))]) = .row ((R0 ++ numN n).map u8n) := by rw [o1 g', hw g', List.map_append]; rfl
      exact ⟨rfl, PH 3 (R0 ++ numN n), .tup [], ⟨⟨_, rfl, rfl⟩, ⟨.inl e1.symm, .inl rfl, .inr rfl, .inl e2.symm, True.intro⟩, (show 2 ≤ 4 by decide), belowH_PH3 _⟩, rfl, .inl rfl⟩
  | false =>
    have hrd : ∀ G : Heap, rdN (.row [.slc 2 0 R.length 1] :: .dead :: .row (R.map u8n) :: G) 2 0 (R.length * 1) = some (R.map u8n) := fun G => rdN_all rfl (by rw [List.length_map]; omega)
    refine forkD (fun g => ?_) (fun g => ?_)
    · have g' : ¬ m < 128 := by have : (m : Int) ≥ 128 := g; omega
      refine Ob.intro (by decide) ?_
      refine Ob.intro rfl ?_
      refine optK_intro (hrd _) ?_
      refine Ob.intro (show (R.length + 1) * 1 ≤ 140737488355328 ∧ R.length + 1 ≤ 9223372036854775807 by omega) ?_
      refine Ob.intro (by decide) ?_
      refine hnext g' [0, 1, 4] _ ⟨⟨rfl, congrArg (fun z => AV.sc (.int .u64 z)) (num_div m hm64), True.intro⟩, ⟨.inl ?_, .inl rfl, .inl ?_, True.intro⟩, rfl, rfl, rfl⟩
      · show some (AObj.row [.slc 4 0 (R.length + 1) 1]) = some (renO _ (.row [.slc 2 0 (R ++ [128 + m % 128]).length 1]))
        rw [List.length_append]
        rfl
      · show some (AObj.row (R.map u8n ++ [.sc (.int .u8 (wrp .u8 ((BitVec.ofInt IntKind.u8.bits (wrp .u8 (hd ((m : Int).tmod 128))) ||| BitVec.ofInt IntKind.u8.bits 128).toNat : Int)))])) = some (renO _ (.row ((R ++ [128 + m % 128]).map u8n)))
        rw [renO_u8, or128, List.map_append]
        rfl
    · have g' : m < 128 := by have : ¬ (m : Int) ≥ 128 := g; omega
      refine Ob.intro rfl ?_
      refine optK_intro (hrd _) ?_
      refine Ob.intro (show (R.length + 1) * 1 ≤ 140737488355328 ∧ R.length + 1 ≤ 9223372036854775807 by omega) ?_
      have e1 : AObj.row [.slc 4 0 (R.length + 1) 1] = .row [.slc 4 0 (R0 ++ numN n).length 1] := by rw [o1 g', List.length_append]; rfl
      have e2 : AObj.row (R.map u8n ++ [.sc (.int .u8 (wrp .u8 (m : Int)))]) = .row ((R0 ++ numN n).map u8n) := by rw [o1 g', hw g', List.map_append]; rfl
      exact ⟨rfl, PH 4 (R0 ++ numN n), .tup [], ⟨⟨_, rfl, rfl⟩, ⟨.inl e1.symm, .inl rfl, .inl rfl, .inr rfl, .inl e2.symm, True.intro⟩, (show 2 ≤ 5 by decide), belowH_PH4 _⟩, rfl, .inr rfl⟩
theorem rnumber_ok (n : Nat) (hn : n < 18446744073709551616) : ACalls Try.prog 32 [u64n n] [] (Ret (str (BA (numN n)))) := by
  refine acalls_of_awp hT mixed Try.func32 rfl (by kernel_rfl) (by kernel_rfl) (Nat.le_of_ble_eq_true rfl) ?_
  refine loopI (α := NumSt n []) (fun z => [(0, u64n z.m), (3, .slc 0 0 z.R.length 1)]) (fun z => [.row (z.R.map u8n)]) (fun z => z.f) ⟨n, [], Nat.le_refl _, rfl, 9, Nat.lt_of_lt_of_le hn (by decide), by simp⟩ [0] ⟨⟨rfl, rfl, True.intro⟩, ⟨.inl rfl, True.intro⟩, rfl, rfl, rfl⟩ ?_
  rintro ⟨m, R, hm, hR, f, hf, hl2⟩ K hK
  rw [List.length_nil] at hl2
  have hrd : ∀ G : Heap, rdN (.row (R.map u8n) :: G) 0 0 (R.length * 1) = some (R.map u8n) := fun G => rdN_all rfl (by rw [List.length_map]; omega)
  refine forkD (fun g => ?_) (fun g => ?_)
  · have g' : ¬ m < 128 := by have : (m : Int) > 127 := g; omega
    have hw : wrp .u8 (wrp .u64 (128 + hd ((m : Int).tmod 128))) = ((128 + m % 128 : Nat) : Int) := by
      rw [hd_eq]
      show wrp .u8 (wrp .u64 (128 + ((m % 128 : Nat) : Int))) = _
      rw [wrpE .u64, wu64, wrpE, wu8]
      omega
    refine Ob.intro (by decide) ?_
    refine Ob.intro rfl ?_
    refine optK_intro (hrd _) ?_
    refine Ob.intro (show (R.length + 1) * 1 ≤ 140737488355328 ∧ R.length + 1 ≤ 9223372036854775807 by omega) ?_
    refine Ob.intro (by decide) ?_
    have hf0 : f ≠ 0 := fun e => by
      rw [e] at hf
      exact g' (by simpa using hf)
    refine hK ⟨m / 128, R ++ [128 + m % 128], by omega, by rw [List.append_assoc, ← hR, numN_ge g']; rfl, f - 1, by rw [show f - 1 + 1 = f by omega]; rw [Nat.pow_succ] at hf; omega, by rw [List.length_append, List.length_singleton, List.length_nil]; omega⟩ [2] _ (show f = f - 1 + 1 by omega)
      ⟨⟨congrArg (fun z => AV.sc (.int .u64 z)) ?_, slcE rfl (by rw [List.length_append]; rfl), True.intro⟩, ⟨.inl ?_, True.intro⟩, rfl, rfl, rfl⟩
    · show wrp .u64 ((m : Int).tdiv 128) = ((m / 128 : Nat) : Int)
      show wrp .u64 ((m / 128 : Nat) : Int) = _
      rw [wrpE, wu64]
      omega
    · show some (AObj.row (R.map u8n ++ [.sc (.int .u8 (wrp .u8 (wrp .u64 (128 + hd ((m : Int).tmod 128)))))])) = some (renO _ (.row ((R ++ [128 + m % 128]).map u8n)))
      rw [renO_u8, hw, List.map_append]
      rfl
  · have g' : m < 128 := by have : ¬ (m : Int) > 127 := g; omega
    have hw : wrp .u8 (m : Int) = ((m : Nat) : Int) := by rw [byteW]; omega
    have hRn : numN n = R ++ [m] := by
      have := hR
      rw [numN_lt g', List.nil_append] at this
      exact this.symm
    refine Ob.intro rfl ?_
    refine optK_intro (hrd _) ?_
    refine Ob.intro (show (R.length + 1) * 1 ≤ 140737488355328 ∧ R.length + 1 ≤ 9223372036854775807 by omega) ?_
    have e2 : R.map u8n ++ [.sc (.int .u8 (wrp .u8 (m : Int)))] = (numN n).map u8n := by rw [hRn, hw, List.map_append]; rfl
    refine optK_intro (a := (numN n).map u8n) (by rw [← e2]; exact src_all rfl (by rw [List.length_append, List.length_map]; rfl)) ?_
    refine optK_intro (a := (numN n).map UInt8.ofNat) (textA_u8 _) ?_
    refine end0 rfl rfl rfl rfl
end Go.Proofs.Ythebddjpnkimjaa.A
