/- wire: letters, shapes. No condition. -/
import Derived.Test.YtgchhmfobkcnfaaNh
import Derived.Test.YtgchhmfobkcnfaaBb
import Derived.Lib.Bytealg
import Derived.Test.YtgchhmfobkcnfaaLm
namespace Go.Proofs.Ytgchhmfobkcnfaa.A
open Go
set_option linter.unusedVariables false
set_option maxRecDepth 100000
set_option pp.maxSteps 1500

def isL (c : Nat) : Bool := c == 98 || c == 110 || c == 116 || c == 102 || c == 108
theorem VL_twoW {X : Ctx} {a b : AV} {args : Array Value} (h : VL X [a, b] args.toList) : ∃ v w, args = #[v, w] ∧ VR X a v ∧ VR X b w := by
  obtain ⟨l⟩ := args
  match l, h with
  | [v, w], h =>
    simp only [VL] at h
    exact ⟨v, w, rfl, h.1, h.2.1⟩
  | [], h => simp [VL] at h
  | [_], h => simp [VL] at h
  | _ :: _ :: _ :: _, h => simp [VL] at h
theorem indexByte_ok (s : ByteArray) (c : Int) : ACalls Try.prog 115 [str s, by8 c] [] (Ret (i64 (Lib.indexByte s.data.toList c.toNat.toUInt8))) := by
  refine ext_calls (e := Extern.BytealgIndexByte.indexByte) (show Try.prog.funcs[115]? = some Try.f115 from Try.func115) (by kernel_rfl) rfl (by kernel_rfl) (by kernel_rfl) ?_
  intro X vs hr hv
  obtain ⟨v, w, rfl, h1, h2⟩ := VL_twoW hv
  rw [str, VR_string] at h1
  rw [by8, VR_sc_int] at h2
  subst h1 h2
  exact ⟨_, i64 _, Lib.run_indexByteString s c X.w, VR_sc_int.2 rfl, rfl, rfl⟩
theorem lindexByte_ok (s : ByteArray) (c : Int) : ACalls Try.prog 113 [str s, by8 c] [] (Ret (i64 (Lib.indexByte s.data.toList c.toNat.toUInt8))) := by
  refine acalls_of_awp hT mixed Try.func113 rfl (by kernel_rfl) (by kernel_rfl) (Nat.le_of_ble_eq_true rfl) ?_
  refine callP (indexByte_ok s c) rfl rfl ?_
  refine end0 rfl rfl rfl rfl
theorem sindexByte_ok (s : ByteArray) (c : Int) : ACalls Try.prog 106 [str s, by8 c] [] (Ret (i64 (Lib.indexByte s.data.toList c.toNat.toUInt8))) := by
  refine acalls_of_awp hT mixed Try.func106 rfl (by kernel_rfl) (by kernel_rfl) (Nat.le_of_ble_eq_true rfl) ?_
  refine callP (lindexByte_ok s c) rfl rfl ?_
  refine end0 rfl rfl rfl rfl
theorem idx_isL : ∀ c, c < 256 → (decide (0 ≤ Lib.indexByte [98, 110, 116, 102, 108] c.toUInt8) = isL c) := by decide +kernel
theorem letter_ok (c : Nat) (hc : c < 256) : ACalls Try.prog 93 [u8n c] [] (Ret (bo (isL c))) := by
  have h := sindexByte_ok ⟨#[98, 110, 116, 102, 108]⟩ (c : Nat)
  rw [Int.toNat_natCast] at h
  have hi := idx_isL c hc
  rw [show (⟨#[98, 110, 116, 102, 108]⟩ : ByteArray).data.toList = [98, 110, 116, 102, 108] from rfl] at h
  generalize Lib.indexByte [98, 110, 116, 102, 108] c.toUInt8 = i at *
  refine acalls_of_awp hT mixed Try.func93 rfl (by kernel_rfl) (by kernel_rfl) (Nat.le_of_ble_eq_true rfl) ?_
  refine callP h rfl rfl ?_
  refine forkD (fun g => ?_) (fun g => ?_)
  · have g' : 0 ≤ i := g
    refine end0 rfl rfl rfl (congrArg bo (by rw [← hi, decide_eq_true g']))
  · have g' : ¬ 0 ≤ i := g
    refine end0 rfl rfl rfl (congrArg bo (by rw [← hi, decide_eq_false g']))
/-- The parts of a shape. -/
def parL : Bool → List Nat → Option (List (Nat × Bool))
  | true, [] => none
  | false, [] => some []
  | star, c :: r => if c = 42 ∧ star = false then parL true r else if isL c = true then (parL false r).map ((c, star) :: ·) else none
def shP (b : List Nat) : Option (List (Nat × Bool)) := if b.length ≤ 40 then parL false b else none
def v8 (l : List Nat) : AV := .view l.length (l.map u8n)
def vbo (l : List Bool) : AV := .view l.length (l.map bo)
/-- What has been read of a shape. -/
structure PaSt (b : List Nat) where
  k : Nat
  star : Bool
  X : List Nat
  Y : List Bool
  hk : k ≤ b.length
  len : X.length = Y.length
  lx : X.length ≤ k
  hP : parL false b = (parL star (b.drop k)).map ((X.zip Y) ++ ·)
theorem renO_bo (r : Nat → Nat) (l : List Bool) : renO r (.row (l.map bo)) = .row (l.map bo) := by
  simp only [renO]
  rw [renL_map (fun _ _ => rfl)]
theorem frz_map3 {α : Type} {g : α → AV} {H : Heap} {i n m k : Nat} {L : List α} (h : nth H i = some (.row (L.map g))) (hn : n = L.length) (hm : Nat.blt i m = false) (hg : ∀ x, frz0 H m (k + 1) (g x) = some (g x)) : frz H m (k + 2) (.slc i 0 n 1) = some (.view L.length (L.map g)) := by
  subst hn
  have h1 : rdN H i 0 (L.length * 1) = some (L.map g) := rdN_all h (by rw [List.length_map]; omega)
  have h2 : mapO (frz0 H m (k + 1)) (L.map g) = some (L.map g) := mapO_map (f := frz0 H m (k + 1)) (g := g) (h := g) hg L
  simp only [frz, frz0, hm, cond_false, h1, h2]
def PaR (b : List Nat) : AEnd → Heap → Prop := fun E G => G = [] ∧ ∃ (X : List Nat) (Y : List Bool) (ok : Bool), X.length = Y.length ∧ X.length ≤ 60 ∧ E = .ret (.tup [v8 X, vbo Y, bo ok]) ∧ (ok = true → shP b = some (X.zip Y)) ∧ (ok = false → shP b = none)
theorem parL_step (star : Bool) (b : List Nat) (k c : Nat) (h : b[k]? = some c) : parL star (b.drop k) = if c = 42 ∧ star = false then parL true (b.drop (k + 1)) else if isL c = true then (parL false (b.drop (k + 1))).map ((c, star) :: ·) else none := by
  obtain ⟨h1, rfl⟩ := List.getElem?_eq_some_iff.1 h
  rw [List.drop_eq_getElem_cons h1]
  cases star <;> rfl
theorem EndR_nil8 (a : AV) (r : List AV) (ha : ∀ X v, VR X nilS v → VR X a v) {b : AV} (hb : ∀ X v, VR X nilS v → VR X b v) : ∀ Y e, EndR Y (.ret (.tup (nilS :: nilS :: r))) e → EndR Y (.ret (.tup (a :: b :: r))) e := fun Y e h => by
  cases e with
  | returned v =>
    have h' : VR Y (.tup (nilS :: nilS :: r)) v := h
    show VR Y (.tup (a :: b :: r)) v
    simp only [VR] at h' ⊢
    obtain ⟨ws, e, hl⟩ := h'
    refine ⟨ws, e, ?_⟩
    generalize ws.toList = q at hl
    match q, hl with
    | w :: z :: q, hl =>
      simp only [VL] at hl ⊢
      exact ⟨ha _ _ hl.1, hb _ _ hl.2.1, hl.2.2⟩
    | [_], hl => simp [VL] at hl
    | [], hl => simp [VL] at hl
  | panicked _ => exact h
  | outgrown => exact h
theorem parts_step {b : List Nat} {k c : Nat} {star : Bool} {X : List Nat} {Y : List Bool} (hc : b[k]? = some c) (len : X.length = Y.length) (hP : parL false b = (parL star (b.drop k)).map ((X.zip Y) ++ ·)) :
    (c = 42 ∧ star = false → parL false b = (parL true (b.drop (k + 1))).map ((X.zip Y) ++ ·)) ∧ (¬ (c = 42 ∧ star = false) → isL c = true → parL false b = (parL false (b.drop (k + 1))).map (((X ++ [c]).zip (Y ++ [star])) ++ ·)) ∧ (¬ (c = 42 ∧ star = false) → isL c = false → parL false b = none) := by
  rw [parL_step star b k c hc] at hP
  refine ⟨fun h => ?_, fun h h2 => ?_, fun h h2 => ?_⟩
  · rw [if_pos h] at hP
    exact hP
  · rw [if_neg h, if_pos h2, Option.map_map] at hP
    rw [hP, List.zip_append len]
    congr 1
    funext z
    simp
  · rw [if_neg h, if_neg (by rw [h2]; decide)] at hP
    exact hP
theorem wparts_ok (s : ByteArray) (hn : s.size ≤ 60) : ACalls Try.prog 75 [str s] [] (PaR (byL s)) := by
  refine ACalls.weakR (R := fun E G => PaR (byL s) E G ∨ (G = [] ∧ E = .ret (.tup [nilS, nilS, bo false]) ∧ shP (byL s) = none)) ?_ ?_
  · refine acalls_of_awp hT mixed Try.func75 rfl (by kernel_rfl) (by kernel_rfl) (Nat.le_of_ble_eq_true rfl) ?_
    refine loopG (α := PaSt (byL s)) (fun z => [(0, str s), (5, .slc 0 0 z.X.length 1), (6, .slc 1 0 z.Y.length 1), (7, bo z.star), (10, str s), (11, i64 s.size), (12, i64 (z.k : Nat))]) (fun z => [.row (z.X.map u8n), .row (z.Y.map bo)]) [] (fun z => s.size - z.k)
      ⟨0, false, [], [], Nat.zero_le _, rfl, Nat.zero_le _, by cases hq : parL false (byL s) <;> simp [hq]⟩ [.at_ 5 1, .at_ 6 1] [0, 1] ⟨⟨rfl, rfl, rfl, rfl, rfl, rfl, rfl, True.intro⟩, ⟨.inl rfl, .inl rfl, True.intro⟩, rfl, rfl, rfl⟩ ?_
    rintro ⟨k, star, X, Y, hk, len, lx, hP⟩ K hK
    rw [byL_len] at hk
    have hinc : wrp .i64 ((k : Int) + 1) = ((k + 1 : Nat) : Int) := by rw [wrpE, wi64]; omega
    refine forkD (fun h => ?_) (fun h => ?_)
    · have h' : k < s.size := by have : (k : Int) < (s.size : Int) := h; omega
      have hk1 : k + 1 ≤ (byL s).length := by rw [byL_len]; exact h'
      have hm : s.size - k = s.size - (k + 1) + 1 := by omega
      obtain ⟨p1, p2, p3⟩ := parts_step (byL_at h') len hP
      have hL := letter_ok (octB s k) (octB_lt s k)
      have hno : ¬ (octB s k = 42 ∧ star = false) → isL (octB s k) = false → shP (byL s) = none := fun h1 h2 => by
        unfold shP
        rw [p3 h1 h2]
        split <;> rfl
      refine Ob.intro (show (0 : Int) ≤ (k : Nat) ∧ ((k : Nat) : Int) < (s.size : Int) by omega) ?_
      have app : ∀ (st : Bool), st = star → ¬ (octB s k = 42 ∧ star = false) → isL (octB s k) = true → parL false (byL s) = (parL false ((byL s).drop (k + 1))).map (((X ++ [octB s k]).zip (Y ++ [st])) ++ ·) := fun st e h1 h2 => by rw [e]; exact p2 h1 h2
      cases hl : isL (octB s k) with
      | true =>
        rw [hl] at hL
        have h42 : ¬ octB s k = 42 := fun e => by rw [e] at hl; cases hl
        have pp := app star rfl (fun hh => h42 hh.1) hl
        cases star <;>
        · refine fork (fun g => absurd (show octB s k = 42 from by have : ((octB s k : Nat) : Int) = 42 := beq_iff_eq.1 g; omega) h42) (fun g => ?_)
          refine callP hL rfl rfl ?_
          refine Ob.intro rfl ?_
          refine optK_intro (rdN_all (cs := X.map u8n) rfl (by rw [List.length_map, Nat.mul_one])) ?_
          refine Ob.intro (show (X.length + 1) * 1 ≤ 140737488355328 ∧ X.length + 1 ≤ 9223372036854775807 by omega) ?_
          refine Ob.intro rfl ?_
          refine optK_intro (rdN_all (cs := Y.map bo) rfl (by rw [List.length_map, Nat.mul_one])) ?_
          refine Ob.intro (show (Y.length + 1) * 1 ≤ 140737488355328 ∧ Y.length + 1 ≤ 9223372036854775807 by omega) ?_
          refine hK ⟨k + 1, false, X ++ [octB s k], Y ++ [_], hk1, by simp [len], by rw [List.length_append, List.length_singleton]; omega, pp⟩ [] [3, 5] _ hm ⟨⟨rfl, slcE rfl (by rw [List.length_append]; rfl), slcE rfl (by rw [List.length_append]; rfl), rfl, rfl, rfl, congrArg i64 hinc, True.intro⟩, ⟨.inl ?_, .inl ?_, True.intro⟩, rfl, rfl, rfl⟩
          · show some (AObj.row (X.map u8n ++ [u8n (octB s k)])) = some (renO _ (.row ((X ++ [octB s k]).map u8n)))
            rw [renO_u8, List.map_append]
            rfl
          · show some (AObj.row (Y.map bo ++ [bo _])) = some (renO _ (.row ((Y ++ [_]).map bo)))
            rw [renO_bo, List.map_append]
            rfl
      | false =>
        rw [hl] at hL
        cases star with
        | false =>
          refine fork (fun g => ?_) (fun g => ?_)
          · have h42 : octB s k = 42 := by
              have : ((octB s k : Nat) : Int) = 42 := beq_iff_eq.1 g
              omega
            refine hK ⟨k + 1, true, X, Y, hk1, len, by omega, p1 ⟨h42, rfl⟩⟩ [] [0, 1] _ hm ⟨⟨rfl, rfl, rfl, rfl, rfl, rfl, congrArg i64 hinc, True.intro⟩, ⟨.inl (by rw [renO_u8]; rfl), .inl (by rw [renO_bo]; rfl), True.intro⟩, rfl, rfl, rfl⟩
          · have h42 : ¬ octB s k = 42 := fun e => by
              have : ((octB s k : Nat) : Int) ≠ 42 := beq_eq_false_iff_ne.1 g
              omega
            refine callP hL rfl rfl ?_
            exact ⟨rfl, [], .tup [nilS, nilS, bo false], ⟨⟨_, rfl, rfl⟩, True.intro, Nat.zero_le _, rfl⟩, .inr ⟨rfl, rfl, hno (fun hh => h42 hh.1) hl⟩⟩
        | true =>
          have hnn : ¬ (octB s k = 42 ∧ true = false) := fun hh => by cases hh.2
          refine fork (fun g => ?_) (fun g => ?_)
          · refine callP hL rfl rfl ?_
            exact ⟨rfl, [], .tup [nilS, nilS, bo false], ⟨⟨_, rfl, rfl⟩, True.intro, Nat.zero_le _, rfl⟩, .inr ⟨rfl, rfl, hno hnn hl⟩⟩
          · refine callP hL rfl rfl ?_
            exact ⟨rfl, [], .tup [nilS, nilS, bo false], ⟨⟨_, rfl, rfl⟩, True.intro, Nat.zero_le _, rfl⟩, .inr ⟨rfl, rfl, hno hnn hl⟩⟩
    · have h' : k = s.size := by have : ¬ (k : Int) < (s.size : Int) := h; omega
      have hd : (byL s).drop k = [] := List.drop_eq_nil_of_le (by rw [byL_len]; omega)
      rw [hd] at hP
      have f1 : frz [.row (X.map u8n), .row (Y.map bo)] 0 7 (.slc 0 0 X.length 1) = some (v8 X) := frz_map3 (k := 5) rfl rfl rfl fun _ => rfl
      have f2 : frz [.row (X.map u8n), .row (Y.map bo)] 0 7 (.slc 1 0 Y.length 1) = some (vbo Y) := frz_map3 (k := 5) rfl rfl rfl fun x => by cases x <;> rfl
      have ft : ∀ c : Bool, frz [.row (X.map u8n), .row (Y.map bo)] 0 8 (.tup [.slc 0 0 X.length 1, .slc 1 0 Y.length 1, bo c]) = some (.tup [v8 X, vbo Y, bo c]) := fun c => frz_tup (by simp only [mapO, f1, f2]; rfl)
      cases star with
      | true =>
        have hsn : shP (byL s) = none := by unfold shP; rw [hP]; split <;> rfl
        exact ⟨rfl, [], .tup [v8 X, vbo Y, bo false], ⟨⟨_, rfl, ft false⟩, True.intro, Nat.zero_le _, rfl⟩, .inl ⟨rfl, X, Y, false, len, by omega, rfl, fun hh => (by cases hh), fun _ => hsn⟩⟩
      | false =>
        refine forkD (fun g => ?_) (fun g => ?_)
        · have g' : s.size ≤ 40 := by have : (s.size : Int) ≤ 40 := g; omega
          exact ⟨rfl, [], .tup [v8 X, vbo Y, bo true], ⟨⟨_, rfl, ft true⟩, True.intro, Nat.zero_le _, rfl⟩, .inl ⟨rfl, X, Y, true, len, by omega, rfl, fun _ => by unfold shP; rw [if_pos (by rw [byL_len]; exact g'), hP]; simp [parL], fun hh => by cases hh⟩⟩
        · have g' : ¬ s.size ≤ 40 := by have : ¬ (s.size : Int) ≤ 40 := g; omega
          exact ⟨rfl, [], .tup [v8 X, vbo Y, bo false], ⟨⟨_, rfl, ft false⟩, True.intro, Nat.zero_le _, rfl⟩, .inl ⟨rfl, X, Y, false, len, by omega, rfl, fun hh => (by cases hh), fun _ => by unfold shP; rw [if_neg (by rw [byL_len]; exact g')]⟩⟩
  · rintro E G (h | ⟨rfl, rfl, h⟩)
    · exact ⟨_, h, fun _ _ h => h⟩
    · exact ⟨_, ⟨rfl, [], [], false, rfl, by decide, rfl, fun hh => (by cases hh), fun _ => h⟩, EndR_nil8 _ _ (fun _ _ h => VR_nilView h) (fun _ _ h => VR_nilView h)⟩
end Go.Proofs.Ytgchhmfobkcnfaa.A

namespace Go.Proofs.Ytgchhmfobkcnfaa.A
open Go
set_option linter.unusedVariables false
set_option maxRecDepth 100000
set_option pp.maxSteps 1500

/-! ### Faults -/
/-- A fault, as it comes up. -/
def fltV (e : Int) : Value := .iface 139 (.int .i64 e)
theorem check_yes (e : Int) : ACalls Try.prog 76 [bo true, i64 e] [] (Ret (.tup [])) := by
  refine acalls_of_awp hT mixed Try.func76 rfl (by kernel_rfl) (by kernel_rfl) (Nat.le_of_ble_eq_true rfl) ?_
  exact ⟨rfl, [], .tup [], ⟨⟨_, rfl, rfl⟩, True.intro, Nat.zero_le _, rfl⟩, rfl, rfl⟩
theorem check_no (e : Int) : ACalls Try.prog 76 [bo false, i64 e] [] (fun E G => E = .pan (fltV e) ∧ G = []) := by
  refine acalls_of_awp hT mixed Try.func76 rfl (by kernel_rfl) (by kernel_rfl) (Nat.le_of_ble_eq_true rfl) ?_
  exact ⟨rfl, [], True.intro, Nat.zero_le _, rfl, rfl, rfl⟩
/-- A call that goes wrong for sure. -/
theorem callBad {P : Program} {g : FuncId} {bs args : List AV} {u : Value} {H : Heap} {K : AV → Heap → Prop} {Kp : Value → Heap → Prop} (h : ACalls P g bs [] (fun E G => E = .pan u ∧ G = [])) (ha : args = renL (rn [] H.length) bs) (k : Kp u H) : ACalls P g args H (panK K Kp) := by
  subst ha
  refine callS h [] True.intro rfl ?_
  rintro E G ⟨rfl, rfl⟩ _
  refine ⟨_, _, rfl, rfl, ?_⟩
  simp only [renH, merge, setMany, List.drop_nil, List.append_nil]
  exact k
/-! ### Numbers -/
/-- A number in groups. -/
def numN (n : Nat) : List Nat := if n < 128 then [n] else (128 + n % 128) :: numN (n / 128)
termination_by n
decreasing_by omega
theorem numN_lt {n : Nat} (h : n < 128) : numN n = [n] := by rw [numN, if_pos h]
theorem numN_ge {n : Nat} (h : ¬ n < 128) : numN n = (128 + n % 128) :: numN (n / 128) := by rw [numN, if_neg h]
theorem numN_len : ∀ (k n : Nat), n < 128 ^ (k + 1) → (numN n).length ≤ k + 1
  | 0, n, h => by rw [numN_lt (by simpa using h)]; exact Nat.le_refl _
  | k + 1, n, h => by
    by_cases h1 : n < 128
    · rw [numN_lt h1]; simp
    · rw [numN_ge h1, List.length_cons]
      have := numN_len k (n / 128) (by rw [Nat.pow_succ] at h; omega)
      omega
theorem numN_len10 {n : Nat} (h : n < 18446744073709551616) : (numN n).length ≤ 10 := numN_len 9 n (Nat.lt_of_lt_of_le h (by decide))
theorem numN_256 (n : Nat) : ∀ x ∈ numN n, x < 256 := by
  induction n using Nat.strongRecOn with
  | _ n ih =>
    intro x hx
    by_cases h1 : n < 128
    · rw [numN_lt h1, List.mem_singleton] at hx
      omega
    · rw [numN_ge h1] at hx
      rcases List.mem_cons.1 hx with rfl | hx
      · omega
      · exact ih (n / 128) (by omega) x hx
/-- The printer's heap: its bytes are the object k. -/
def PH (k : Nat) (R : List Nat) : Heap := .row [.slc k 0 R.length 1] :: (List.replicate (k - 1) .dead ++ [.row (R.map u8n)])
theorem or128 (n : Nat) : wrp .u8 ((BitVec.ofInt IntKind.u8.bits (wrp .u8 (hd ((n : Int).tmod 128))) ||| BitVec.ofInt IntKind.u8.bits 128).toNat : Int) = ((128 + n % 128 : Nat) : Int) := by
  have e0 : wrp .u8 (hd ((n : Int).tmod 128)) = ((n % 128 : Nat) : Int) := by
    rw [hd_eq]
    show wrp .u8 ((n % 128 : Nat) : Int) = _
    rw [byteW]
    omega
  have e2 : (BitVec.ofInt 8 ((n % 128 : Nat) : Int)).toNat = n % 128 := by rw [BitVec.toNat_ofInt]; omega
  have e4 : (BitVec.ofInt IntKind.u8.bits ((n % 128 : Nat) : Int) ||| BitVec.ofInt IntKind.u8.bits 128).toNat = 128 + n % 128 := by
    show (BitVec.ofInt 8 ((n % 128 : Nat) : Int) ||| BitVec.ofInt 8 128).toNat = _
    rw [BitVec.toNat_or, e2, show (BitVec.ofInt 8 128).toNat = 2 ^ 7 * 1 from rfl, Nat.or_comm, ← Nat.two_pow_add_eq_or_of_lt (by omega)]
  rw [e0, e4, byteW]
  omega
structure NumSt (n : Nat) (R0 : List Nat) where
  m : Nat
  R : List Nat
  hm : m ≤ n
  hR : R ++ numN m = R0 ++ numN n
  f : Nat
  hf : m < 128 ^ (f + 1)
  hl : R.length + f ≤ R0.length + 9
theorem belowH_PH3 (R : List Nat) : belowH 4 (PH 3 R) = true := by
  simp only [PH, belowH, belowO, belowL_u8, List.replicate, List.cons_append, List.nil_append]
  rfl
theorem belowH_PH4 (R : List Nat) : belowH 5 (PH 4 R) = true := by
  simp only [PH, belowH, belowO, belowL_u8, List.replicate, List.cons_append, List.nil_append]
  rfl
structure NmSt (n : Nat) (R0 : List Nat) extends NumSt n R0 where
  first : Bool
  h1 : first = true → m = n ∧ R = R0
def NmSt.H {n : Nat} {R0 : List Nat} (z : NmSt n R0) : Heap :=
  match z.first with
  | true => [.row [.slc 1 0 z.R.length 1], .row (z.R.map u8n)]
  | false => [.row [.slc 2 0 z.R.length 1], .dead, .row (z.R.map u8n)]
def NmR (R : List Nat) : AEnd → Heap → Prop := fun E G => E = .ret (.tup []) ∧ (G = PH 3 R ∨ G = PH 4 R)
theorem num_div (m : Nat) (h : m < 18446744073709551616) : wrp .u64 ((m : Int).tdiv 128) = ((m / 128 : Nat) : Int) := by
  show wrp .u64 ((m / 128 : Nat) : Int) = _
  rw [wrpE, wu64]
  omega
theorem number_ok (n : Nat) (R0 : List Nat) (hn : n < 18446744073709551616) (hl : R0.length ≤ 1000000) : ACalls Try.prog 95 [.ptr 0 0, u64n n] (PH 1 R0) (NmR (R0 ++ numN n)) := by
  refine acalls_of_awp hT mixed Try.func95 rfl (by kernel_rfl) (by kernel_rfl) (Nat.le_of_ble_eq_true rfl) ?_
  refine loopI (α := NmSt n R0) (fun z => [(0, .ptr 0 0), (1, u64n z.m)]) (fun z => z.H) (fun z => z.f) ⟨⟨n, R0, Nat.le_refl _, rfl, 9, Nat.lt_of_lt_of_le hn (by decide), by omega⟩, true, fun _ => ⟨rfl, rfl⟩⟩ [0, 1] ⟨⟨rfl, rfl, True.intro⟩, ⟨.inl rfl, .inl (by show _ = some (renO _ (.row (R0.map u8n))); rw [renO_u8]; rfl), True.intro⟩, rfl, rfl, rfl⟩ ?_
  rintro ⟨⟨m, R, hm, hR, f, hf, hl2⟩, first, h1⟩ K hK
  have hm64 : m < 18446744073709551616 := by omega
  have hf0 : ¬ m < 128 → f ≠ 0 := fun g e => by
    rw [e] at hf
    exact g (by simpa using hf)
  have hnext : ∀ g : ¬ m < 128, ∀ (is : List Nat) (s' : St), Weak 2 s' is [(0, .ptr 0 0), (1, u64n (m / 128))] [.row [.slc 2 0 (R ++ [128 + m % 128]).length 1], .dead, .row ((R ++ [128 + m % 128]).map u8n)] → K s' := fun g is s' hw =>
    hK ⟨⟨m / 128, R ++ [128 + m % 128], by omega, by rw [List.append_assoc, ← hR, numN_ge g]; rfl, f - 1, by rw [show f - 1 + 1 = f from by have := hf0 g; omega]; rw [Nat.pow_succ] at hf; omega, by rw [List.length_append, List.length_singleton]; have := hf0 g; omega⟩, false, fun h => (by cases h)⟩ is s' (by have := hf0 g; show f = f - 1 + 1; omega) hw
  have o1 : m < 128 → R0 ++ numN n = R ++ [m] := fun g => by rw [← hR, numN_lt g]
  have hw : m < 128 → wrp .u8 (m : Int) = ((m : Nat) : Int) := fun g => by rw [byteW]; omega
  cases first with
  | true =>
    have hrd : ∀ G : Heap, rdN (.row [.slc 1 0 R.length 1] :: .row (R.map u8n) :: G) 1 0 (R.length * 1) = some (R.map u8n) := fun G => rdN_all rfl (by rw [List.length_map]; omega)
    refine forkD (fun g => ?_) (fun g => ?_)
    · have g' : ¬ m < 128 := by have : (m : Int) ≥ 128 := g; omega
      refine Ob.intro (by decide) ?_
      refine Ob.intro rfl ?_
      refine optK_intro (hrd _) ?_
      refine Ob.intro (show (R.length + 1) * 1 ≤ 140737488355328 ∧ R.length + 1 ≤ 9223372036854775807 by omega) ?_
      refine Ob.intro (by decide) ?_
      refine hnext g' [0, 1, 3] _ ⟨⟨rfl, congrArg (fun z => AV.sc (.int .u64 z)) (num_div m hm64), True.intro⟩, ⟨.inl ?_, .inl rfl, .inl ?_, True.intro⟩, rfl, rfl, rfl⟩
      · show some (AObj.row [.slc 3 0 (R.length + 1) 1]) = some (renO _ (.row [.slc 2 0 (R ++ [128 + m % 128]).length 1]))
        rw [List.length_append]
        rfl
      · show some (AObj.row (R.map u8n ++ [.sc (.int .u8 (wrp .u8 ((BitVec.ofInt IntKind.u8.bits (wrp .u8 (hd ((m : Int).tmod 128))) ||| BitVec.ofInt IntKind.u8.bits 128).toNat : Int)))])) = some (renO _ (.row ((R ++ [128 + m % 128]).map u8n)))
        rw [renO_u8, or128, List.map_append]
        rfl
    · have g' : m < 128 := by have : ¬ (m : Int) ≥ 128 := g; omega
      refine Ob.intro rfl ?_
      refine optK_intro (hrd _) ?_
      refine Ob.intro (show (R.length + 1) * 1 ≤ 140737488355328 ∧ R.length + 1 ≤ 9223372036854775807 by omega) ?_
      have e1 : AObj.row [.slc 3 0 (R.length + 1) 1] = .row [.slc 3 0 (R0 ++ numN n).length 1] := by rw [o1 g', List.length_append]; rfl
      have e2 : AObj.row (R.map u8n ++ [.sc (.int .u8 (wrp .u8 (m : Int)))]) = .row ((R0 ++ numN n).map u8n) := by rw [o1 g', hw g', List.map_append]; rfl
      exact ⟨rfl, PH 3 (R0 ++ numN n), .tup [], ⟨⟨_, rfl, rfl⟩, ⟨.inl e1.symm, .inl rfl, .inr rfl, .inl e2.symm, True.intro⟩, (show 2 ≤ 4 by decide), belowH_PH3 _⟩, rfl, .inl rfl⟩
  | false =>
    have hrd : ∀ G : Heap, rdN (.row [.slc 2 0 R.length 1] :: .dead :: .row (R.map u8n) :: G) 2 0 (R.length * 1) = some (R.map u8n) := fun G => rdN_all rfl (by rw [List.length_map]; omega)
    refine forkD (fun g => ?_) (fun g => ?_)
    · have g' : ¬ m < 128 := by have : (m : Int) ≥ 128 := g; omega
      refine Ob.intro (by decide) ?_
      refine Ob.intro rfl ?_
      refine optK_intro (hrd _) ?_
      refine Ob.intro (show (R.length + 1) * 1 ≤ 140737488355328 ∧ R.length + 1 ≤ 9223372036854775807 by omega) ?_
      refine Ob.intro (by decide) ?_
      refine hnext g' [0, 1, 4] _ ⟨⟨rfl, congrArg (fun z => AV.sc (.int .u64 z)) (num_div m hm64), True.intro⟩, ⟨.inl ?_, .inl rfl, .inl ?_, True.intro⟩, rfl, rfl, rfl⟩
      · show some (AObj.row [.slc 4 0 (R.length + 1) 1]) = some (renO _ (.row [.slc 2 0 (R ++ [128 + m % 128]).length 1]))
        rw [List.length_append]
        rfl
      · show some (AObj.row (R.map u8n ++ [.sc (.int .u8 (wrp .u8 ((BitVec.ofInt IntKind.u8.bits (wrp .u8 (hd ((m : Int).tmod 128))) ||| BitVec.ofInt IntKind.u8.bits 128).toNat : Int)))])) = some (renO _ (.row ((R ++ [128 + m % 128]).map u8n)))
        rw [renO_u8, or128, List.map_append]
        rfl
    · have g' : m < 128 := by have : ¬ (m : Int) ≥ 128 := g; omega
      refine Ob.intro rfl ?_
      refine optK_intro (hrd _) ?_
      refine Ob.intro (show (R.length + 1) * 1 ≤ 140737488355328 ∧ R.length + 1 ≤ 9223372036854775807 by omega) ?_
      have e1 : AObj.row [.slc 4 0 (R.length + 1) 1] = .row [.slc 4 0 (R0 ++ numN n).length 1] := by rw [o1 g', List.length_append]; rfl
      have e2 : AObj.row (R.map u8n ++ [.sc (.int .u8 (wrp .u8 (m : Int)))]) = .row ((R0 ++ numN n).map u8n) := by rw [o1 g', hw g', List.map_append]; rfl
      exact ⟨rfl, PH 4 (R0 ++ numN n), .tup [], ⟨⟨_, rfl, rfl⟩, ⟨.inl e1.symm, .inl rfl, .inl rfl, .inr rfl, .inl e2.symm, True.intro⟩, (show 2 ≤ 5 by decide), belowH_PH4 _⟩, rfl, .inr rfl⟩
end Go.Proofs.Ytgchhmfobkcnfaa.A

namespace Go.Proofs.Ytgchhmfobkcnfaa.A
open Go
set_option linter.unusedVariables false
set_option maxRecDepth 100000
set_option pp.maxSteps 1500

inductive It where
  | mk (n : Nat) (s : ByteArray) (l : List Nat) (kids : List It)
mutual
def itC : It → List AV
  | .mk n s l k => [u64n n, str s, us l, .view k.length (itsC k)]
def itsC : List It → List AV
  | [] => []
  | x :: r => itC x ++ itsC r
end
theorem itsC_flat : ∀ L : List It, itsC L = flat itC L
  | [] => rfl
  | x :: r => by rw [itsC, itsC_flat r]; rfl
theorem itC_len : ∀ x : It, (itC x).length = 4
  | .mk .. => rfl
def itA (x : It) : AV := .agg (itC x)
def itsV (L : List It) : AV := .view L.length (flat itC L)
def emB (n : Nat) (s : ByteArray) (l : List Nat) (a b c : Bool) : Bool := (a || ((n : Int) == 0)) && (b || strEq s ⟨#[]⟩) && (c || ((l.length : Int) == 0))
theorem empty_ok (n : Nat) (s : ByteArray) (l : List Nat) (k : List It) (a b c : Bool) : ACalls Try.prog 94 [itA (.mk n s l k), bo a, bo b, bo c] [] (Ret (bo (emB n s l a b c))) := by
  have key : ∀ q : Bool, emB n s l a b c = q → emB n s l a b c = q := fun _ h => h
  cases a <;> cases b <;> cases c <;>
  · refine acalls_of_awp hT mixed Try.func94 rfl (by kernel_rfl) (by kernel_rfl) (Nat.le_of_ble_eq_true rfl) ?_
    repeat' (first
      | refine end0 rfl rfl rfl (congrArg bo ?_)
      | refine fork (fun g => ?_) (fun g => ?_))
    all_goals (unfold emB; simp [*])
end Go.Proofs.Ytgchhmfobkcnfaa.A

namespace Go.Proofs.Ytgchhmfobkcnfaa.A
open Go
set_option linter.unusedVariables false
set_option maxRecDepth 100000
set_option pp.maxSteps 1500

def keyN (n : Nat) : List Nat := (keyL (placeB n)).map UInt8.toNat
def oneP (c : Nat) : It → Option (List Nat)
  | .mk n s l k =>
    if k.length = 0 then
      if c = 98 then (if emB n s l true false false = true ∧ n ≤ 255 then some [n] else none)
      else if c = 110 then (if emB n s l true false false = true then some (numN n) else none)
      else if c = 116 then (if emB n s l false true false = true ∧ s.size ≤ 200 then some (numN s.size ++ byL s) else none)
      else if c = 102 then (if emB n s l true false false = true ∧ bitsB n = n then some (keyN n) else none)
      else (if emB n s l false false true = true ∧ rightB l = true then some (packN l) else none)
    else none
theorem oneP_mk (c n : Nat) (s : ByteArray) (l : List Nat) (k : List It) : oneP c (.mk n s l k) = if k.length = 0 then (if c = 98 then (if emB n s l true false false = true ∧ n ≤ 255 then some [n] else none) else if c = 110 then (if emB n s l true false false = true then some (numN n) else none) else if c = 116 then (if emB n s l false true false = true ∧ s.size ≤ 200 then some (numN s.size ++ byL s) else none) else if c = 102 then (if emB n s l true false false = true ∧ bitsB n = n then some (keyN n) else none) else (if emB n s l false false true = true ∧ rightB l = true then some (packN l) else none)) else none := rfl
def OneR (o : Option (List Nat)) (R : List Nat) : AEnd → Heap → Prop := fun E G =>
  match o with
  | some b => E = .ret (.tup []) ∧ (G = PH 3 (R ++ b) ∨ G = PH 4 (R ++ b) ∨ G = PH 5 (R ++ b) ∨ G = PH 6 (R ++ b))
  | none => E = .pan (fltV 1) ∧ G = [.dead, .dead]
theorem belowH_PH5 (R : List Nat) : belowH 6 (PH 5 R) = true := by
  simp only [PH, belowH, belowO, belowL_u8, List.replicate, List.cons_append, List.nil_append]
  rfl
theorem belowH_PH6 (R : List Nat) : belowH 7 (PH 6 R) = true := by
  simp only [PH, belowH, belowO, belowL_u8, List.replicate, List.cons_append, List.nil_append]
  rfl
theorem one_kids (c n : Nat) (s : ByteArray) (l : List Nat) (k : List It) (R : List Nat) (hk : k.length ≠ 0) : ACalls Try.prog 78 [.ptr 0 0, u8n c, itA (.mk n s l k)] (PH 1 R) (OneR (oneP c (.mk n s l k)) R) := by
  have ho : oneP c (.mk n s l k) = none := by rw [oneP_mk, if_neg hk]
  rw [ho]
  refine acalls_of_awp hT mixed Try.func78 rfl (by kernel_rfl) (by kernel_rfl) (Nat.le_of_ble_eq_true rfl) ?_
  refine fork (fun g => ?_) (fun g => ?_)
  · exfalso
    have : (k.length : Int) = 0 := beq_iff_eq.1 g
    omega
  refine callBad (check_no 1) rfl ?_
  exact ⟨rfl, [.dead, .dead], ⟨.inr rfl, .inr rfl, True.intro⟩, Nat.le_refl 2, rfl, rfl, rfl⟩
theorem one_b (n : Nat) (s : ByteArray) (l : List Nat) (k : List It) (R : List Nat) (hk : k.length = 0) (hR : R.length ≤ 1000000) : ACalls Try.prog 78 [.ptr 0 0, u8n 98, itA (.mk n s l k)] (PH 1 R) (OneR (oneP 98 (.mk n s l k)) R) := by
  have he := empty_ok n s l k true false false
  have ho : oneP 98 (.mk n s l k) = if emB n s l true false false = true ∧ n ≤ 255 then some [n] else none := by rw [oneP_mk, if_pos hk]; rfl
  rw [ho]
  generalize emB n s l true false false = q at *
  cases q with
  | false =>
    rw [if_neg (fun h => by cases h.1)]
    refine acalls_of_awp hT mixed Try.func78 rfl (by kernel_rfl) (by kernel_rfl) (Nat.le_of_ble_eq_true rfl) ?_
    refine fork (fun g => ?_) (fun g => ?_)
    rotate_left
    · exfalso
      have : (k.length : Int) ≠ 0 := beq_eq_false_iff_ne.1 g
      omega
    refine callP (check_yes 1) rfl rfl ?_
    refine callP he rfl rfl ?_
    refine callBad (check_no 1) rfl ?_
    exact ⟨rfl, [.dead, .dead], ⟨.inr rfl, .inr rfl, True.intro⟩, Nat.le_refl 2, rfl, rfl, rfl⟩
  | true =>
    by_cases hn : n ≤ 255
    · rw [if_pos ⟨rfl, hn⟩]
      have hw : wrp .u8 (n : Int) = ((n : Nat) : Int) := by rw [byteW]; omega
      refine acalls_of_awp hT mixed Try.func78 rfl (by kernel_rfl) (by kernel_rfl) (Nat.le_of_ble_eq_true rfl) ?_
      refine fork (fun g => ?_) (fun g => ?_)
      rotate_left
      · exfalso
        have : (k.length : Int) ≠ 0 := beq_eq_false_iff_ne.1 g
        omega
      refine callP (check_yes 1) rfl rfl ?_
      refine callP he rfl rfl ?_
      refine forkD (fun g => ?_) (fun g => absurd (show (n : Int) ≤ 255 by omega) g)
      refine callP (check_yes 1) rfl rfl ?_
      refine ⟨[0, 0, 0, 0, 0, 0, 0, 0, 0, 1, 1, 1, 2], [[], [], [1], [1, 2], [1, 2, 3], [], [5], [5, 6], [5, 6, 7], [1, 2, 3, 4, 5, 6, 7, 8], [0, 1, 2, 3, 4, 5, 6, 7, 8, 9], [0, 1, 2, 3, 4, 5, 6, 7, 8, 9, 10], [0, 1, 2, 3, 4, 5, 6, 7, 8, 9, 10, 11]], [0, 0, 0, 0, 0, 0, 0, 0, 0, 1, 1, 1, 1], [9, 12], [[0], [0], [26], [27], [28], [5], [30], [31], [32], [29, 33], [25], [35], [36, 34]], Ob.intro (by kernel_rfl) ?_⟩
      repeat refine same ?_
      refine Ob.intro rfl ?_
      refine optK_intro (rdN_all (cs := R.map u8n) rfl (by rw [List.length_map, Nat.mul_one])) ?_
      refine Ob.intro (show (R.length + 1) * 1 ≤ 140737488355328 ∧ R.length + 1 ≤ 9223372036854775807 by omega) ?_
      repeat refine same ?_
      have e1 : AObj.row [.slc 4 0 (R.length + 1) 1] = .row [.slc 4 0 (R ++ [n]).length 1] := by rw [List.length_append]; rfl
      have e2 : AObj.row (R.map u8n ++ [.sc (.int .u8 (wrp .u8 (n : Int)))]) = .row ((R ++ [n]).map u8n) := by rw [hw, List.map_append]; rfl
      exact ⟨rfl, PH 4 (R ++ [n]), .tup [], ⟨⟨_, rfl, rfl⟩, ⟨.inl e1.symm, .inl rfl, .inr rfl, .inr rfl, .inl e2.symm, True.intro⟩, (show 2 ≤ 5 by decide), belowH_PH4 _⟩, rfl, .inr (.inl rfl)⟩
    · rw [if_neg (fun h => hn h.2)]
      refine acalls_of_awp hT mixed Try.func78 rfl (by kernel_rfl) (by kernel_rfl) (Nat.le_of_ble_eq_true rfl) ?_
      refine fork (fun g => ?_) (fun g => ?_)
      rotate_left
      · exfalso
        have : (k.length : Int) ≠ 0 := beq_eq_false_iff_ne.1 g
        omega
      refine callP (check_yes 1) rfl rfl ?_
      refine callP he rfl rfl ?_
      refine forkD (fun g => absurd (show n ≤ 255 by have : (n : Int) ≤ 255 := g; omega) hn) (fun g => ?_)
      refine callBad (check_no 1) rfl ?_
      exact ⟨rfl, [.dead, .dead], ⟨.inr rfl, .inr rfl, True.intro⟩, Nat.le_refl 2, rfl, rfl, rfl⟩
theorem renH_PH3 (r : Nat → Nat) (R : List Nat) : renH r (PH 3 R) = [.row [.slc (r 3) 0 R.length 1], .dead, .dead, .row (R.map u8n)] := by
  simp only [PH, renH, renO_u8, List.replicate, List.cons_append, List.nil_append]
  rfl
theorem renH_PH4 (r : Nat → Nat) (R : List Nat) : renH r (PH 4 R) = [.row [.slc (r 4) 0 R.length 1], .dead, .dead, .dead, .row (R.map u8n)] := by
  simp only [PH, renH, renO_u8, List.replicate, List.cons_append, List.nil_append]
  rfl
theorem renH_PH5 (r : Nat → Nat) (R : List Nat) : renH r (PH 5 R) = [.row [.slc (r 5) 0 R.length 1], .dead, .dead, .dead, .dead, .row (R.map u8n)] := by
  simp only [PH, renH, renO_u8, List.replicate, List.cons_append, List.nil_append]
  rfl
theorem renH_PH6 (r : Nat → Nat) (R : List Nat) : renH r (PH 6 R) = [.row [.slc (r 6) 0 R.length 1], .dead, .dead, .dead, .dead, .dead, .row (R.map u8n)] := by
  simp only [PH, renH, renO_u8, List.replicate, List.cons_append, List.nil_append]
  rfl
theorem one_n (n : Nat) (s : ByteArray) (l : List Nat) (k : List It) (R : List Nat) (hk : k.length = 0) (hR : R.length ≤ 1000000) (hn : n < 18446744073709551616) : ACalls Try.prog 78 [.ptr 0 0, u8n 110, itA (.mk n s l k)] (PH 1 R) (OneR (oneP 110 (.mk n s l k)) R) := by
  have he := empty_ok n s l k true false false
  have ho : oneP 110 (.mk n s l k) = if emB n s l true false false = true then some (numN n) else none := by rw [oneP_mk, if_pos hk]; rfl
  rw [ho]
  generalize emB n s l true false false = q at *
  cases q with
  | false =>
    rw [if_neg (fun h => by cases h)]
    refine acalls_of_awp hT mixed Try.func78 rfl (by kernel_rfl) (by kernel_rfl) (Nat.le_of_ble_eq_true rfl) ?_
    refine fork (fun g => ?_) (fun g => ?_)
    rotate_left
    · exfalso
      have : (k.length : Int) ≠ 0 := beq_eq_false_iff_ne.1 g
      omega
    refine callP (check_yes 1) rfl rfl ?_
    refine callP he rfl rfl ?_
    refine callBad (check_no 1) rfl ?_
    exact ⟨rfl, [.dead, .dead], ⟨.inr rfl, .inr rfl, True.intro⟩, Nat.le_refl 2, rfl, rfl, rfl⟩
  | true =>
    rw [if_pos rfl]
    refine acalls_of_awp hT mixed Try.func78 rfl (by kernel_rfl) (by kernel_rfl) (Nat.le_of_ble_eq_true rfl) ?_
    refine fork (fun g => ?_) (fun g => ?_)
    rotate_left
    · exfalso
      have : (k.length : Int) ≠ 0 := beq_eq_false_iff_ne.1 g
      omega
    refine callP (check_yes 1) rfl rfl ?_
    refine callP he rfl rfl ?_
    refine callP (check_yes 1) rfl rfl ?_
    refine callS (number_ok n R hn hR) [0, 1] ⟨.inl rfl, .inl (by rw [renO_u8]; rfl), True.intro⟩ rfl ?_
    rintro E G ⟨rfl, rfl | rfl⟩ _
    · refine ⟨_, [.row [.slc 4 0 (R ++ numN n).length 1], .dead, .row (itC (.mk n s l k)), .dead, .row ((R ++ numN n).map u8n)], rfl, by rw [renH_PH3]; rfl, ?_⟩
      exact ⟨rfl, PH 4 (R ++ numN n), .tup [], ⟨⟨_, rfl, rfl⟩, ⟨.inl rfl, .inl rfl, .inr rfl, .inl rfl, .inl rfl, True.intro⟩, (show 2 ≤ 5 by decide), belowH_PH4 _⟩, rfl, .inr (.inl rfl)⟩
    · refine ⟨_, [.row [.slc 5 0 (R ++ numN n).length 1], .dead, .row (itC (.mk n s l k)), .dead, .dead, .row ((R ++ numN n).map u8n)], rfl, by rw [renH_PH4]; rfl, ?_⟩
      exact ⟨rfl, PH 5 (R ++ numN n), .tup [], ⟨⟨_, rfl, rfl⟩, ⟨.inl rfl, .inl rfl, .inr rfl, .inl rfl, .inl rfl, .inl rfl, True.intro⟩, (show 2 ≤ 6 by decide), belowH_PH5 _⟩, rfl, .inr (.inr (.inl rfl))⟩
theorem allC_bytes (s : ByteArray) : allC (bytesA s) = true := by rw [bytesA_u8]; exact allC_u8 _
theorem one_t (n : Nat) (s : ByteArray) (l : List Nat) (k : List It) (R : List Nat) (hk : k.length = 0) (hR : R.length ≤ 1000000) : ACalls Try.prog 78 [.ptr 0 0, u8n 116, itA (.mk n s l k)] (PH 1 R) (OneR (oneP 116 (.mk n s l k)) R) := by
  have he := empty_ok n s l k false true false
  have ho : oneP 116 (.mk n s l k) = if emB n s l false true false = true ∧ s.size ≤ 200 then some (numN s.size ++ byL s) else none := by rw [oneP_mk, if_pos hk]; rfl
  rw [ho]
  generalize emB n s l false true false = q at *
  cases q with
  | false =>
    rw [if_neg (fun h => by cases h.1)]
    refine acalls_of_awp hT mixed Try.func78 rfl (by kernel_rfl) (by kernel_rfl) (Nat.le_of_ble_eq_true rfl) ?_
    refine fork (fun g => ?_) (fun g => ?_)
    rotate_left
    · exfalso
      have : (k.length : Int) ≠ 0 := beq_eq_false_iff_ne.1 g
      omega
    refine callP (check_yes 1) rfl rfl ?_
    refine callP he rfl rfl ?_
    refine callBad (check_no 1) rfl ?_
    exact ⟨rfl, [.dead, .dead], ⟨.inr rfl, .inr rfl, True.intro⟩, Nat.le_refl 2, rfl, rfl, rfl⟩
  | true =>
    by_cases h2 : s.size ≤ 200
    · rw [if_pos ⟨rfl, h2⟩]
      have hw : wrp .u64 (s.size : Int) = ((s.size : Nat) : Int) := by rw [wrpE, wu64]; omega
      have hc := number_ok s.size R (by omega) hR
      have hlen := numN_len10 (show s.size < 18446744073709551616 by omega)
      have harg : u64n s.size = u64 (wrp .u64 (s.size : Int)) := by rw [hw]; rfl
      rw [harg] at hc
      have hl2 : (R ++ numN s.size).length ≤ 1000010 := by rw [List.length_append]; omega
      have e2 : AObj.row ((R ++ numN s.size).map u8n ++ bytesA s) = .row ((R ++ (numN s.size ++ byL s)).map u8n) := by rw [bytesA_u8, ← List.map_append, List.append_assoc]
      have e3 : ∀ i, AObj.row [.slc i 0 ((R ++ numN s.size).length + s.size) 1] = .row [.slc i 0 (R ++ (numN s.size ++ byL s)).length 1] := fun i => by rw [← List.append_assoc, List.length_append (bs := byL s), byL_len]
      refine acalls_of_awp hT mixed Try.func78 rfl (by kernel_rfl) (by kernel_rfl) (Nat.le_of_ble_eq_true rfl) ?_
      refine fork (fun g => ?_) (fun g => ?_)
      rotate_left
      · exfalso
        have : (k.length : Int) ≠ 0 := beq_eq_false_iff_ne.1 g
        omega
      refine callP (check_yes 1) rfl rfl ?_
      refine callP he rfl rfl ?_
      refine forkD (fun g => ?_) (fun g => absurd (show (s.size : Int) ≤ 200 by omega) g)
      refine callP (check_yes 1) rfl rfl ?_
      refine callS hc [0, 1] ⟨.inl rfl, .inl (by rw [renO_u8]; rfl), True.intro⟩ rfl ?_
      rintro E G ⟨rfl, rfl | rfl⟩ _
      · refine ⟨_, [.row [.slc 4 0 (R ++ numN s.size).length 1], .dead, .row (itC (.mk n s l k)), .dead, .row ((R ++ numN s.size).map u8n)], rfl, by rw [renH_PH3]; rfl, ?_⟩
        refine ⟨[0, 0, 0, 0, 0, 0, 0, 1, 1, 1, 2], [[], [], [1], [1, 2], [1, 2, 3], [], [5], [1, 2, 3, 4, 5, 6], [0, 1, 2, 3, 4, 5, 6, 7], [0, 1, 2, 3, 4, 5, 6, 7, 8], [0, 1, 2, 3, 4, 5, 6, 7, 8, 9]], [0, 0, 0, 0, 0, 0, 0, 0, 0, 0, 0], [7, 10], [[0], [0], [64], [65], [66], [5], [68], [67, 69], [63], [71], [72, 70]], Ob.intro (by kernel_rfl) ?_⟩
        repeat refine same ?_
        refine Ob.intro (allC_bytes s) ?_
        refine optK_intro (rdN_all (cs := (R ++ numN s.size).map u8n) rfl (by rw [List.length_map, Nat.mul_one])) ?_
        refine Ob.intro (show ((R ++ numN s.size).length + s.size) * 1 ≤ 140737488355328 ∧ (R ++ numN s.size).length + s.size ≤ 9223372036854775807 by omega) ?_
        repeat refine same ?_
        exact ⟨rfl, PH 5 (R ++ (numN s.size ++ byL s)), .tup [], ⟨⟨_, rfl, rfl⟩, ⟨.inl (e3 5).symm, .inl rfl, .inr rfl, .inl rfl, .inl rfl, .inl e2.symm, True.intro⟩, (show 2 ≤ 6 by decide), belowH_PH5 _⟩, rfl, .inr (.inr (.inl rfl))⟩
      · refine ⟨_, [.row [.slc 5 0 (R ++ numN s.size).length 1], .dead, .row (itC (.mk n s l k)), .dead, .dead, .row ((R ++ numN s.size).map u8n)], rfl, by rw [renH_PH4]; rfl, ?_⟩
        refine ⟨[0, 0, 0, 0, 0, 0, 0, 1, 1, 1, 2], [[], [], [1], [1, 2], [1, 2, 3], [], [5], [1, 2, 3, 4, 5, 6], [0, 1, 2, 3, 4, 5, 6, 7], [0, 1, 2, 3, 4, 5, 6, 7, 8], [0, 1, 2, 3, 4, 5, 6, 7, 8, 9]], [0, 0, 0, 0, 0, 0, 0, 0, 0, 0, 0], [7, 10], [[0], [0], [64], [65], [66], [5], [68], [67, 69], [63], [71], [72, 70]], Ob.intro (by kernel_rfl) ?_⟩
        repeat refine same ?_
        refine Ob.intro (allC_bytes s) ?_
        refine optK_intro (rdN_all (cs := (R ++ numN s.size).map u8n) rfl (by rw [List.length_map, Nat.mul_one])) ?_
        refine Ob.intro (show ((R ++ numN s.size).length + s.size) * 1 ≤ 140737488355328 ∧ (R ++ numN s.size).length + s.size ≤ 9223372036854775807 by omega) ?_
        repeat refine same ?_
        exact ⟨rfl, PH 6 (R ++ (numN s.size ++ byL s)), .tup [], ⟨⟨_, rfl, rfl⟩, ⟨.inl (e3 6).symm, .inl rfl, .inr rfl, .inl rfl, .inl rfl, .inl rfl, .inl e2.symm, True.intro⟩, (show 2 ≤ 7 by decide), belowH_PH6 _⟩, rfl, .inr (.inr (.inr rfl))⟩
    · rw [if_neg (fun h => h2 h.2)]
      refine acalls_of_awp hT mixed Try.func78 rfl (by kernel_rfl) (by kernel_rfl) (Nat.le_of_ble_eq_true rfl) ?_
      refine fork (fun g => ?_) (fun g => ?_)
      rotate_left
      · exfalso
        have : (k.length : Int) ≠ 0 := beq_eq_false_iff_ne.1 g
        omega
      refine callP (check_yes 1) rfl rfl ?_
      refine callP he rfl rfl ?_
      refine forkD (fun g => absurd (show s.size ≤ 200 by have : (s.size : Int) ≤ 200 := g; omega) h2) (fun g => ?_)
      refine callBad (check_no 1) rfl ?_
      exact ⟨rfl, [.dead, .dead], ⟨.inr rfl, .inr rfl, True.intro⟩, Nat.le_refl 2, rfl, rfl, rfl⟩
theorem one_f (n : Nat) (s : ByteArray) (l : List Nat) (k : List It) (R : List Nat) (hk : k.length = 0) (hR : R.length ≤ 1000000) (hn : n < 18446744073709551616) : ACalls Try.prog 78 [.ptr 0 0, u8n 102, itA (.mk n s l k)] (PH 1 R) (OneR (oneP 102 (.mk n s l k)) R) := by
  have he := empty_ok n s l k true false false
  have ho : oneP 102 (.mk n s l k) = if emB n s l true false false = true ∧ bitsB n = n then some (keyN n) else none := by rw [oneP_mk, if_pos hk]; rfl
  rw [ho]
  have hF := from_ok n
  have hB := bits_ok (bitsB n)
  rw [bitsB_bitsB] at hB
  generalize emB n s l true false false = q at *
  cases q with
  | false =>
    rw [if_neg (fun h => by cases h.1)]
    refine acalls_of_awp hT mixed Try.func78 rfl (by kernel_rfl) (by kernel_rfl) (Nat.le_of_ble_eq_true rfl) ?_
    refine fork (fun g => ?_) (fun g => ?_)
    rotate_left
    · exfalso
      have : (k.length : Int) ≠ 0 := beq_eq_false_iff_ne.1 g
      omega
    refine callP (check_yes 1) rfl rfl ?_
    refine callP hF rfl rfl ?_
    refine ⟨[0, 1, 1, 1, 2, 1, 1, 2, 2, 3], [[], [0], [0, 1], [0, 1, 2], [0, 1, 2, 3], [0, 1, 2], [0, 1, 2, 5], [0, 1, 2, 3, 4, 5, 6], [0, 1, 2, 3, 4, 5, 6, 7], [0, 1, 2, 3, 4, 5, 6, 7, 8]], [0, 0, 0, 0, 0, 0, 0, 0, 0, 0], [1, 4, 9], [[5], [78], [79], [6, 80], [81, 80], [5, 80], [83, 80], [82, 84, 80], [80, 85], [86]], Ob.intro (by kernel_rfl) ?_⟩
    repeat refine same ?_
    refine callP he rfl rfl ?_
    repeat refine same ?_
    refine callBad (check_no 1) rfl ?_
    exact ⟨rfl, [.dead, .dead], ⟨.inr rfl, .inr rfl, True.intro⟩, Nat.le_refl 2, rfl, rfl, rfl⟩
  | true =>
    by_cases h2 : bitsB n = n
    · rw [if_pos ⟨rfl, h2⟩]
      have hK := key_ok n hn
      rw [h2] at hB hF
      have hkl : (keyL (placeB n)).length = 8 := rfl
      have hbk : byL ⟨(keyL (placeB n)).toArray⟩ = keyN n := by unfold byL keyN; simp
      have hks : (⟨(keyL (placeB n)).toArray⟩ : ByteArray).size = 8 := rfl
      have hkn : (keyN n).length = 8 := by unfold keyN; rw [List.length_map, hkl]
      generalize (⟨(keyL (placeB n)).toArray⟩ : ByteArray) = ks at *
      have e2 : AObj.row (R.map u8n ++ bytesA ks) = .row ((R ++ keyN n).map u8n) := by rw [bytesA_u8, hbk, ← List.map_append]
      have e3 : AObj.row [.slc 3 0 (R.length + ks.size) 1] = .row [.slc 3 0 (R ++ keyN n).length 1] := by rw [List.length_append, hks, hkn]
      refine acalls_of_awp hT mixed Try.func78 rfl (by kernel_rfl) (by kernel_rfl) (Nat.le_of_ble_eq_true rfl) ?_
      refine fork (fun g => ?_) (fun g => ?_)
      rotate_left
      · exfalso
        have : (k.length : Int) ≠ 0 := beq_eq_false_iff_ne.1 g
        omega
      refine callP (check_yes 1) rfl rfl ?_
      refine callP hF rfl rfl ?_
      refine ⟨[0, 1, 1, 1, 2, 1, 1, 2, 2, 3], [[], [0], [0, 1], [0, 1, 2], [0, 1, 2, 3], [0, 1, 2], [0, 1, 2, 5], [0, 1, 2, 3, 4, 5, 6], [0, 1, 2, 3, 4, 5, 6, 7], [0, 1, 2, 3, 4, 5, 6, 7, 8]], [0, 0, 0, 0, 0, 0, 0, 0, 0, 0], [1, 4, 9], [[5], [78], [79], [6, 80], [81, 80], [5, 80], [83, 80], [82, 84, 80], [80, 85], [86]], Ob.intro (by kernel_rfl) ?_⟩
      repeat refine same ?_
      refine callP he rfl rfl ?_
      repeat refine same ?_
      refine callP hB rfl rfl ?_
      refine fork (fun g => ?_) (fun g => absurd rfl (beq_eq_false_iff_ne.1 g))
      repeat refine same ?_
      refine callP (check_yes 1) rfl rfl ?_
      repeat refine same ?_
      refine ⟨[0, 0, 0, 0, 0, 0, 1, 2, 2, 2, 3], [[], [], [1], [1, 2], [1, 2, 3], [], [5], [1, 2, 3, 4, 5, 6], [0, 1, 2, 3, 4, 5, 6, 7], [0, 1, 2, 3, 4, 5, 6, 7, 8], [0, 1, 2, 3, 4, 5, 6, 7, 8, 9]], [0, 0, 0, 0, 0, 0, 0, 0, 0, 0, 0], [6, 7, 10], [[0], [0], [89], [90], [91], [6], [93], [92, 94], [88], [96], [97, 95]], Ob.intro (by kernel_rfl) ?_⟩
      repeat refine same ?_
      refine callP hK rfl rfl ?_
      repeat refine same ?_
      refine Ob.intro (allC_bytes ks) ?_
      refine optK_intro (rdN_all (cs := R.map u8n) rfl (by rw [List.length_map, Nat.mul_one])) ?_
      refine Ob.intro (show (R.length + ks.size) * 1 ≤ 140737488355328 ∧ R.length + ks.size ≤ 9223372036854775807 by omega) ?_
      repeat refine same ?_
      exact ⟨rfl, PH 3 (R ++ keyN n), .tup [], ⟨⟨_, rfl, rfl⟩, ⟨.inl e3.symm, .inl rfl, .inr rfl, .inl e2.symm, True.intro⟩, (show 2 ≤ 4 by decide), belowH_PH3 _⟩, rfl, .inl rfl⟩
    · rw [if_neg (fun h => h2 h.2)]
      refine acalls_of_awp hT mixed Try.func78 rfl (by kernel_rfl) (by kernel_rfl) (Nat.le_of_ble_eq_true rfl) ?_
      refine fork (fun g => ?_) (fun g => ?_)
      rotate_left
      · exfalso
        have : (k.length : Int) ≠ 0 := beq_eq_false_iff_ne.1 g
        omega
      refine callP (check_yes 1) rfl rfl ?_
      refine callP hF rfl rfl ?_
      refine ⟨[0, 1, 1, 1, 2, 1, 1, 2, 2, 3], [[], [0], [0, 1], [0, 1, 2], [0, 1, 2, 3], [0, 1, 2], [0, 1, 2, 5], [0, 1, 2, 3, 4, 5, 6], [0, 1, 2, 3, 4, 5, 6, 7], [0, 1, 2, 3, 4, 5, 6, 7, 8]], [0, 0, 0, 0, 0, 0, 0, 0, 0, 0], [1, 4, 9], [[5], [78], [79], [6, 80], [81, 80], [5, 80], [83, 80], [82, 84, 80], [80, 85], [86]], Ob.intro (by kernel_rfl) ?_⟩
      repeat refine same ?_
      refine callP he rfl rfl ?_
      repeat refine same ?_
      refine callP hB rfl rfl ?_
      refine fork (fun g => ?_) (fun g => ?_)
      · exfalso
        have : ((bitsB n : Nat) : Int) = (n : Nat) := beq_iff_eq.1 g
        omega
      repeat refine same ?_
      refine callBad (check_no 1) rfl ?_
      exact ⟨rfl, [.dead, .dead], ⟨.inr rfl, .inr rfl, True.intro⟩, Nat.le_refl 2, rfl, rfl, rfl⟩
theorem one_l (n : Nat) (s : ByteArray) (l : List Nat) (k : List It) (R : List Nat) (hk : k.length = 0) (hR : R.length ≤ 1000000) (hl : l.length < 9223372036854775807) : ACalls Try.prog 78 [.ptr 0 0, u8n 108, itA (.mk n s l k)] (PH 1 R) (OneR (oneP 108 (.mk n s l k)) R) := by
  have he := empty_ok n s l k false false true
  have hP := lpack_ok l hl
  have ho : oneP 108 (.mk n s l k) = if emB n s l false false true = true ∧ rightB l = true then some (packN l) else none := by rw [oneP_mk, if_pos hk]; rfl
  rw [ho]
  generalize emB n s l false false true = q at *
  cases hr : rightB l with
  | false =>
    have hp : packP l = (emp, 1) := by unfold packP; rw [hr]; rfl
    rw [hp] at hP
    rw [if_neg (fun h => by cases h.2)]
    cases q <;>
    · refine acalls_of_awp hT mixed Try.func78 rfl (by kernel_rfl) (by kernel_rfl) (Nat.le_of_ble_eq_true rfl) ?_
      refine fork (fun g => ?_) (fun g => ?_)
      rotate_left
      · exfalso
        have : (k.length : Int) ≠ 0 := beq_eq_false_iff_ne.1 g
        omega
      refine callP (check_yes 1) rfl rfl ?_
      refine callP hP rfl rfl ?_
      refine callP he rfl rfl ?_
      refine callBad (check_no 1) rfl ?_
      exact ⟨rfl, [.dead, .dead], ⟨.inr rfl, .inr rfl, True.intro⟩, Nat.le_refl 2, rfl, rfl, rfl⟩
  | true =>
    have hp : packP l = (packB l, 0) := by unfold packP; rw [if_pos hr]
    rw [hp] at hP
    cases q with
    | false =>
      rw [if_neg (fun h => by cases h.1)]
      refine acalls_of_awp hT mixed Try.func78 rfl (by kernel_rfl) (by kernel_rfl) (Nat.le_of_ble_eq_true rfl) ?_
      refine fork (fun g => ?_) (fun g => ?_)
      rotate_left
      · exfalso
        have : (k.length : Int) ≠ 0 := beq_eq_false_iff_ne.1 g
        omega
      refine callP (check_yes 1) rfl rfl ?_
      refine callP hP rfl rfl ?_
      refine callP he rfl rfl ?_
      refine callBad (check_no 1) rfl ?_
      exact ⟨rfl, [.dead, .dead], ⟨.inr rfl, .inr rfl, True.intro⟩, Nat.le_refl 2, rfl, rfl, rfl⟩
    | true =>
      rw [if_pos ⟨rfl, rfl⟩]
      have hbk : byL (packB l) = packN l := by unfold packB; exact byL_BA (packN_lt (by have := rightB_len hr; omega))
      have hks : (packB l).size = (packN l).length := by unfold packB; exact BA_size _
      have hkn : (packN l).length ≤ 100 := by rw [← hks, packB_size]; have := rightB_len hr; omega
      generalize packB l = ks at *
      have e2 : AObj.row (R.map u8n ++ bytesA ks) = .row ((R ++ packN l).map u8n) := by rw [bytesA_u8, hbk, ← List.map_append]
      have e3 : AObj.row [.slc 3 0 (R.length + ks.size) 1] = .row [.slc 3 0 (R ++ packN l).length 1] := by rw [List.length_append, hks]
      refine acalls_of_awp hT mixed Try.func78 rfl (by kernel_rfl) (by kernel_rfl) (Nat.le_of_ble_eq_true rfl) ?_
      refine fork (fun g => ?_) (fun g => ?_)
      rotate_left
      · exfalso
        have : (k.length : Int) ≠ 0 := beq_eq_false_iff_ne.1 g
        omega
      refine callP (check_yes 1) rfl rfl ?_
      refine callP hP rfl rfl ?_
      refine callP he rfl rfl ?_
      refine callP (check_yes 1) rfl rfl ?_
      refine Ob.intro (allC_bytes ks) ?_
      refine optK_intro (rdN_all (cs := R.map u8n) rfl (by rw [List.length_map, Nat.mul_one])) ?_
      refine Ob.intro (show (R.length + ks.size) * 1 ≤ 140737488355328 ∧ R.length + ks.size ≤ 9223372036854775807 by omega) ?_
      exact ⟨rfl, PH 3 (R ++ packN l), .tup [], ⟨⟨_, rfl, rfl⟩, ⟨.inl e3.symm, .inl rfl, .inr rfl, .inl e2.symm, True.intro⟩, (show 2 ≤ 4 by decide), belowH_PH3 _⟩, rfl, .inl rfl⟩
theorem isL_5 {c : Nat} (h : isL c = true) : c = 98 ∨ c = 110 ∨ c = 116 ∨ c = 102 ∨ c = 108 := by
  unfold isL at h
  simp only [Bool.or_eq_true, beq_iff_eq] at h
  omega
theorem one_ok (c n : Nat) (s : ByteArray) (l : List Nat) (k : List It) (R : List Nat) (hc : isL c = true) (hR : R.length ≤ 1000000) (hn : n < 18446744073709551616) (hl : l.length < 9223372036854775807) : ACalls Try.prog 78 [.ptr 0 0, u8n c, itA (.mk n s l k)] (PH 1 R) (OneR (oneP c (.mk n s l k)) R) := by
  by_cases hk : k.length = 0
  · rcases isL_5 hc with rfl | rfl | rfl | rfl | rfl
    · exact one_b n s l k R hk hR
    · exact one_n n s l k R hk hR hn
    · exact one_t n s l k R hk hR
    · exact one_f n s l k R hk hR hn
    · exact one_l n s l k R hk hR hl
  · exact one_kids c n s l k R hk
end Go.Proofs.Ytgchhmfobkcnfaa.A

namespace Go.Proofs.Ytgchhmfobkcnfaa.A
open Go
set_option linter.unusedVariables false
set_option maxRecDepth 100000
set_option pp.maxSteps 1500

def cat2 : Option (List Nat) → Option (List Nat) → Option (List Nat)
  | some a, some b => some (a ++ b)
  | _, _ => none
theorem cat2_assoc (a b c : Option (List Nat)) : cat2 (cat2 a b) c = cat2 a (cat2 b c) := by
  cases a <;> cases b <;> cases c <;> simp [cat2]
theorem cat2_nil (a : Option (List Nat)) : cat2 a (some []) = a := by cases a <;> simp [cat2]
theorem cat2_nil' (a : Option (List Nat)) : cat2 (some []) a = a := by cases a <;> simp [cat2]
theorem cat2_none (a : Option (List Nat)) : cat2 a none = none := by cases a <;> rfl
def catP (c : Nat) : List It → Option (List Nat)
  | [] => some []
  | x :: r => cat2 (oneP c x) (catP c r)
theorem catP_append (c : Nat) : ∀ a b : List It, catP c (a ++ b) = cat2 (catP c a) (catP c b)
  | [], b => (cat2_nil' _).symm
  | x :: a, b => by rw [List.cons_append, catP, catP_append c a b, catP, cat2_assoc]
theorem catP_snoc (c : Nat) (l : List It) (x : It) : catP c (l ++ [x]) = cat2 (catP c l) (oneP c x) := by
  rw [catP_append]
  show cat2 _ (cat2 (oneP c x) (some [])) = _
  rw [cat2_nil]
theorem catP_bad {c : Nat} {k : List It} {j : Nat} {x : It} (hx : k[j]? = some x) (h : oneP c x = none) : catP c k = none := by
  obtain ⟨h1, rfl⟩ := List.getElem?_eq_some_iff.1 hx
  have : k = k.take j ++ (k[j] :: k.drop (j + 1)) := by rw [← List.drop_eq_getElem_cons h1, List.take_append_drop]
  rw [this, catP_append, catP, h]
  show cat2 _ none = none
  exact cat2_none _
def listP (c : Nat) : It → Option (List Nat)
  | .mk n s l k => if emB n s l false false false = true ∧ k.length ≤ 64 then cat2 (some (numN k.length)) (catP c k) else none
theorem listP_mk (c n : Nat) (s : ByteArray) (l : List Nat) (k : List It) : listP c (.mk n s l k) = if emB n s l false false false = true ∧ k.length ≤ 64 then cat2 (some (numN k.length)) (catP c k) else none := rfl
/-- Items that are not too great. -/
inductive WI : It → Prop where
  | mk (n : Nat) (s : ByteArray) (l : List Nat) (k : List It) : n < 18446744073709551616 → l.length ≤ 200 → (∀ y ∈ l, y < 18446744073709551616) → s.size ≤ 1000000 → k.length ≤ 1000 → (∀ x ∈ k, WI x) → WI (.mk n s l k)
theorem packN_len {l : List Nat} : (packN l).length = 1 + 8 * l.length := by
  have := pkN_len l l.length (Nat.le_refl _)
  unfold pkN at this
  rw [List.take_length] at this
  exact this
theorem oneP_len {c : Nat} {x : It} {b : List Nat} (hw : WI x) (h : oneP c x = some b) : b.length ≤ 210 := by
  cases hw with
  | mk n s l k hn hl hy hs hk hx =>
    rw [oneP_mk] at h
    split at h
    · split at h
      · split at h
        · cases h; show 1 ≤ 210; omega
        · cases h
      · split at h
        · split at h
          · cases h
            have := numN_len10 hn
            omega
          · cases h
        · split at h
          · split at h
            · rename_i h2
              cases h
              have := numN_len10 (show s.size < 18446744073709551616 by omega)
              rw [List.length_append, byL_len]
              omega
            · cases h
          · split at h
            · split at h
              · cases h
                show (keyN n).length ≤ 210
                unfold keyN
                rw [List.length_map]
                show 8 ≤ 210
                decide
              · cases h
            · split at h
              · rename_i h2
                cases h
                rw [packN_len]
                have := rightB_len h2.2
                omega
              · cases h
    · cases h
def LstR (o : Option (List Nat)) (R : List Nat) : AEnd → Heap → Prop := fun E G =>
  match o with
  | some b => E = .ret (.tup []) ∧ G = PH 2 (R ++ b)
  | none => E = .pan (fltV 1) ∧ G = [.dead, .dead]
theorem belowH_PH2 (R : List Nat) : belowH 3 (PH 2 R) = true := by
  simp only [PH, belowH, belowO, belowL_u8, List.replicate, List.cons_append, List.nil_append]
  rfl
theorem renH_PH2 (r : Nat → Nat) (R : List Nat) : renH r (PH 2 R) = [.row [.slc (r 2) 0 R.length 1], .dead, .row (R.map u8n)] := by
  simp only [PH, renH, renO_u8, List.replicate, List.cons_append, List.nil_append]
  rfl
structure LiSt (c : Nat) (k : List It) (R0 : List Nat) where
  j : Nat
  b : List Nat
  hj : j ≤ k.length
  hb : catP c (k.take j) = some b
  hl : b.length ≤ 210 * j
theorem list_ok (c n : Nat) (s : ByteArray) (l : List Nat) (k : List It) (R : List Nat) (hc : isL c = true) (hR : R.length ≤ 900000) (hk : ∀ x ∈ k, WI x) (hkl : k.length ≤ 1000) :
    ACalls Try.prog 77 [.ptr 0 0, u8n c, itA (.mk n s l k)] (PH 1 R) (LstR (listP c (.mk n s l k)) R) := by
  have he := empty_ok n s l k false false false
  rw [listP_mk]
  generalize emB n s l false false false = q at *
  cases q with
  | false =>
    rw [if_neg (fun h => by cases h.1)]
    refine acalls_of_awp hT mixed Try.func77 rfl (by kernel_rfl) (by kernel_rfl) (Nat.le_of_ble_eq_true rfl) ?_
    refine callP he rfl rfl ?_
    refine callBad (check_no 1) rfl ?_
    exact ⟨rfl, [.dead, .dead], ⟨.inr rfl, .inr rfl, True.intro⟩, Nat.le_refl 2, rfl, rfl, rfl⟩
  | true =>
    by_cases h64 : k.length ≤ 64
    · rw [if_pos ⟨rfl, h64⟩]
      have hw : wrp .u64 (k.length : Int) = ((k.length : Nat) : Int) := by rw [wrpE, wu64]; omega
      have hnum := number_ok k.length R (by omega) (by omega)
      have hnl := numN_len10 (show k.length < 18446744073709551616 by omega)
      have harg : u64n k.length = u64 (wrp .u64 (k.length : Int)) := by rw [hw]; rfl
      rw [harg] at hnum
      refine acalls_of_awp hT mixed Try.func77 rfl (by kernel_rfl) (by kernel_rfl) (Nat.le_of_ble_eq_true rfl) ?_
      refine callP he rfl rfl ?_
      refine forkD (fun g => ?_) (fun g => absurd (show (k.length : Int) ≤ 64 by omega) g)
      refine callP (check_yes 1) rfl rfl ?_
      refine callS hnum [0, 1] ⟨.inl rfl, .inl (by rw [renO_u8]; rfl), True.intro⟩ rfl ?_
      rintro E G ⟨rfl, rfl | rfl⟩ _
      · refine ⟨_, [.row [.slc 4 0 (R ++ numN k.length).length 1], .dead, .row (itC (.mk n s l k)), .dead, .row ((R ++ numN k.length).map u8n)], rfl, by rw [renH_PH3]; rfl, ?_⟩
        refine loopI (α := LiSt c k R) (fun z => [(0, .ptr 0 0), (1, u8n c), (24, itsV k), (25, i64 k.length), (26, i64 (z.j : Nat))]) (fun z => [.row [.slc 2 0 (R ++ numN k.length ++ z.b).length 1], .dead, .row ((R ++ numN k.length ++ z.b).map u8n)]) (fun z => k.length - z.j) ⟨0, [], Nat.zero_le _, rfl, Nat.zero_le _⟩ [0, 1, 4]
          ⟨⟨rfl, rfl, congrArg (AV.view k.length) (itsC_flat k), rfl, rfl, True.intro⟩, ⟨.inl (by rw [List.append_nil]; rfl), .inl rfl, .inl (by show _ = some (renO _ (.row ((R ++ numN k.length ++ []).map u8n))); rw [renO_u8, List.append_nil]; rfl), True.intro⟩, rfl, rfl, rfl⟩ ?_
        rintro ⟨j, b, hj, hb, hbl⟩ K hK
        have hinc : wrp .i64 ((j : Int) + 1) = ((j + 1 : Nat) : Int) := by rw [wrpE, wi64]; omega
        refine forkD (fun h => ?_) (fun h => ?_)
        · have hjl : j < k.length := by have : (j : Int) < (k.length : Int) := h; omega
          obtain ⟨x, hx⟩ : ∃ x, k[j]? = some x := ⟨_, List.getElem?_eq_getElem hjl⟩
          have hcat : ∀ b2, oneP c x = some b2 → catP c (k.take (j + 1)) = some (b ++ b2) := fun b2 h2 => by rw [take_snocA hx, catP_snoc, hb, h2]; rfl
          have hwx := hk x (List.mem_of_getElem? hx)
          have hRl : (R ++ numN k.length ++ b).length ≤ 1000000 := by rw [List.length_append, List.length_append]; omega
          obtain ⟨n2, s2, l2, k2⟩ := x
          have hwx2 := hwx
          cases hwx2 with
          | mk _ _ _ _ w1 w2 w3 w4 w5 w6 =>
            have h1 := one_ok c n2 s2 l2 k2 (R ++ numN k.length ++ b) hc hRl w1 (by omega)
            refine Ob.intro (show (0 : Int) ≤ (j : Nat) ∧ ((j : Nat) : Int) < (k.length : Nat) by omega) ?_
            refine optK_intro (flat_takeN itC_len hx) ?_
            refine callS h1 [0, 2] ⟨.inl rfl, .inl (by rw [renO_u8]; rfl), True.intro⟩ rfl ?_
            intro E G hE _
            cases hb2 : oneP c (.mk n2 s2 l2 k2) with
            | none =>
              rw [hb2] at hE
              obtain ⟨rfl, rfl⟩ := hE
              have hno : cat2 (some (numN k.length)) (catP c k) = none := by rw [catP_bad hx hb2]; rfl
              rw [hno]
              refine ⟨_, [.dead, .dead, .dead, .row (itC (.mk n2 s2 l2 k2))], rfl, rfl, ?_⟩
              exact ⟨rfl, [.dead, .dead], ⟨.inl rfl, .inl rfl, True.intro⟩, Nat.le_refl 2, rfl, rfl, rfl⟩
            | some b2 =>
              rw [hb2] at hE
              obtain ⟨rfl, rfl | rfl | rfl | rfl⟩ := hE
              · refine ⟨_, [.row [.slc 5 0 (R ++ numN k.length ++ b ++ b2).length 1], .dead, .dead, .row (itC (.mk n2 s2 l2 k2)), .dead, .row ((R ++ numN k.length ++ b ++ b2).map u8n)], rfl, by rw [renH_PH3]; rfl, ?_⟩
                exact hK ⟨j + 1, b ++ b2, hjl, hcat b2 hb2, by rw [List.length_append]; have := oneP_len (hk _ (List.mem_of_getElem? hx)) hb2; omega⟩ [0, 1, 5] _ (show k.length - j = k.length - (j + 1) + 1 by omega) ⟨⟨rfl, rfl, rfl, rfl, congrArg i64 hinc, True.intro⟩, ⟨.inl (by show some (AObj.row _) = some (AObj.row _); rw [← List.append_assoc]; rfl), .inl rfl, .inl (by show _ = some (renO _ (.row ((R ++ numN k.length ++ (b ++ b2)).map u8n))); rw [renO_u8, ← List.append_assoc]; rfl), True.intro⟩, rfl, rfl, rfl⟩
              · refine ⟨_, [.row [.slc 6 0 (R ++ numN k.length ++ b ++ b2).length 1], .dead, .dead, .row (itC (.mk n2 s2 l2 k2)), .dead, .dead, .row ((R ++ numN k.length ++ b ++ b2).map u8n)], rfl, by rw [renH_PH4]; rfl, ?_⟩
                exact hK ⟨j + 1, b ++ b2, hjl, hcat b2 hb2, by rw [List.length_append]; have := oneP_len (hk _ (List.mem_of_getElem? hx)) hb2; omega⟩ [0, 1, 6] _ (show k.length - j = k.length - (j + 1) + 1 by omega) ⟨⟨rfl, rfl, rfl, rfl, congrArg i64 hinc, True.intro⟩, ⟨.inl (by show some (AObj.row _) = some (AObj.row _); rw [← List.append_assoc]; rfl), .inl rfl, .inl (by show _ = some (renO _ (.row ((R ++ numN k.length ++ (b ++ b2)).map u8n))); rw [renO_u8, ← List.append_assoc]; rfl), True.intro⟩, rfl, rfl, rfl⟩
              · refine ⟨_, [.row [.slc 7 0 (R ++ numN k.length ++ b ++ b2).length 1], .dead, .dead, .row (itC (.mk n2 s2 l2 k2)), .dead, .dead, .dead, .row ((R ++ numN k.length ++ b ++ b2).map u8n)], rfl, by rw [renH_PH5]; rfl, ?_⟩
                exact hK ⟨j + 1, b ++ b2, hjl, hcat b2 hb2, by rw [List.length_append]; have := oneP_len (hk _ (List.mem_of_getElem? hx)) hb2; omega⟩ [0, 1, 7] _ (show k.length - j = k.length - (j + 1) + 1 by omega) ⟨⟨rfl, rfl, rfl, rfl, congrArg i64 hinc, True.intro⟩, ⟨.inl (by show some (AObj.row _) = some (AObj.row _); rw [← List.append_assoc]; rfl), .inl rfl, .inl (by show _ = some (renO _ (.row ((R ++ numN k.length ++ (b ++ b2)).map u8n))); rw [renO_u8, ← List.append_assoc]; rfl), True.intro⟩, rfl, rfl, rfl⟩
              · refine ⟨_, [.row [.slc 8 0 (R ++ numN k.length ++ b ++ b2).length 1], .dead, .dead, .row (itC (.mk n2 s2 l2 k2)), .dead, .dead, .dead, .dead, .row ((R ++ numN k.length ++ b ++ b2).map u8n)], rfl, by rw [renH_PH6]; rfl, ?_⟩
                exact hK ⟨j + 1, b ++ b2, hjl, hcat b2 hb2, by rw [List.length_append]; have := oneP_len (hk _ (List.mem_of_getElem? hx)) hb2; omega⟩ [0, 1, 8] _ (show k.length - j = k.length - (j + 1) + 1 by omega) ⟨⟨rfl, rfl, rfl, rfl, congrArg i64 hinc, True.intro⟩, ⟨.inl (by show some (AObj.row _) = some (AObj.row _); rw [← List.append_assoc]; rfl), .inl rfl, .inl (by show _ = some (renO _ (.row ((R ++ numN k.length ++ (b ++ b2)).map u8n))); rw [renO_u8, ← List.append_assoc]; rfl), True.intro⟩, rfl, rfl, rfl⟩
        · have hjl : j = k.length := by have : ¬ (j : Int) < (k.length : Int) := h; omega
          rw [hjl, List.take_length] at hb
          rw [hb]
          refine ⟨rfl, PH 2 (R ++ numN k.length ++ b), .tup [], ⟨⟨_, rfl, rfl⟩, ⟨.inl rfl, .inl rfl, .inl rfl, True.intro⟩, (show 2 ≤ 3 by decide), belowH_PH2 _⟩, rfl, ?_⟩
          show PH 2 (R ++ numN k.length ++ b) = PH 2 (R ++ (numN k.length ++ b))
          rw [List.append_assoc]
      · refine ⟨_, [.row [.slc 5 0 (R ++ numN k.length).length 1], .dead, .row (itC (.mk n s l k)), .dead, .dead, .row ((R ++ numN k.length).map u8n)], rfl, by rw [renH_PH4]; rfl, ?_⟩
        refine loopI (α := LiSt c k R) (fun z => [(0, .ptr 0 0), (1, u8n c), (24, itsV k), (25, i64 k.length), (26, i64 (z.j : Nat))]) (fun z => [.row [.slc 2 0 (R ++ numN k.length ++ z.b).length 1], .dead, .row ((R ++ numN k.length ++ z.b).map u8n)]) (fun z => k.length - z.j) ⟨0, [], Nat.zero_le _, rfl, Nat.zero_le _⟩ [0, 1, 5]
          ⟨⟨rfl, rfl, congrArg (AV.view k.length) (itsC_flat k), rfl, rfl, True.intro⟩, ⟨.inl (by rw [List.append_nil]; rfl), .inl rfl, .inl (by show _ = some (renO _ (.row ((R ++ numN k.length ++ []).map u8n))); rw [renO_u8, List.append_nil]; rfl), True.intro⟩, rfl, rfl, rfl⟩ ?_
        rintro ⟨j, b, hj, hb, hbl⟩ K hK
        have hinc : wrp .i64 ((j : Int) + 1) = ((j + 1 : Nat) : Int) := by rw [wrpE, wi64]; omega
        refine forkD (fun h => ?_) (fun h => ?_)
        · have hjl : j < k.length := by have : (j : Int) < (k.length : Int) := h; omega
          obtain ⟨x, hx⟩ : ∃ x, k[j]? = some x := ⟨_, List.getElem?_eq_getElem hjl⟩
          have hcat : ∀ b2, oneP c x = some b2 → catP c (k.take (j + 1)) = some (b ++ b2) := fun b2 h2 => by rw [take_snocA hx, catP_snoc, hb, h2]; rfl
          have hwx := hk x (List.mem_of_getElem? hx)
          have hRl : (R ++ numN k.length ++ b).length ≤ 1000000 := by rw [List.length_append, List.length_append]; omega
          obtain ⟨n2, s2, l2, k2⟩ := x
          have hwx2 := hwx
          cases hwx2 with
          | mk _ _ _ _ w1 w2 w3 w4 w5 w6 =>
            have h1 := one_ok c n2 s2 l2 k2 (R ++ numN k.length ++ b) hc hRl w1 (by omega)
            refine Ob.intro (show (0 : Int) ≤ (j : Nat) ∧ ((j : Nat) : Int) < (k.length : Nat) by omega) ?_
            refine optK_intro (flat_takeN itC_len hx) ?_
            refine callS h1 [0, 2] ⟨.inl rfl, .inl (by rw [renO_u8]; rfl), True.intro⟩ rfl ?_
            intro E G hE _
            cases hb2 : oneP c (.mk n2 s2 l2 k2) with
            | none =>
              rw [hb2] at hE
              obtain ⟨rfl, rfl⟩ := hE
              have hno : cat2 (some (numN k.length)) (catP c k) = none := by rw [catP_bad hx hb2]; rfl
              rw [hno]
              refine ⟨_, [.dead, .dead, .dead, .row (itC (.mk n2 s2 l2 k2))], rfl, rfl, ?_⟩
              exact ⟨rfl, [.dead, .dead], ⟨.inl rfl, .inl rfl, True.intro⟩, Nat.le_refl 2, rfl, rfl, rfl⟩
            | some b2 =>
              rw [hb2] at hE
              obtain ⟨rfl, rfl | rfl | rfl | rfl⟩ := hE
              · refine ⟨_, [.row [.slc 5 0 (R ++ numN k.length ++ b ++ b2).length 1], .dead, .dead, .row (itC (.mk n2 s2 l2 k2)), .dead, .row ((R ++ numN k.length ++ b ++ b2).map u8n)], rfl, by rw [renH_PH3]; rfl, ?_⟩
                exact hK ⟨j + 1, b ++ b2, hjl, hcat b2 hb2, by rw [List.length_append]; have := oneP_len (hk _ (List.mem_of_getElem? hx)) hb2; omega⟩ [0, 1, 5] _ (show k.length - j = k.length - (j + 1) + 1 by omega) ⟨⟨rfl, rfl, rfl, rfl, congrArg i64 hinc, True.intro⟩, ⟨.inl (by show some (AObj.row _) = some (AObj.row _); rw [← List.append_assoc]; rfl), .inl rfl, .inl (by show _ = some (renO _ (.row ((R ++ numN k.length ++ (b ++ b2)).map u8n))); rw [renO_u8, ← List.append_assoc]; rfl), True.intro⟩, rfl, rfl, rfl⟩
              · refine ⟨_, [.row [.slc 6 0 (R ++ numN k.length ++ b ++ b2).length 1], .dead, .dead, .row (itC (.mk n2 s2 l2 k2)), .dead, .dead, .row ((R ++ numN k.length ++ b ++ b2).map u8n)], rfl, by rw [renH_PH4]; rfl, ?_⟩
                exact hK ⟨j + 1, b ++ b2, hjl, hcat b2 hb2, by rw [List.length_append]; have := oneP_len (hk _ (List.mem_of_getElem? hx)) hb2; omega⟩ [0, 1, 6] _ (show k.length - j = k.length - (j + 1) + 1 by omega) ⟨⟨rfl, rfl, rfl, rfl, congrArg i64 hinc, True.intro⟩, ⟨.inl (by show some (AObj.row _) = some (AObj.row _); rw [← List.append_assoc]; rfl), .inl rfl, .inl (by show _ = some (renO _ (.row ((R ++ numN k.length ++ (b ++ b2)).map u8n))); rw [renO_u8, ← List.append_assoc]; rfl), True.intro⟩, rfl, rfl, rfl⟩
              · refine ⟨_, [.row [.slc 7 0 (R ++ numN k.length ++ b ++ b2).length 1], .dead, .dead, .row (itC (.mk n2 s2 l2 k2)), .dead, .dead, .dead, .row ((R ++ numN k.length ++ b ++ b2).map u8n)], rfl, by rw [renH_PH5]; rfl, ?_⟩
                exact hK ⟨j + 1, b ++ b2, hjl, hcat b2 hb2, by rw [List.length_append]; have := oneP_len (hk _ (List.mem_of_getElem? hx)) hb2; omega⟩ [0, 1, 7] _ (show k.length - j = k.length - (j + 1) + 1 by omega) ⟨⟨rfl, rfl, rfl, rfl, congrArg i64 hinc, True.intro⟩, ⟨.inl (by show some (AObj.row _) = some (AObj.row _); rw [← List.append_assoc]; rfl), .inl rfl, .inl (by show _ = some (renO _ (.row ((R ++ numN k.length ++ (b ++ b2)).map u8n))); rw [renO_u8, ← List.append_assoc]; rfl), True.intro⟩, rfl, rfl, rfl⟩
              · refine ⟨_, [.row [.slc 8 0 (R ++ numN k.length ++ b ++ b2).length 1], .dead, .dead, .row (itC (.mk n2 s2 l2 k2)), .dead, .dead, .dead, .dead, .row ((R ++ numN k.length ++ b ++ b2).map u8n)], rfl, by rw [renH_PH6]; rfl, ?_⟩
                exact hK ⟨j + 1, b ++ b2, hjl, hcat b2 hb2, by rw [List.length_append]; have := oneP_len (hk _ (List.mem_of_getElem? hx)) hb2; omega⟩ [0, 1, 8] _ (show k.length - j = k.length - (j + 1) + 1 by omega) ⟨⟨rfl, rfl, rfl, rfl, congrArg i64 hinc, True.intro⟩, ⟨.inl (by show some (AObj.row _) = some (AObj.row _); rw [← List.append_assoc]; rfl), .inl rfl, .inl (by show _ = some (renO _ (.row ((R ++ numN k.length ++ (b ++ b2)).map u8n))); rw [renO_u8, ← List.append_assoc]; rfl), True.intro⟩, rfl, rfl, rfl⟩
        · have hjl : j = k.length := by have : ¬ (j : Int) < (k.length : Int) := h; omega
          rw [hjl, List.take_length] at hb
          rw [hb]
          refine ⟨rfl, PH 2 (R ++ numN k.length ++ b), .tup [], ⟨⟨_, rfl, rfl⟩, ⟨.inl rfl, .inl rfl, .inl rfl, True.intro⟩, (show 2 ≤ 3 by decide), belowH_PH2 _⟩, rfl, ?_⟩
          show PH 2 (R ++ numN k.length ++ b) = PH 2 (R ++ (numN k.length ++ b))
          rw [List.append_assoc]
    · rw [if_neg (fun h => h64 h.2)]
      refine acalls_of_awp hT mixed Try.func77 rfl (by kernel_rfl) (by kernel_rfl) (Nat.le_of_ble_eq_true rfl) ?_
      refine callP he rfl rfl ?_
      refine forkD (fun g => absurd (show k.length ≤ 64 by have : (k.length : Int) ≤ 64 := g; omega) h64) (fun g => ?_)
      refine callBad (check_no 1) rfl ?_
      exact ⟨rfl, [.dead, .dead], ⟨.inr rfl, .inr rfl, True.intro⟩, Nat.le_refl 2, rfl, rfl, rfl⟩
end Go.Proofs.Ytgchhmfobkcnfaa.A

namespace Go.Proofs.Ytgchhmfobkcnfaa.A
open Go
set_option linter.unusedVariables false
set_option maxRecDepth 100000
set_option pp.maxSteps 1500

section
variable {α : Type} {f : α → Option (List Nat)}
def catF (f : α → Option (List Nat)) : List α → Option (List Nat)
  | [] => some []
  | x :: r => cat2 (f x) (catF f r)
theorem catF_append : ∀ a b : List α, catF f (a ++ b) = cat2 (catF f a) (catF f b)
  | [], b => (cat2_nil' _).symm
  | x :: a, b => by rw [List.cons_append, catF, catF_append a b, catF, cat2_assoc]
theorem catF_snoc (l : List α) (x : α) : catF f (l ++ [x]) = cat2 (catF f l) (f x) := by
  rw [catF_append]
  show cat2 _ (cat2 (f x) (some [])) = _
  rw [cat2_nil]
theorem catF_bad {k : List α} {j : Nat} {x : α} (hx : k[j]? = some x) (h : f x = none) : catF f k = none := by
  obtain ⟨h1, rfl⟩ := List.getElem?_eq_some_iff.1 hx
  have : k = k.take j ++ (k[j] :: k.drop (j + 1)) := by rw [← List.drop_eq_getElem_cons h1, List.take_append_drop]
  rw [this, catF_append, catF, h]
  show cat2 _ none = none
  exact cat2_none _
end
def one1 (p : (Nat × Bool) × It) : Option (List Nat) :=
  match p.1.2 with
  | true => listP p.1.1 p.2
  | false => oneP p.1.1 p.2
def prtP (L : List (Nat × Bool)) (l : List It) : Option (List Nat) := if L.length = l.length then catF one1 (L.zip l) else none
def printS (b : List Nat) (l : List It) : Option (List Nat) := (shP b).bind fun L => prtP L l
def prR (o : Option (List Nat)) : AV := match o with
  | some b => .tup [str (BA b), i64 0]
  | none => .tup [str emp, i64 1]
theorem parL_isL : ∀ {b : List Nat} {star : Bool} {L : List (Nat × Bool)}, parL star b = some L → ∀ p ∈ L, isL p.1 = true
  | [], true, L, h, p, hp => by cases h
  | [], false, L, h, p, hp => by
    have : L = [] := (Option.some.inj h).symm
    rw [this] at hp
    cases hp
  | c :: r, star, L, h, p, hp => by
    have hh : parL star (c :: r) = if c = 42 ∧ star = false then parL true r else if isL c = true then (parL false r).map ((c, star) :: ·) else none := by cases star <;> rfl
    rw [hh] at h
    split at h
    · exact parL_isL h p hp
    · split at h
      · rename_i hc
        cases hq : parL false r with
        | none => rw [hq] at h; cases h
        | some M =>
          rw [hq] at h
          have : L = (c, star) :: M := (Option.some.inj h).symm
          rw [this] at hp
          rcases List.mem_cons.1 hp with rfl | hp
          · exact hc
          · exact parL_isL hq p hp
      · cases h
theorem shP_isL {b : List Nat} {L : List (Nat × Bool)} (h : shP b = some L) : ∀ p ∈ L, isL p.1 = true := by
  unfold shP at h
  split at h
  · exact parL_isL h
  · cases h
theorem listP_len {c : Nat} {x : It} {b : List Nat} (hw : WI x) (h : listP c x = some b) : b.length ≤ 14000 := by
  have key : ∀ (k : List It) (b : List Nat), (∀ x ∈ k, WI x) → catP c k = some b → b.length ≤ 210 * k.length := by
    intro k
    induction k with
    | nil => intro b _ h; cases h; exact Nat.zero_le _
    | cons x k ih =>
      intro b hk h
      rw [catP] at h
      cases h1 : oneP c x with
      | none => rw [h1] at h; cases h
      | some b1 =>
        cases h2 : catP c k with
        | none => rw [h1, h2] at h; cases h
        | some b2 =>
          rw [h1, h2] at h
          cases h
          have a1 := oneP_len (hk x (List.mem_cons_self ..)) h1
          have a2 := ih b2 (fun y hy => hk y (List.mem_cons_of_mem _ hy)) h2
          rw [List.length_append, List.length_cons]
          omega
  cases hw with
  | mk n s l k hn hl hy hs hk hx =>
    rw [listP_mk] at h
    split at h
    · rename_i h2
      cases hq : catP c k with
      | none => rw [hq] at h; cases h
      | some b2 =>
        rw [hq] at h
        cases h
        have := key k b2 hx hq
        have := numN_len10 (show k.length < 18446744073709551616 by omega)
        rw [List.length_append]
        omega
    · cases h
theorem one1_len {p : (Nat × Bool) × It} {b : List Nat} (hw : WI p.2) (h : one1 p = some b) : b.length ≤ 14000 := by
  obtain ⟨⟨c, m⟩, x⟩ := p
  cases m with
  | true => exact listP_len hw h
  | false => exact Nat.le_trans (oneP_len hw h) (by decide)
theorem plain_flt (e : Int) : ∀ u b, AM.pan (fltV e) false = .pan u b → plain u = true := fun u b h => by cases h; rfl
structure PrSt (L : List (Nat × Bool)) (l : List It) where
  j : Nat
  R : List Nat
  hj : j ≤ l.length
  hR : catF one1 ((L.zip l).take j) = some R
  hl : R.length ≤ 14000 * j
theorem print_ok (s : ByteArray) (l : List It) (hn : s.size ≤ 60) (hl : l.length ≤ 1000) (hw : ∀ x ∈ l, WI x) : ACalls Try.prog 49 [str s, itsV l] [] (Ret (prR (printS (byL s) l))) := by
  refine acalls_of_awpU [] hT mixed Try.func49 rfl (by kernel_rfl) (by kernel_rfl) (Nat.le_of_ble_eq_true rfl) ?_
  refine callS (wparts_ok s hn) [] True.intro rfl ?_
  rintro E G ⟨rfl, X, Y, ok, h1, h2, rfl, h3, h4⟩ _
  refine ⟨_, _, rfl, rfl, ?_⟩
  cases ok with
  | false =>
    have hp : printS (byL s) l = none := by unfold printS; rw [h4 rfl]; rfl
    rw [hp]
    refine callBad (check_no 1) rfl ?_
    refine acallsD_of_rec hT mixed Try.func74 rfl (by kernel_rfl) (by kernel_rfl) rfl rfl rfl (plain_flt 1) (Nat.le_of_ble_eq_true rfl) ?_
    exact ⟨rfl, [.row [i64 1]], _, ⟨⟨_, rfl, rfl⟩, ⟨.inl rfl, True.intro⟩, Nat.le_refl 1, rfl⟩, True.intro, [], _, ⟨⟨_, rfl, rfl⟩, True.intro, Nat.zero_le _, rfl⟩, rfl, rfl⟩
  | true =>
    have hsh := h3 rfl
    have hzl : (X.zip Y).length = X.length := by rw [List.length_zip]; omega
    refine fork (fun g => ?_) (fun g => ?_)
    · have hlen : X.length = l.length := by
        have : (X.length : Int) = (l.length : Int) := beq_iff_eq.1 g
        omega
      have hp : printS (byL s) l = catF one1 ((X.zip Y).zip l) := by unfold printS; rw [hsh]; show prtP _ _ = _; unfold prtP; rw [if_pos (by rw [hzl]; exact hlen)]
      rw [hp]
      refine callP (check_yes 1) rfl rfl ?_
      refine loopG (α := PrSt (X.zip Y) l) (fun z => [(4, str ⟨#[]⟩), (5, .ptr 0 0), (6, v8 X), (7, vbo Y), (9, .ptr 1 0), (29, itsV l), (30, i64 l.length), (31, i64 (z.j : Nat))]) (fun z => [.row [i64 0], .row [.slc 2 0 z.R.length 1], .row (z.R.map u8n)]) [⟨74, [], [.ptr 0 0]⟩] (fun z => l.length - z.j)
        ⟨0, [], Nat.zero_le _, rfl, Nat.zero_le _⟩ [.cell 1 0 1] [0, 1, 2] ⟨⟨rfl, rfl, rfl, rfl, rfl, rfl, rfl, rfl, True.intro⟩, ⟨.inl rfl, .inl rfl, .inl rfl, True.intro⟩, rfl, rfl, rfl⟩ ?_
      rintro ⟨j, R, hj, hR, hRl⟩ K hK
      have hinc : wrp .i64 ((j : Int) + 1) = ((j + 1 : Nat) : Int) := by rw [wrpE, wi64]; omega
      refine forkD (fun h => ?_) (fun h => ?_)
      · have hjl : j < l.length := by have : (j : Int) < (l.length : Int) := h; omega
        obtain ⟨x, hx⟩ : ∃ x, l[j]? = some x := ⟨_, List.getElem?_eq_getElem hjl⟩
        obtain ⟨c, hc⟩ : ∃ c, X[j]? = some c := ⟨_, List.getElem?_eq_getElem (by omega)⟩
        obtain ⟨m, hm⟩ : ∃ m, Y[j]? = some m := ⟨_, List.getElem?_eq_getElem (by omega)⟩
        have hz : (X.zip Y)[j]? = some (c, m) := List.getElem?_zip_eq_some.2 ⟨hc, hm⟩
        have hzz : ((X.zip Y).zip l)[j]? = some ((c, m), x) := List.getElem?_zip_eq_some.2 ⟨hz, hx⟩
        have hL := shP_isL hsh (c, m) (List.mem_of_getElem? hz)
        have hwx := hw x (List.mem_of_getElem? hx)
        have hcat : ∀ b2, one1 ((c, m), x) = some b2 → catF one1 (((X.zip Y).zip l).take (j + 1)) = some (R ++ b2) := fun b2 h2 => by rw [take_snocA hzz, catF_snoc, hR, h2]; rfl
        have hbj : (0 : Int) ≤ (j : Nat) ∧ ((j : Nat) : Int) < (l.length : Nat) := by omega
        have hbX : (0 : Int) ≤ (j : Nat) ∧ ((j : Nat) : Int) < (X.length : Nat) := by omega
        have hbY : (0 : Int) ≤ (j : Nat) ∧ ((j : Nat) : Int) < (Y.length : Nat) := by omega
        have hbl : ∀ b2, one1 ((c, m), x) = some b2 → (R ++ b2).length ≤ 14000 * (j + 1) := fun b2 h2 => by rw [List.length_append]; have := one1_len (p := ((c, m), x)) hwx h2; omega
        have hmm : l.length - j = l.length - (j + 1) + 1 := by omega
        refine Ob.intro hbj ?_
        obtain ⟨n2, s2, l2, k2⟩ := x
        have hwx2 := hwx
        cases hwx2 with
        | mk _ _ _ _ w1 w2 w3 w4 w5 w6 =>
        refine optK_intro (flat_takeN itC_len hx) ?_
        refine Ob.intro hbY ?_
        refine optK_intro (nth_map hm) ?_
        cases m with
        | true =>
          have h1 := list_ok c n2 s2 l2 k2 R hL (by omega) w6 w5
          refine ⟨[0, 0, 0, 0, 0, 0, 1], [[], [], [], [1, 2], [1, 2, 3], [], [0, 1, 2, 3, 4, 5]], [0, 0, 0, 0, 0, 0, 0], [6], [[9], [6], [10], [41, 42], [43], [11], [40, 44, 45]], Ob.intro (by kernel_rfl) ?_⟩
          refine Ob.intro hbX ?_
          refine optK_intro (nth_map hc) ?_
          repeat first | refine same ?_ | refine optK_intro (nth_map hc) ?_
          refine callS h1 [1, 2] ⟨.inl rfl, .inl (by rw [renO_u8]; rfl), True.intro⟩ rfl ?_
          intro E G hE _
          cases hb2 : listP c (.mk n2 s2 l2 k2) with
          | none =>
            rw [hb2] at hE
            obtain ⟨rfl, rfl⟩ := hE
            have hno : catF one1 ((X.zip Y).zip l) = none := catF_bad hzz hb2
            rw [hno]
            refine ⟨_, [.row [i64 0], .dead, .dead, .row (itC (.mk n2 s2 l2 k2))], rfl, rfl, ?_⟩
            refine acallsD_of_rec hT mixed Try.func74 rfl (by kernel_rfl) (by kernel_rfl) rfl rfl rfl (plain_flt 1) (Nat.le_of_ble_eq_true rfl) ?_
            exact ⟨rfl, [.row [i64 1], .dead, .dead, .dead], _, ⟨⟨_, rfl, rfl⟩, ⟨.inl rfl, .inl rfl, .inl rfl, .inr rfl, True.intro⟩, Nat.le_refl 4, rfl⟩, True.intro, [], _, ⟨⟨_, rfl, rfl⟩, True.intro, Nat.zero_le _, rfl⟩, rfl, rfl⟩
          | some b2 =>
            rw [hb2] at hE
            obtain ⟨rfl, rfl⟩ := hE
            refine ⟨_, [.row [i64 0], .row [.slc 4 0 (R ++ b2).length 1], .dead, .row (itC (.mk n2 s2 l2 k2)), .row ((R ++ b2).map u8n)], rfl, by rw [renH_PH2]; rfl, ?_⟩
            repeat first | refine same ?_ | refine optK_intro (nth_map hc) ?_
            refine hK ⟨j + 1, R ++ b2, hjl, hcat b2 hb2, hbl b2 hb2⟩ [] [0, 1, 4] _ hmm ⟨⟨rfl, rfl, rfl, rfl, rfl, rfl, rfl, congrArg i64 hinc, True.intro⟩, ⟨.inl rfl, .inl rfl, .inl (by rw [renO_u8]; rfl), True.intro⟩, rfl, rfl, rfl⟩
        | false =>
          have h1 := one_ok c n2 s2 l2 k2 R hL (by omega) w1 (by omega)
          refine ⟨[0, 0, 0, 0, 0, 0, 1], [[], [], [], [1, 2], [1, 2, 3], [], [0, 1, 2, 3, 4, 5]], [0, 0, 0, 0, 0, 0, 0], [6], [[9], [6], [10], [48, 49], [50], [11], [47, 51, 52]], Ob.intro (by kernel_rfl) ?_⟩
          refine Ob.intro hbX ?_
          refine optK_intro (nth_map hc) ?_
          repeat first | refine same ?_ | refine optK_intro (nth_map hc) ?_
          refine callS h1 [1, 2] ⟨.inl rfl, .inl (by rw [renO_u8]; rfl), True.intro⟩ rfl ?_
          intro E G hE _
          cases hb2 : oneP c (.mk n2 s2 l2 k2) with
          | none =>
            rw [hb2] at hE
            obtain ⟨rfl, rfl⟩ := hE
            have hno : catF one1 ((X.zip Y).zip l) = none := catF_bad hzz hb2
            rw [hno]
            refine ⟨_, [.row [i64 0], .dead, .dead, .row (itC (.mk n2 s2 l2 k2))], rfl, rfl, ?_⟩
            refine acallsD_of_rec hT mixed Try.func74 rfl (by kernel_rfl) (by kernel_rfl) rfl rfl rfl (plain_flt 1) (Nat.le_of_ble_eq_true rfl) ?_
            exact ⟨rfl, [.row [i64 1], .dead, .dead, .dead], _, ⟨⟨_, rfl, rfl⟩, ⟨.inl rfl, .inl rfl, .inl rfl, .inr rfl, True.intro⟩, Nat.le_refl 4, rfl⟩, True.intro, [], _, ⟨⟨_, rfl, rfl⟩, True.intro, Nat.zero_le _, rfl⟩, rfl, rfl⟩
          | some b2 =>
            rw [hb2] at hE
            obtain ⟨rfl, rfl | rfl | rfl | rfl⟩ := hE
            · refine ⟨_, [.row [i64 0], .row [.slc 5 0 (R ++ b2).length 1], .dead, .row (itC (.mk n2 s2 l2 k2)), .dead, .row ((R ++ b2).map u8n)], rfl, by rw [renH_PH3]; rfl, ?_⟩
              repeat first | refine same ?_ | refine optK_intro (nth_map hc) ?_
              exact hK ⟨j + 1, R ++ b2, hjl, hcat b2 hb2, hbl b2 hb2⟩ [] [0, 1, 5] _ hmm ⟨⟨rfl, rfl, rfl, rfl, rfl, rfl, rfl, congrArg i64 hinc, True.intro⟩, ⟨.inl rfl, .inl rfl, .inl (by rw [renO_u8]; rfl), True.intro⟩, rfl, rfl, rfl⟩
            · refine ⟨_, [.row [i64 0], .row [.slc 6 0 (R ++ b2).length 1], .dead, .row (itC (.mk n2 s2 l2 k2)), .dead, .dead, .row ((R ++ b2).map u8n)], rfl, by rw [renH_PH4]; rfl, ?_⟩
              repeat first | refine same ?_ | refine optK_intro (nth_map hc) ?_
              exact hK ⟨j + 1, R ++ b2, hjl, hcat b2 hb2, hbl b2 hb2⟩ [] [0, 1, 6] _ hmm ⟨⟨rfl, rfl, rfl, rfl, rfl, rfl, rfl, congrArg i64 hinc, True.intro⟩, ⟨.inl rfl, .inl rfl, .inl (by rw [renO_u8]; rfl), True.intro⟩, rfl, rfl, rfl⟩
            · refine ⟨_, [.row [i64 0], .row [.slc 7 0 (R ++ b2).length 1], .dead, .row (itC (.mk n2 s2 l2 k2)), .dead, .dead, .dead, .row ((R ++ b2).map u8n)], rfl, by rw [renH_PH5]; rfl, ?_⟩
              repeat first | refine same ?_ | refine optK_intro (nth_map hc) ?_
              exact hK ⟨j + 1, R ++ b2, hjl, hcat b2 hb2, hbl b2 hb2⟩ [] [0, 1, 7] _ hmm ⟨⟨rfl, rfl, rfl, rfl, rfl, rfl, rfl, congrArg i64 hinc, True.intro⟩, ⟨.inl rfl, .inl rfl, .inl (by rw [renO_u8]; rfl), True.intro⟩, rfl, rfl, rfl⟩
            · refine ⟨_, [.row [i64 0], .row [.slc 8 0 (R ++ b2).length 1], .dead, .row (itC (.mk n2 s2 l2 k2)), .dead, .dead, .dead, .dead, .row ((R ++ b2).map u8n)], rfl, by rw [renH_PH6]; rfl, ?_⟩
              repeat first | refine same ?_ | refine optK_intro (nth_map hc) ?_
              exact hK ⟨j + 1, R ++ b2, hjl, hcat b2 hb2, hbl b2 hb2⟩ [] [0, 1, 8] _ hmm ⟨⟨rfl, rfl, rfl, rfl, rfl, rfl, rfl, congrArg i64 hinc, True.intro⟩, ⟨.inl rfl, .inl rfl, .inl (by rw [renO_u8]; rfl), True.intro⟩, rfl, rfl, rfl⟩
      · have hjl : j = l.length := by have : ¬ (j : Int) < (l.length : Int) := h; omega
        rw [hjl, List.take_of_length_le (by rw [List.length_zip, hzl]; omega)] at hR
        rw [hR]
        refine optK_intro (a := R.map u8n) (src_all rfl (by rw [List.length_map])) ?_
        refine optK_intro (a := R.map UInt8.ofNat) (textA_u8 R) ?_
        refine acallsD_of_rec hT mixed Try.func74 rfl (by kernel_rfl) (by kernel_rfl) rfl rfl rfl (fun u b h => by cases h) (Nat.le_of_ble_eq_true rfl) ?_
        exact ⟨rfl, [.row [i64 0], .dead, .dead], _, ⟨⟨_, rfl, rfl⟩, ⟨.inl rfl, .inr rfl, .inr rfl, True.intro⟩, Nat.le_refl 3, rfl⟩, True.intro, [], _, ⟨⟨_, rfl, rfl⟩, True.intro, Nat.zero_le _, rfl⟩, rfl, rfl⟩
    · have hne : X.length ≠ l.length := fun e => by
        have : (X.length : Int) ≠ (l.length : Int) := beq_eq_false_iff_ne.1 g
        omega
      have hp : printS (byL s) l = none := by unfold printS; rw [hsh]; show prtP _ _ = none; unfold prtP; rw [if_neg (by rw [hzl]; exact hne)]
      rw [hp]
      refine callBad (check_no 1) rfl ?_
      refine acallsD_of_rec hT mixed Try.func74 rfl (by kernel_rfl) (by kernel_rfl) rfl rfl rfl (plain_flt 1) (Nat.le_of_ble_eq_true rfl) ?_
      exact ⟨rfl, [.row [i64 1]], _, ⟨⟨_, rfl, rfl⟩, ⟨.inl rfl, True.intro⟩, Nat.le_refl 1, rfl⟩, True.intro, [], _, ⟨⟨_, rfl, rfl⟩, True.intro, Nat.zero_le _, rfl⟩, rfl, rfl⟩
end Go.Proofs.Ytgchhmfobkcnfaa.A
