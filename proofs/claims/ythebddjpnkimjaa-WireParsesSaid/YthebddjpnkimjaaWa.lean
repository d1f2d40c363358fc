/- wire: letters, shapes. No condition. -/
import Derived.Test.YthebddjpnkimjaaNh
import Derived.Test.YthebddjpnkimjaaBb
import Derived.Lib.Bytealg
namespace Go.Proofs.Ythebddjpnkimjaa.A
open Go
set_option linter.unusedVariables false
set_option maxRecDepth 100000
set_option pp.maxSteps 1500

def isL (c : Nat) : Bool := c == 98 || c == 110 || c == 116 || c == 102 || c == 108
theorem VL_twoW {X : Ctx} {a b : AV} {args : Array Value} (h : VL X [a, b] args.toList) : ∃ v w, args = #[v, w] ∧ VR X a v ∧ VR X b w := by
  obtain ⟨l⟩ := args
  match l, h with
  | [v, w], h =>
    simp only [VL] at h
    exact ⟨v, w, rfl, h.1, h.2.1⟩
  | [], h => simp [VL] at h
  | [_], h => simp [VL] at h
  | _ :: _ :: _ :: _, h => simp [VL] at h
theorem indexByte_ok (s : ByteArray) (c : Int) : ACalls Try.prog 66 [str s, by8 c] [] (Ret (i64 (Lib.indexByte s.data.toList c.toNat.toUInt8))) := by
  refine ext_calls (e := Extern.BytealgIndexByte.indexByte) (show Try.prog.funcs[66]? = some Try.f66 from Try.func66) (by kernel_rfl) rfl (by kernel_rfl) (by kernel_rfl) ?_
  intro X vs hr hv
  obtain ⟨v, w, rfl, h1, h2⟩ := VL_twoW hv
  rw [str, VR_string] at h1
  rw [by8, VR_sc_int] at h2
  subst h1 h2
  exact ⟨_, i64 _, Lib.run_indexByteString s c X.w, VR_sc_int.2 rfl, rfl, rfl⟩
theorem lindexByte_ok (s : ByteArray) (c : Int) : ACalls Try.prog 64 [str s, by8 c] [] (Ret (i64 (Lib.indexByte s.data.toList c.toNat.toUInt8))) := by
  refine acalls_of_awp hT mixed Try.func64 rfl (by kernel_rfl) (by kernel_rfl) (Nat.le_of_ble_eq_true rfl) ?_
  refine callP (indexByte_ok s c) rfl rfl ?_
  refine end0 rfl rfl rfl rfl
theorem sindexByte_ok (s : ByteArray) (c : Int) : ACalls Try.prog 55 [str s, by8 c] [] (Ret (i64 (Lib.indexByte s.data.toList c.toNat.toUInt8))) := by
  refine acalls_of_awp hT mixed Try.func55 rfl (by kernel_rfl) (by kernel_rfl) (Nat.le_of_ble_eq_true rfl) ?_
  refine callP (lindexByte_ok s c) rfl rfl ?_
  refine end0 rfl rfl rfl rfl
theorem idx_isL : ∀ c, c < 256 → (decide (0 ≤ Lib.indexByte [98, 110, 116, 102, 108] c.toUInt8) = isL c) := by decide +kernel
theorem letter_ok (c : Nat) (hc : c < 256) : ACalls Try.prog 35 [u8n c] [] (Ret (bo (isL c))) := by
  have h := sindexByte_ok ⟨#[98, 110, 116, 102, 108]⟩ (c : Nat)
  rw [Int.toNat_natCast] at h
  have hi := idx_isL c hc
  rw [show (⟨#[98, 110, 116, 102, 108]⟩ : ByteArray).data.toList = [98, 110, 116, 102, 108] from rfl] at h
  generalize Lib.indexByte [98, 110, 116, 102, 108] c.toUInt8 = i at *
  refine acalls_of_awp hT mixed Try.func35 rfl (by kernel_rfl) (by kernel_rfl) (Nat.le_of_ble_eq_true rfl) ?_
  refine callP h rfl rfl ?_
  refine forkD (fun g => ?_) (fun g => ?_)
  · have g' : 0 ≤ i := g
    refine end0 rfl rfl rfl (congrArg bo (by rw [← hi, decide_eq_true g']))
  · have g' : ¬ 0 ≤ i := g
    refine end0 rfl rfl rfl (congrArg bo (by rw [← hi, decide_eq_false g']))
theorem rletter_ok (c : Nat) (hc : c < 256) : ACalls Try.prog 33 [u8n c] [] (Ret (bo (isL c))) := by
  have e : ∀ k : Nat, ((c : Int) == (k : Int)) = (c == k) := fun k => by
    rw [Bool.eq_iff_iff, beq_iff_eq, beq_iff_eq]
    omega
  have hL : isL c = ((c : Int) == 98 || (c : Int) == 110 || (c : Int) == 116 || (c : Int) == 102 || (c : Int) == 108) := by
    unfold isL
    rw [show (98 : Int) = ((98 : Nat) : Int) from rfl, show (110 : Int) = ((110 : Nat) : Int) from rfl, show (116 : Int) = ((116 : Nat) : Int) from rfl, show (102 : Int) = ((102 : Nat) : Int) from rfl, show (108 : Int) = ((108 : Nat) : Int) from rfl, e, e, e, e, e]
  rw [hL]
  refine acalls_of_awp hT mixed Try.func33 rfl (by kernel_rfl) (by kernel_rfl) (Nat.le_of_ble_eq_true rfl) ?_
  refine fork (fun g1 => ?_) (fun g1 => ?_)
  · refine end0 rfl rfl rfl (congrArg bo (by rw [g1]; rfl))
  refine fork (fun g2 => ?_) (fun g2 => ?_)
  · refine end0 rfl rfl rfl (congrArg bo (by rw [g1, g2]; rfl))
  refine fork (fun g3 => ?_) (fun g3 => ?_)
  · refine end0 rfl rfl rfl (congrArg bo (by rw [g1, g2, g3]; rfl))
  refine fork (fun g4 => ?_) (fun g4 => ?_)
  · refine end0 rfl rfl rfl (congrArg bo (by rw [g1, g2, g3, g4]; rfl))
  refine fork (fun g5 => ?_) (fun g5 => ?_)
  · refine end0 rfl rfl rfl (congrArg bo (by rw [g1, g2, g3, g4, g5]; rfl))
  · refine end0 rfl rfl rfl (congrArg bo (by rw [g1, g2, g3, g4, g5]; rfl))
/-- The parts of a shape. -/
def parL : Bool → List Nat → Option (List (Nat × Bool))
  | true, [] => none
  | false, [] => some []
  | star, c :: r => if c = 42 ∧ star = false then parL true r else if isL c = true then (parL false r).map ((c, star) :: ·) else none
def shP (b : List Nat) : Option (List (Nat × Bool)) := if b.length ≤ 40 then parL false b else none
def v8 (l : List Nat) : AV := .view l.length (l.map u8n)
def vbo (l : List Bool) : AV := .view l.length (l.map bo)
/-- What has been read of a shape. -/
structure PaSt (b : List Nat) where
  k : Nat
  star : Bool
  X : List Nat
  Y : List Bool
  hk : k ≤ b.length
  len : X.length = Y.length
  lx : X.length ≤ k
  hP : parL false b = (parL star (b.drop k)).map ((X.zip Y) ++ ·)
theorem renO_bo (r : Nat → Nat) (l : List Bool) : renO r (.row (l.map bo)) = .row (l.map bo) := by
  simp only [renO]
  rw [renL_map (fun _ _ => rfl)]
theorem frz_map3 {α : Type} {g : α → AV} {H : Heap} {i n m k : Nat} {L : List α} (h : nth H i = some (.row (L.map g))) (hn : n = L.length) (hm : Nat.blt i m = false) (hg : ∀ x, frz0 H m (k + 1) (g x) = some (g x)) : frz H m (k + 2) (.slc i 0 n 1) = some (.view L.length (L.map g)) := by
  subst hn
  have h1 : rdN H i 0 (L.length * 1) = some (L.map g) := rdN_all h (by rw [List.length_map]; omega)
  have h2 : mapO (frz0 H m (k + 1)) (L.map g) = some (L.map g) := mapO_map (f := frz0 H m (k + 1)) (g := g) (h := g) hg L
  simp only [frz, frz0, hm, cond_false, h1, h2]
def PaR (b : List Nat) : AEnd → Heap → Prop := fun E G => G = [] ∧ ∃ (X : List Nat) (Y : List Bool) (ok : Bool), X.length = Y.length ∧ X.length ≤ 60 ∧ E = .ret (.tup [v8 X, vbo Y, bo ok]) ∧ (ok = true → shP b = some (X.zip Y)) ∧ (ok = false → shP b = none)
theorem parL_step (star : Bool) (b : List Nat) (k c : Nat) (h : b[k]? = some c) : parL star (b.drop k) = if c = 42 ∧ star = false then parL true (b.drop (k + 1)) else if isL c = true then (parL false (b.drop (k + 1))).map ((c, star) :: ·) else none := by
  obtain ⟨h1, rfl⟩ := List.getElem?_eq_some_iff.1 h
  rw [List.drop_eq_getElem_cons h1]
  cases star <;> rfl
theorem EndR_nil8 (a : AV) (r : List AV) (ha : ∀ X v, VR X nilS v → VR X a v) {b : AV} (hb : ∀ X v, VR X nilS v → VR X b v) : ∀ Y e, EndR Y (.ret (.tup (nilS :: nilS :: r))) e → EndR Y (.ret (.tup (a :: b :: r))) e := fun Y e h => by
  cases e with
  | returned v =>
    have h' : VR Y (.tup (nilS :: nilS :: r)) v := h
    show VR Y (.tup (a :: b :: r)) v
    simp only [VR] at h' ⊢
    obtain ⟨ws, e, hl⟩ := h'
    refine ⟨ws, e, ?_⟩
    generalize ws.toList = q at hl
    match q, hl with
    | w :: z :: q, hl =>
      simp only [VL] at hl ⊢
      exact ⟨ha _ _ hl.1, hb _ _ hl.2.1, hl.2.2⟩
    | [_], hl => simp [VL] at hl
    | [], hl => simp [VL] at hl
  | panicked _ => exact h
  | outgrown => exact h
theorem parts_step {b : List Nat} {k c : Nat} {star : Bool} {X : List Nat} {Y : List Bool} (hc : b[k]? = some c) (len : X.length = Y.length) (hP : parL false b = (parL star (b.drop k)).map ((X.zip Y) ++ ·)) :
    (c = 42 ∧ star = false → parL false b = (parL true (b.drop (k + 1))).map ((X.zip Y) ++ ·)) ∧ (¬ (c = 42 ∧ star = false) → isL c = true → parL false b = (parL false (b.drop (k + 1))).map (((X ++ [c]).zip (Y ++ [star])) ++ ·)) ∧ (¬ (c = 42 ∧ star = false) → isL c = false → parL false b = none) := by
  rw [parL_step star b k c hc] at hP
  refine ⟨fun h => ?_, fun h h2 => ?_, fun h h2 => ?_⟩
  · rw [if_pos h] at hP
    exact hP
  · rw [if_neg h, if_pos h2, Option.map_map] at hP
    rw [hP, List.zip_append len]
    congr 1
    funext z
    simp
  · rw [if_neg h, if_neg (by rw [h2]; decide)] at hP
    exact hP
theorem wparts_ok (s : ByteArray) (hn : s.size ≤ 60) : ACalls Try.prog 20 [str s] [] (PaR (byL s)) := by
  refine ACalls.weakR (R := fun E G => PaR (byL s) E G ∨ (G = [] ∧ E = .ret (.tup [nilS, nilS, bo false]) ∧ shP (byL s) = none)) ?_ ?_
  · refine acalls_of_awp hT mixed Try.func20 rfl (by kernel_rfl) (by kernel_rfl) (Nat.le_of_ble_eq_true rfl) ?_
    refine loopG (α := PaSt (byL s)) (fun z => [(0, str s), (5, .slc 0 0 z.X.length 1), (6, .slc 1 0 z.Y.length 1), (7, bo z.star), (10, str s), (11, i64 s.size), (12, i64 (z.k : Nat))]) (fun z => [.row (z.X.map u8n), .row (z.Y.map bo)]) [] (fun z => s.size - z.k)
      ⟨0, false, [], [], Nat.zero_le _, rfl, Nat.zero_le _, by cases hq : parL false (byL s) <;> simp [hq]⟩ [.at_ 5 1, .at_ 6 1] [0, 1] ⟨⟨rfl, rfl, rfl, rfl, rfl, rfl, rfl, True.intro⟩, ⟨.inl rfl, .inl rfl, True.intro⟩, rfl, rfl, rfl⟩ ?_
    rintro ⟨k, star, X, Y, hk, len, lx, hP⟩ K hK
    rw [byL_len] at hk
    have hinc : wrp .i64 ((k : Int) + 1) = ((k + 1 : Nat) : Int) := by rw [wrpE, wi64]; omega
    refine forkD (fun h => ?_) (fun h => ?_)
    · have h' : k < s.size := by have : (k : Int) < (s.size : Int) := h; omega
      have hk1 : k + 1 ≤ (byL s).length := by rw [byL_len]; exact h'
      have hm : s.size - k = s.size - (k + 1) + 1 := by omega
      obtain ⟨p1, p2, p3⟩ := parts_step (byL_at h') len hP
      have hL := letter_ok (octB s k) (octB_lt s k)
      have hno : ¬ (octB s k = 42 ∧ star = false) → isL (octB s k) = false → shP (byL s) = none := fun h1 h2 => by
        unfold shP
        rw [p3 h1 h2]
        split <;> rfl
      refine Ob.intro (show (0 : Int) ≤ (k : Nat) ∧ ((k : Nat) : Int) < (s.size : Int) by omega) ?_
      have app : ∀ (st : Bool), st = star → ¬ (octB s k = 42 ∧ star = false) → isL (octB s k) = true → parL false (byL s) = (parL false ((byL s).drop (k + 1))).map (((X ++ [octB s k]).zip (Y ++ [st])) ++ ·) := fun st e h1 h2 => by rw [e]; exact p2 h1 h2
      cases hl : isL (octB s k) with
      | true =>
        rw [hl] at hL
        have h42 : ¬ octB s k = 42 := fun e => by rw [e] at hl; cases hl
        have pp := app star rfl (fun hh => h42 hh.1) hl
        cases star <;>
        · refine fork (fun g => absurd (show octB s k = 42 from by have : ((octB s k : Nat) : Int) = 42 := beq_iff_eq.1 g; omega) h42) (fun g => ?_)
          refine callP hL rfl rfl ?_
          refine Ob.intro rfl ?_
          refine optK_intro (rdN_all (cs := X.map u8n) rfl (by rw [List.length_map, Nat.mul_one])) ?_
          refine Ob.intro (show (X.length + 1) * 1 ≤ 140737488355328 ∧ X.length + 1 ≤ 9223372036854775807 by omega) ?_
          refine Ob.intro rfl ?_
          refine optK_intro (rdN_all (cs := Y.map bo) rfl (by rw [List.length_map, Nat.mul_one])) ?_
          refine Ob.intro (show (Y.length + 1) * 1 ≤ 140737488355328 ∧ Y.length + 1 ≤ 9223372036854775807 by omega) ?_
          refine hK ⟨k + 1, false, X ++ [octB s k], Y ++ [_], hk1, by simp [len], by rw [List.length_append, List.length_singleton]; omega, pp⟩ [] [3, 5] _ hm ⟨⟨rfl, slcE rfl (by rw [List.length_append]; rfl), slcE rfl (by rw [List.length_append]; rfl), rfl, rfl, rfl, congrArg i64 hinc, True.intro⟩, ⟨.inl ?_, .inl ?_, True.intro⟩, rfl, rfl, rfl⟩
          · show some (AObj.row (X.map u8n ++ [u8n (octB s k)])) = some (renO _ (.row ((X ++ [octB s k]).map u8n)))
            rw [renO_u8, List.map_append]
            rfl
          · show some (AObj.row (Y.map bo ++ [bo _])) = some (renO _ (.row ((Y ++ [_]).map bo)))
            rw [renO_bo, List.map_append]
            rfl
      | false =>
        rw [hl] at hL
        cases star with
        | false =>
          refine fork (fun g => ?_) (fun g => ?_)
          · have h42 : octB s k = 42 := by
              have : ((octB s k : Nat) : Int) = 42 := beq_iff_eq.1 g
              omega
            refine hK ⟨k + 1, true, X, Y, hk1, len, by omega, p1 ⟨h42, rfl⟩⟩ [] [0, 1] _ hm ⟨⟨rfl, rfl, rfl, rfl, rfl, rfl, congrArg i64 hinc, True.intro⟩, ⟨.inl (by rw [renO_u8]; rfl), .inl (by rw [renO_bo]; rfl), True.intro⟩, rfl, rfl, rfl⟩
          · have h42 : ¬ octB s k = 42 := fun e => by
              have : ((octB s k : Nat) : Int) ≠ 42 := beq_eq_false_iff_ne.1 g
              omega
            refine callP hL rfl rfl ?_
            exact ⟨rfl, [], .tup [nilS, nilS, bo false], ⟨⟨_, rfl, rfl⟩, True.intro, Nat.zero_le _, rfl⟩, .inr ⟨rfl, rfl, hno (fun hh => h42 hh.1) hl⟩⟩
        | true =>
          have hnn : ¬ (octB s k = 42 ∧ true = false) := fun hh => by cases hh.2
          refine fork (fun g => ?_) (fun g => ?_)
          · refine callP hL rfl rfl ?_
            exact ⟨rfl, [], .tup [nilS, nilS, bo false], ⟨⟨_, rfl, rfl⟩, True.intro, Nat.zero_le _, rfl⟩, .inr ⟨rfl, rfl, hno hnn hl⟩⟩
          · refine callP hL rfl rfl ?_
            exact ⟨rfl, [], .tup [nilS, nilS, bo false], ⟨⟨_, rfl, rfl⟩, True.intro, Nat.zero_le _, rfl⟩, .inr ⟨rfl, rfl, hno hnn hl⟩⟩
    · have h' : k = s.size := by have : ¬ (k : Int) < (s.size : Int) := h; omega
      have hd : (byL s).drop k = [] := List.drop_eq_nil_of_le (by rw [byL_len]; omega)
      rw [hd] at hP
      have f1 : frz [.row (X.map u8n), .row (Y.map bo)] 0 7 (.slc 0 0 X.length 1) = some (v8 X) := frz_map3 (k := 5) rfl rfl rfl fun _ => rfl
      have f2 : frz [.row (X.map u8n), .row (Y.map bo)] 0 7 (.slc 1 0 Y.length 1) = some (vbo Y) := frz_map3 (k := 5) rfl rfl rfl fun x => by cases x <;> rfl
      have ft : ∀ c : Bool, frz [.row (X.map u8n), .row (Y.map bo)] 0 8 (.tup [.slc 0 0 X.length 1, .slc 1 0 Y.length 1, bo c]) = some (.tup [v8 X, vbo Y, bo c]) := fun c => frz_tup (by simp only [mapO, f1, f2]; rfl)
      cases star with
      | true =>
        have hsn : shP (byL s) = none := by unfold shP; rw [hP]; split <;> rfl
        exact ⟨rfl, [], .tup [v8 X, vbo Y, bo false], ⟨⟨_, rfl, ft false⟩, True.intro, Nat.zero_le _, rfl⟩, .inl ⟨rfl, X, Y, false, len, by omega, rfl, fun hh => (by cases hh), fun _ => hsn⟩⟩
      | false =>
        refine forkD (fun g => ?_) (fun g => ?_)
        · have g' : s.size ≤ 40 := by have : (s.size : Int) ≤ 40 := g; omega
          exact ⟨rfl, [], .tup [v8 X, vbo Y, bo true], ⟨⟨_, rfl, ft true⟩, True.intro, Nat.zero_le _, rfl⟩, .inl ⟨rfl, X, Y, true, len, by omega, rfl, fun _ => by unfold shP; rw [if_pos (by rw [byL_len]; exact g'), hP]; simp [parL], fun hh => by cases hh⟩⟩
        · have g' : ¬ s.size ≤ 40 := by have : ¬ (s.size : Int) ≤ 40 := g; omega
          exact ⟨rfl, [], .tup [v8 X, vbo Y, bo false], ⟨⟨_, rfl, ft false⟩, True.intro, Nat.zero_le _, rfl⟩, .inl ⟨rfl, X, Y, false, len, by omega, rfl, fun hh => (by cases hh), fun _ => by unfold shP; rw [if_neg (by rw [byL_len]; exact g')]⟩⟩
  · rintro E G (h | ⟨rfl, rfl, h⟩)
    · exact ⟨_, h, fun _ _ h => h⟩
    · exact ⟨_, ⟨rfl, [], [], false, rfl, by decide, rfl, fun hh => (by cases hh), fun _ => h⟩, EndR_nil8 _ _ (fun _ _ h => VR_nilView h) (fun _ _ h => VR_nilView h)⟩
theorem wright_ok (s : ByteArray) (hn : s.size ≤ 60) : ACalls Try.prog 16 [str s] [] (Ret (bo (shP (byL s)).isSome)) := by
  refine acalls_of_awp hT mixed Try.func16 rfl (by kernel_rfl) (by kernel_rfl) (Nat.le_of_ble_eq_true rfl) ?_
  refine callS (wparts_ok s hn) [] True.intro rfl ?_
  rintro E G ⟨rfl, X, Y, ok, h1, h2, rfl, h3, h4⟩ _
  refine ⟨_, _, rfl, rfl, ?_⟩
  cases ok with
  | true => exact ⟨rfl, [], bo true, ⟨⟨_, rfl, rfl⟩, True.intro, Nat.zero_le _, rfl⟩, by rw [h3 rfl]; rfl, rfl⟩
  | false => exact ⟨rfl, [], bo false, ⟨⟨_, rfl, rfl⟩, True.intro, Nat.zero_le _, rfl⟩, by rw [h4 rfl]; rfl, rfl⟩
end Go.Proofs.Ythebddjpnkimjaa.A
