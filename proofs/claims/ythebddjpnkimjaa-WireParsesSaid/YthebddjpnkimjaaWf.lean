/- wire: Print. No condition. -/
import Derived.Test.YthebddjpnkimjaaWe
namespace Go.Proofs.Ythebddjpnkimjaa.A
open Go
set_option linter.unusedVariables false
set_option maxRecDepth 100000
set_option pp.maxSteps 1500

section
variable {α : Type} {f : α → Option (List Nat)}
def catF (f : α → Option (List Nat)) : List α → Option (List Nat)
  | [] => some []
  | x :: r => cat2 (f x) (catF f r)
theorem catF_append : ∀ a b : List α, catF f (a ++ b) = cat2 (catF f a) (catF f b)
  | [], b => (cat2_nil' _).symm
  | x :: a, b => by rw [List.cons_append, catF, catF_append a b, catF, cat2_assoc]
theorem catF_snoc (l : List α) (x : α) : catF f (l ++ [x]) = cat2 (catF f l) (f x) := by
  rw [catF_append]
  show cat2 _ (cat2 (f x) (some [])) = _
  rw [cat2_nil]
theorem catF_bad {k : List α} {j : Nat} {x : α} (hx : k[j]? = some x) (h : f x = none) : catF f k = none := by
  obtain ⟨h1, rfl⟩ := List.getElem?_eq_some_iff.1 hx
  have : k = k.take j ++ (k[j] :: k.drop (j + 1)) := by rw [← List.drop_eq_getElem_cons h1, List.take_append_drop]
  rw [this, catF_append, catF, h]
  show cat2 _ none = none
  exact cat2_none _
end
def one1 (p : (Nat × Bool) × It) : Option (List Nat) :=
  match p.1.2 with
  | true => listP p.1.1 p.2
  | false => oneP p.1.1 p.2
def prtP (L : List (Nat × Bool)) (l : List It) : Option (List Nat) := if L.length = l.length then catF one1 (L.zip l) else none
def printS (b : List Nat) (l : List It) : Option (List Nat) := (shP b).bind fun L => prtP L l
def prR (o : Option (List Nat)) : AV := match o with
  | some b => .tup [str (BA b), i64 0]
  | none => .tup [str emp, i64 1]
theorem parL_isL : ∀ {b : List Nat} {star : Bool} {L : List (Nat × Bool)}, parL star b = some L → ∀ p ∈ L, isL p.1 = true
  | [], true, L, h, p, hp => by cases h
  | [], false, L, h, p, hp => by
    have : L = [] := (Option.some.inj h).symm
    rw [this] at hp
    cases hp
  | c :: r, star, L, h, p, hp => by
    have hh : parL star (c :: r) = if c = 42 ∧ star = false then parL true r else if isL c = true then (parL false r).map ((c, star) :: ·) else none := by cases star <;> rfl
    rw [hh] at h
    split at h
    · exact parL_isL h p hp
    · split at h
      · rename_i hc
        cases hq : parL false r with
        | none => rw [hq] at h; cases h
        | some M =>
          rw [hq] at h
          have : L = (c, star) :: M := (Option.some.inj h).symm
          rw [this] at hp
          rcases List.mem_cons.1 hp with rfl | hp
          · exact hc
          · exact parL_isL hq p hp
      · cases h
theorem shP_isL {b : List Nat} {L : List (Nat × Bool)} (h : shP b = some L) : ∀ p ∈ L, isL p.1 = true := by
  unfold shP at h
  split at h
  · exact parL_isL h
  · cases h
theorem listP_len {c : Nat} {x : It} {b : List Nat} (hw : WI x) (h : listP c x = some b) : b.length ≤ 14000 := by
  have key : ∀ (k : List It) (b : List Nat), (∀ x ∈ k, WI x) → catP c k = some b → b.length ≤ 210 * k.length := by
    intro k
    induction k with
    | nil => intro b _ h; cases h; exact Nat.zero_le _
    | cons x k ih =>
      intro b hk h
      rw [catP] at h
      cases h1 : oneP c x with
      | none => rw [h1] at h; cases h
      | some b1 =>
        cases h2 : catP c k with
        | none => rw [h1, h2] at h; cases h
        | some b2 =>
          rw [h1, h2] at h
          cases h
          have a1 := oneP_len (hk x (List.mem_cons_self ..)) h1
          have a2 := ih b2 (fun y hy => hk y (List.mem_cons_of_mem _ hy)) h2
          rw [List.length_append, List.length_cons]
          omega
  cases hw with
  | mk n s l k hn hl hy hs hk hx =>
    rw [listP_mk] at h
    split at h
    · rename_i h2
      cases hq : catP c k with
      | none => rw [hq] at h; cases h
      | some b2 =>
        rw [hq] at h
        cases h
        have := key k b2 hx hq
        have := numN_len10 (show k.length < 18446744073709551616 by omega)
        rw [List.length_append]
        omega
    · cases h
theorem one1_len {p : (Nat × Bool) × It} {b : List Nat} (hw : WI p.2) (h : one1 p = some b) : b.length ≤ 14000 := by
  obtain ⟨⟨c, m⟩, x⟩ := p
  cases m with
  | true => exact listP_len hw h
  | false => exact Nat.le_trans (oneP_len hw h) (by decide)
theorem plain_flt (e : Int) : ∀ u b, AM.pan (fltV e) false = .pan u b → plain u = true := fun u b h => by cases h; rfl
structure PrSt (L : List (Nat × Bool)) (l : List It) where
  j : Nat
  R : List Nat
  hj : j ≤ l.length
  hR : catF one1 ((L.zip l).take j) = some R
  hl : R.length ≤ 14000 * j
theorem print_ok (s : ByteArray) (l : List It) (hn : s.size ≤ 60) (hl : l.length ≤ 1000) (hw : ∀ x ∈ l, WI x) : ACalls Try.prog 10 [str s, itsV l] [] (Ret (prR (printS (byL s) l))) := by
  refine acalls_of_awpU [] hT mixed Try.func10 rfl (by kernel_rfl) (by kernel_rfl) (Nat.le_of_ble_eq_true rfl) ?_
  refine callS (wparts_ok s hn) [] True.intro rfl ?_
  rintro E G ⟨rfl, X, Y, ok, h1, h2, rfl, h3, h4⟩ _
  refine ⟨_, _, rfl, rfl, ?_⟩
  cases ok with
  | false =>
    have hp : printS (byL s) l = none := by unfold printS; rw [h4 rfl]; rfl
    rw [hp]
    refine callBad (check_no 1) rfl ?_
    refine acallsD_of_rec hT mixed Try.func19 rfl (by kernel_rfl) (by kernel_rfl) rfl rfl rfl (plain_flt 1) (Nat.le_of_ble_eq_true rfl) ?_
    exact ⟨rfl, [.row [i64 1]], _, ⟨⟨_, rfl, rfl⟩, ⟨.inl rfl, True.intro⟩, Nat.le_refl 1, rfl⟩, True.intro, [], _, ⟨⟨_, rfl, rfl⟩, True.intro, Nat.zero_le _, rfl⟩, rfl, rfl⟩
  | true =>
    have hsh := h3 rfl
    have hzl : (X.zip Y).length = X.length := by rw [List.length_zip]; omega
    refine fork (fun g => ?_) (fun g => ?_)
    · have hlen : X.length = l.length := by
        have : (X.length : Int) = (l.length : Int) := beq_iff_eq.1 g
        omega
      have hp : printS (byL s) l = catF one1 ((X.zip Y).zip l) := by unfold printS; rw [hsh]; show prtP _ _ = _; unfold prtP; rw [if_pos (by rw [hzl]; exact hlen)]
      rw [hp]
      refine callP (check_yes 1) rfl rfl ?_
      refine loopG (α := PrSt (X.zip Y) l) (fun z => [(4, str ⟨#[]⟩), (5, .ptr 0 0), (6, v8 X), (7, vbo Y), (9, .ptr 1 0), (29, itsV l), (30, i64 l.length), (31, i64 (z.j : Nat))]) (fun z => [.row [i64 0], .row [.slc 2 0 z.R.length 1], .row (z.R.map u8n)]) [⟨19, [], [.ptr 0 0]⟩] (fun z => l.length - z.j)
        ⟨0, [], Nat.zero_le _, rfl, Nat.zero_le _⟩ [.cell 1 0 1] [0, 1, 2] ⟨⟨rfl, rfl, rfl, rfl, rfl, rfl, rfl, rfl, True.intro⟩, ⟨.inl rfl, .inl rfl, .inl rfl, True.intro⟩, rfl, rfl, rfl⟩ ?_
      rintro ⟨j, R, hj, hR, hRl⟩ K hK
      have hinc : wrp .i64 ((j : Int) + 1) = ((j + 1 : Nat) : Int) := by rw [wrpE, wi64]; omega
      refine forkD (fun h => ?_) (fun h => ?_)
      · have hjl : j < l.length := by have : (j : Int) < (l.length : Int) := h; omega
        obtain ⟨x, hx⟩ : ∃ x, l[j]? = some x := ⟨_, List.getElem?_eq_getElem hjl⟩
        obtain ⟨c, hc⟩ : ∃ c, X[j]? = some c := ⟨_, List.getElem?_eq_getElem (by omega)⟩
        obtain ⟨m, hm⟩ : ∃ m, Y[j]? = some m := ⟨_, List.getElem?_eq_getElem (by omega)⟩
        have hz : (X.zip Y)[j]? = some (c, m) := List.getElem?_zip_eq_some.2 ⟨hc, hm⟩
        have hzz : ((X.zip Y).zip l)[j]? = some ((c, m), x) := List.getElem?_zip_eq_some.2 ⟨hz, hx⟩
        have hL := shP_isL hsh (c, m) (List.mem_of_getElem? hz)
        have hwx := hw x (List.mem_of_getElem? hx)
        have hcat : ∀ b2, one1 ((c, m), x) = some b2 → catF one1 (((X.zip Y).zip l).take (j + 1)) = some (R ++ b2) := fun b2 h2 => by rw [take_snocA hzz, catF_snoc, hR, h2]; rfl
        have hbj : (0 : Int) ≤ (j : Nat) ∧ ((j : Nat) : Int) < (l.length : Nat) := by omega
        have hbX : (0 : Int) ≤ (j : Nat) ∧ ((j : Nat) : Int) < (X.length : Nat) := by omega
        have hbY : (0 : Int) ≤ (j : Nat) ∧ ((j : Nat) : Int) < (Y.length : Nat) := by omega
        have hbl : ∀ b2, one1 ((c, m), x) = some b2 → (R ++ b2).length ≤ 14000 * (j + 1) := fun b2 h2 => by rw [List.length_append]; have := one1_len (p := ((c, m), x)) hwx h2; omega
        have hmm : l.length - j = l.length - (j + 1) + 1 := by omega
        refine Ob.intro hbj ?_
        obtain ⟨n2, s2, l2, k2⟩ := x
        have hwx2 := hwx
        cases hwx2 with
        | mk _ _ _ _ w1 w2 w3 w4 w5 w6 =>
        refine optK_intro (flat_takeN itC_len hx) ?_
        refine Ob.intro hbY ?_
        refine optK_intro (nth_map hm) ?_
        cases m with
        | true =>
          have h1 := list_ok c n2 s2 l2 k2 R hL (by omega) w6 w5
          refine ⟨[0, 0, 0, 0, 0, 0, 1], [[], [], [], [1, 2], [1, 2, 3], [], [0, 1, 2, 3, 4, 5]], [0, 0, 0, 0, 0, 0, 0], [6], [[9], [6], [10], [41, 42], [43], [11], [40, 44, 45]], Ob.intro (by kernel_rfl) ?_⟩
          refine Ob.intro hbX ?_
          refine optK_intro (nth_map hc) ?_
          repeat first | refine same ?_ | refine optK_intro (nth_map hc) ?_
          refine callS h1 [1, 2] ⟨.inl rfl, .inl (by rw [renO_u8]; rfl), True.intro⟩ rfl ?_
          intro E G hE _
          cases hb2 : listP c (.mk n2 s2 l2 k2) with
          | none =>
            rw [hb2] at hE
            obtain ⟨rfl, rfl⟩ := hE
            have hno : catF one1 ((X.zip Y).zip l) = none := catF_bad hzz hb2
            rw [hno]
            refine ⟨_, [.row [i64 0], .dead, .dead, .row (itC (.mk n2 s2 l2 k2))], rfl, rfl, ?_⟩
            refine acallsD_of_rec hT mixed Try.func19 rfl (by kernel_rfl) (by kernel_rfl) rfl rfl rfl (plain_flt 1) (Nat.le_of_ble_eq_true rfl) ?_
            exact ⟨rfl, [.row [i64 1], .dead, .dead, .dead], _, ⟨⟨_, rfl, rfl⟩, ⟨.inl rfl, .inl rfl, .inl rfl, .inr rfl, True.intro⟩, Nat.le_refl 4, rfl⟩, True.intro, [], _, ⟨⟨_, rfl, rfl⟩, True.intro, Nat.zero_le _, rfl⟩, rfl, rfl⟩
          | some b2 =>
            rw [hb2] at hE
            obtain ⟨rfl, rfl⟩ := hE
            refine ⟨_, [.row [i64 0], .row [.slc 4 0 (R ++ b2).length 1], .dead, .row (itC (.mk n2 s2 l2 k2)), .row ((R ++ b2).map u8n)], rfl, by rw [renH_PH2]; rfl, ?_⟩
            repeat first | refine same ?_ | refine optK_intro (nth_map hc) ?_
            refine hK ⟨j + 1, R ++ b2, hjl, hcat b2 hb2, hbl b2 hb2⟩ [] [0, 1, 4] _ hmm ⟨⟨rfl, rfl, rfl, rfl, rfl, rfl, rfl, congrArg i64 hinc, True.intro⟩, ⟨.inl rfl, .inl rfl, .inl (by rw [renO_u8]; rfl), True.intro⟩, rfl, rfl, rfl⟩
        | false =>
          have h1 := one_ok c n2 s2 l2 k2 R hL (by omega) w1 (by omega)
          refine ⟨[0, 0, 0, 0, 0, 0, 1], [[], [], [], [1, 2], [1, 2, 3], [], [0, 1, 2, 3, 4, 5]], [0, 0, 0, 0, 0, 0, 0], [6], [[9], [6], [10], [48, 49], [50], [11], [47, 51, 52]], Ob.intro (by kernel_rfl) ?_⟩
          refine Ob.intro hbX ?_
          refine optK_intro (nth_map hc) ?_
          repeat first | refine same ?_ | refine optK_intro (nth_map hc) ?_
          refine callS h1 [1, 2] ⟨.inl rfl, .inl (by rw [renO_u8]; rfl), True.intro⟩ rfl ?_
          intro E G hE _
          cases hb2 : oneP c (.mk n2 s2 l2 k2) with
          | none =>
            rw [hb2] at hE
            obtain ⟨rfl, rfl⟩ := hE
            have hno : catF one1 ((X.zip Y).zip l) = none := catF_bad hzz hb2
            rw [hno]
            refine ⟨_, [.row [i64 0], .dead, .dead, .row (itC (.mk n2 s2 l2 k2))], rfl, rfl, ?_⟩
            refine acallsD_of_rec hT mixed Try.func19 rfl (by kernel_rfl) (by kernel_rfl) rfl rfl rfl (plain_flt 1) (Nat.le_of_ble_eq_true rfl) ?_
            exact ⟨rfl, [.row [i64 1], .dead, .dead, .dead], _, ⟨⟨_, rfl, rfl⟩, ⟨.inl rfl, .inl rfl, .inl rfl, .inr rfl, True.intro⟩, Nat.le_refl 4, rfl⟩, True.intro, [], _, ⟨⟨_, rfl, rfl⟩, True.intro, Nat.zero_le _, rfl⟩, rfl, rfl⟩
          | some b2 =>
            rw [hb2] at hE
            obtain ⟨rfl, rfl | rfl | rfl | rfl⟩ := hE
            · refine ⟨_, [.row [i64 0], .row [.slc 5 0 (R ++ b2).length 1], .dead, .row (itC (.mk n2 s2 l2 k2)), .dead, .row ((R ++ b2).map u8n)], rfl, by rw [renH_PH3]; rfl, ?_⟩
              repeat first | refine same ?_ | refine optK_intro (nth_map hc) ?_
              exact hK ⟨j + 1, R ++ b2, hjl, hcat b2 hb2, hbl b2 hb2⟩ [] [0, 1, 5] _ hmm ⟨⟨rfl, rfl, rfl, rfl, rfl, rfl, rfl, congrArg i64 hinc, True.intro⟩, ⟨.inl rfl, .inl rfl, .inl (by rw [renO_u8]; rfl), True.intro⟩, rfl, rfl, rfl⟩
            · refine ⟨_, [.row [i64 0], .row [.slc 6 0 (R ++ b2).length 1], .dead, .row (itC (.mk n2 s2 l2 k2)), .dead, .dead, .row ((R ++ b2).map u8n)], rfl, by rw [renH_PH4]; rfl, ?_⟩
              repeat first | refine same ?_ | refine optK_intro (nth_map hc) ?_
              exact hK ⟨j + 1, R ++ b2, hjl, hcat b2 hb2, hbl b2 hb2⟩ [] [0, 1, 6] _ hmm ⟨⟨rfl, rfl, rfl, rfl, rfl, rfl, rfl, congrArg i64 hinc, True.intro⟩, ⟨.inl rfl, .inl rfl, .inl (by rw [renO_u8]; rfl), True.intro⟩, rfl, rfl, rfl⟩
            · refine ⟨_, [.row [i64 0], .row [.slc 7 0 (R ++ b2).length 1], .dead, .row (itC (.mk n2 s2 l2 k2)), .dead, .dead, .dead, .row ((R ++ b2).map u8n)], rfl, by rw [renH_PH5]; rfl, ?_⟩
              repeat first | refine same ?_ | refine optK_intro (nth_map hc) ?_
              exact hK ⟨j + 1, R ++ b2, hjl, hcat b2 hb2, hbl b2 hb2⟩ [] [0, 1, 7] _ hmm ⟨⟨rfl, rfl, rfl, rfl, rfl, rfl, rfl, congrArg i64 hinc, True.intro⟩, ⟨.inl rfl, .inl rfl, .inl (by rw [renO_u8]; rfl), True.intro⟩, rfl, rfl, rfl⟩
            · refine ⟨_, [.row [i64 0], .row [.slc 8 0 (R ++ b2).length 1], .dead, .row (itC (.mk n2 s2 l2 k2)), .dead, .dead, .dead, .dead, .row ((R ++ b2).map u8n)], rfl, by rw [renH_PH6]; rfl, ?_⟩
              repeat first | refine same ?_ | refine optK_intro (nth_map hc) ?_
              exact hK ⟨j + 1, R ++ b2, hjl, hcat b2 hb2, hbl b2 hb2⟩ [] [0, 1, 8] _ hmm ⟨⟨rfl, rfl, rfl, rfl, rfl, rfl, rfl, congrArg i64 hinc, True.intro⟩, ⟨.inl rfl, .inl rfl, .inl (by rw [renO_u8]; rfl), True.intro⟩, rfl, rfl, rfl⟩
      · have hjl : j = l.length := by have : ¬ (j : Int) < (l.length : Int) := h; omega
        rw [hjl, List.take_of_length_le (by rw [List.length_zip, hzl]; omega)] at hR
        rw [hR]
        refine optK_intro (a := R.map u8n) (src_all rfl (by rw [List.length_map])) ?_
        refine optK_intro (a := R.map UInt8.ofNat) (textA_u8 R) ?_
        refine acallsD_of_rec hT mixed Try.func19 rfl (by kernel_rfl) (by kernel_rfl) rfl rfl rfl (fun u b h => by cases h) (Nat.le_of_ble_eq_true rfl) ?_
        exact ⟨rfl, [.row [i64 0], .dead, .dead], _, ⟨⟨_, rfl, rfl⟩, ⟨.inl rfl, .inr rfl, .inr rfl, True.intro⟩, Nat.le_refl 3, rfl⟩, True.intro, [], _, ⟨⟨_, rfl, rfl⟩, True.intro, Nat.zero_le _, rfl⟩, rfl, rfl⟩
    · have hne : X.length ≠ l.length := fun e => by
        have : (X.length : Int) ≠ (l.length : Int) := beq_eq_false_iff_ne.1 g
        omega
      have hp : printS (byL s) l = none := by unfold printS; rw [hsh]; show prtP _ _ = none; unfold prtP; rw [if_neg (by rw [hzl]; exact hne)]
      rw [hp]
      refine callBad (check_no 1) rfl ?_
      refine acallsD_of_rec hT mixed Try.func19 rfl (by kernel_rfl) (by kernel_rfl) rfl rfl rfl (plain_flt 1) (Nat.le_of_ble_eq_true rfl) ?_
      exact ⟨rfl, [.row [i64 1]], _, ⟨⟨_, rfl, rfl⟩, ⟨.inl rfl, True.intro⟩, Nat.le_refl 1, rfl⟩, True.intro, [], _, ⟨⟨_, rfl, rfl⟩, True.intro, Nat.zero_le _, rfl⟩, rfl, rfl⟩
end Go.Proofs.Ythebddjpnkimjaa.A
