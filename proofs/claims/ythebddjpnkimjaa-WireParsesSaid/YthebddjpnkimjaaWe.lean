/- wire: lists of items are put; Print. No condition. -/
import Derived.Test.YthebddjpnkimjaaWd
namespace Go.Proofs.Ythebddjpnkimjaa.A
open Go
set_option linter.unusedVariables false
set_option maxRecDepth 100000
set_option pp.maxSteps 1500

def cat2 : Option (List Nat) → Option (List Nat) → Option (List Nat)
  | some a, some b => some (a ++ b)
  | _, _ => none
theorem cat2_assoc (a b c : Option (List Nat)) : cat2 (cat2 a b) c = cat2 a (cat2 b c) := by
  cases a <;> cases b <;> cases c <;> simp [cat2]
theorem cat2_nil (a : Option (List Nat)) : cat2 a (some []) = a := by cases a <;> simp [cat2]
theorem cat2_nil' (a : Option (List Nat)) : cat2 (some []) a = a := by cases a <;> simp [cat2]
theorem cat2_none (a : Option (List Nat)) : cat2 a none = none := by cases a <;> rfl
def catP (c : Nat) : List It → Option (List Nat)
  | [] => some []
  | x :: r => cat2 (oneP c x) (catP c r)
theorem catP_append (c : Nat) : ∀ a b : List It, catP c (a ++ b) = cat2 (catP c a) (catP c b)
  | [], b => (cat2_nil' _).symm
  | x :: a, b => by rw [List.cons_append, catP, catP_append c a b, catP, cat2_assoc]
theorem catP_snoc (c : Nat) (l : List It) (x : It) : catP c (l ++ [x]) = cat2 (catP c l) (oneP c x) := by
  rw [catP_append]
  show cat2 _ (cat2 (oneP c x) (some [])) = _
  rw [cat2_nil]
theorem catP_bad {c : Nat} {k : List It} {j : Nat} {x : It} (hx : k[j]? = some x) (h : oneP c x = none) : catP c k = none := by
  obtain ⟨h1, rfl⟩ := List.getElem?_eq_some_iff.1 hx
  have : k = k.take j ++ (k[j] :: k.drop (j + 1)) := by rw [← List.drop_eq_getElem_cons h1, List.take_append_drop]
  rw [this, catP_append, catP, h]
  show cat2 _ none = none
  exact cat2_none _
def listP (c : Nat) : It → Option (List Nat)
  | .mk n s l k => if emB n s l false false false = true ∧ k.length ≤ 64 then cat2 (some (numN k.length)) (catP c k) else none
theorem listP_mk (c n : Nat) (s : ByteArray) (l : List Nat) (k : List It) : listP c (.mk n s l k) = if emB n s l false false false = true ∧ k.length ≤ 64 then cat2 (some (numN k.length)) (catP c k) else none := rfl
/-- Items that are not too great. -/
inductive WI : It → Prop where
  | mk (n : Nat) (s : ByteArray) (l : List Nat) (k : List It) : n < 18446744073709551616 → l.length ≤ 200 → (∀ y ∈ l, y < 18446744073709551616) → s.size ≤ 1000000 → k.length ≤ 1000 → (∀ x ∈ k, WI x) → WI (.mk n s l k)
theorem packN_len {l : List Nat} : (packN l).length = 1 + 8 * l.length := by
  have := pkN_len l l.length (Nat.le_refl _)
  unfold pkN at this
  rw [List.take_length] at this
  exact this
theorem oneP_len {c : Nat} {x : It} {b : List Nat} (hw : WI x) (h : oneP c x = some b) : b.length ≤ 210 := by
  cases hw with
  | mk n s l k hn hl hy hs hk hx =>
    rw [oneP_mk] at h
    split at h
    · split at h
      · split at h
        · cases h; show 1 ≤ 210; omega
        · cases h
      · split at h
        · split at h
          · cases h
            have := numN_len10 hn
            omega
          · cases h
        · split at h
          · split at h
            · rename_i h2
              cases h
              have := numN_len10 (show s.size < 18446744073709551616 by omega)
              rw [List.length_append, byL_len]
              omega
            · cases h
          · split at h
            · split at h
              · cases h
                show (keyN n).length ≤ 210
                unfold keyN
                rw [List.length_map]
                show 8 ≤ 210
                decide
              · cases h
            · split at h
              · rename_i h2
                cases h
                rw [packN_len]
                have := rightB_len h2.2
                omega
              · cases h
    · cases h
def LstR (o : Option (List Nat)) (R : List Nat) : AEnd → Heap → Prop := fun E G =>
  match o with
  | some b => E = .ret (.tup []) ∧ G = PH 2 (R ++ b)
  | none => E = .pan (fltV 1) ∧ G = [.dead, .dead]
theorem belowH_PH2 (R : List Nat) : belowH 3 (PH 2 R) = true := by
  simp only [PH, belowH, belowO, belowL_u8, List.replicate, List.cons_append, List.nil_append]
  rfl
theorem renH_PH2 (r : Nat → Nat) (R : List Nat) : renH r (PH 2 R) = [.row [.slc (r 2) 0 R.length 1], .dead, .row (R.map u8n)] := by
  simp only [PH, renH, renO_u8, List.replicate, List.cons_append, List.nil_append]
  rfl
structure LiSt (c : Nat) (k : List It) (R0 : List Nat) where
  j : Nat
  b : List Nat
  hj : j ≤ k.length
  hb : catP c (k.take j) = some b
  hl : b.length ≤ 210 * j
theorem list_ok (c n : Nat) (s : ByteArray) (l : List Nat) (k : List It) (R : List Nat) (hc : isL c = true) (hR : R.length ≤ 900000) (hk : ∀ x ∈ k, WI x) (hkl : k.length ≤ 1000) :
    ACalls Try.prog 22 [.ptr 0 0, u8n c, itA (.mk n s l k)] (PH 1 R) (LstR (listP c (.mk n s l k)) R) := by
  have he := empty_ok n s l k false false false
  rw [listP_mk]
  generalize emB n s l false false false = q at *
  cases q with
  | false =>
    rw [if_neg (fun h => by cases h.1)]
    refine acalls_of_awp hT mixed Try.func22 rfl (by kernel_rfl) (by kernel_rfl) (Nat.le_of_ble_eq_true rfl) ?_
    refine callP he rfl rfl ?_
    refine callBad (check_no 1) rfl ?_
    exact ⟨rfl, [.dead, .dead], ⟨.inr rfl, .inr rfl, True.intro⟩, Nat.le_refl 2, rfl, rfl, rfl⟩
  | true =>
    by_cases h64 : k.length ≤ 64
    · rw [if_pos ⟨rfl, h64⟩]
      have hw : wrp .u64 (k.length : Int) = ((k.length : Nat) : Int) := by rw [wrpE, wu64]; omega
      have hnum := number_ok k.length R (by omega) (by omega)
      have hnl := numN_len10 (show k.length < 18446744073709551616 by omega)
      have harg : u64n k.length = u64 (wrp .u64 (k.length : Int)) := by rw [hw]; rfl
      rw [harg] at hnum
      refine acalls_of_awp hT mixed Try.func22 rfl (by kernel_rfl) (by kernel_rfl) (Nat.le_of_ble_eq_true rfl) ?_
      refine callP he rfl rfl ?_
      refine forkD (fun g => ?_) (fun g => absurd (show (k.length : Int) ≤ 64 by omega) g)
      refine callP (check_yes 1) rfl rfl ?_
      refine callS hnum [0, 1] ⟨.inl rfl, .inl (by rw [renO_u8]; rfl), True.intro⟩ rfl ?_
      rintro E G ⟨rfl, rfl | rfl⟩ _
      · refine ⟨_, [.row [.slc 4 0 (R ++ numN k.length).length 1], .dead, .row (itC (.mk n s l k)), .dead, .row ((R ++ numN k.length).map u8n)], rfl, by rw [renH_PH3]; rfl, ?_⟩
        refine loopI (α := LiSt c k R) (fun z => [(0, .ptr 0 0), (1, u8n c), (24, itsV k), (25, i64 k.length), (26, i64 (z.j : Nat))]) (fun z => [.row [.slc 2 0 (R ++ numN k.length ++ z.b).length 1], .dead, .row ((R ++ numN k.length ++ z.b).map u8n)]) (fun z => k.length - z.j) ⟨0, [], Nat.zero_le _, rfl, Nat.zero_le _⟩ [0, 1, 4]
          ⟨⟨rfl, rfl, congrArg (AV.view k.length) (itsC_flat k), rfl, rfl, True.intro⟩, ⟨.inl (by rw [List.append_nil]; rfl), .inl rfl, .inl (by show _ = some (renO _ (.row ((R ++ numN k.length ++ []).map u8n))); rw [renO_u8, List.append_nil]; rfl), True.intro⟩, rfl, rfl, rfl⟩ ?_
        rintro ⟨j, b, hj, hb, hbl⟩ K hK
        have hinc : wrp .i64 ((j : Int) + 1) = ((j + 1 : Nat) : Int) := by rw [wrpE, wi64]; omega
        refine forkD (fun h => ?_) (fun h => ?_)
        · have hjl : j < k.length := by have : (j : Int) < (k.length : Int) := h; omega
          obtain ⟨x, hx⟩ : ∃ x, k[j]? = some x := ⟨_, List.getElem?_eq_getElem hjl⟩
          have hcat : ∀ b2, oneP c x = some b2 → catP c (k.take (j + 1)) = some (b ++ b2) := fun b2 h2 => by rw [take_snocA hx, catP_snoc, hb, h2]; rfl
          have hwx := hk x (List.mem_of_getElem? hx)
          have hRl : (R ++ numN k.length ++ b).length ≤ 1000000 := by rw [List.length_append, List.length_append]; omega
          obtain ⟨n2, s2, l2, k2⟩ := x
          have hwx2 := hwx
          cases hwx2 with
          | mk _ _ _ _ w1 w2 w3 w4 w5 w6 =>
            have h1 := one_ok c n2 s2 l2 k2 (R ++ numN k.length ++ b) hc hRl w1 (by omega)
            refine Ob.intro (show (0 : Int) ≤ (j : Nat) ∧ ((j : Nat) : Int) < (k.length : Nat) by omega) ?_
            refine optK_intro (flat_takeN itC_len hx) ?_
            refine callS h1 [0, 2] ⟨.inl rfl, .inl (by rw [renO_u8]; rfl), True.intro⟩ rfl ?_
            intro E G hE _
            cases hb2 : oneP c (.mk n2 s2 l2 k2) with
            | none =>
              rw [hb2] at hE
              obtain ⟨rfl, rfl⟩ := hE
              have hno : cat2 (some (numN k.length)) (catP c k) = none := by rw [catP_bad hx hb2]; rfl
              rw [hno]
              refine ⟨_, [.dead, .dead, .dead, .row (itC (.mk n2 s2 l2 k2))], rfl, rfl, ?_⟩
              exact ⟨rfl, [.dead, .dead], ⟨.inl rfl, .inl rfl, True.intro⟩, Nat.le_refl 2, rfl, rfl, rfl⟩
            | some b2 =>
              rw [hb2] at hE
              obtain ⟨rfl, rfl | rfl | rfl | rfl⟩ := hE
              · refine ⟨_, [.row [.slc 5 0 (R ++ numN k.length ++ b ++ b2).length 1], .dead, .dead, .row (itC (.mk n2 s2 l2 k2)), .dead, .row ((R ++ numN k.length ++ b ++ b2).map u8n)], rfl, by rw [renH_PH3]; rfl, ?_⟩
                exact hK ⟨j + 1, b ++ b2, hjl, hcat b2 hb2, by rw [List.length_append]; have := oneP_len (hk _ (List.mem_of_getElem? hx)) hb2; omega⟩ [0, 1, 5] _ (show k.length - j = k.length - (j + 1) + 1 by omega) ⟨⟨rfl, rfl, rfl, rfl, congrArg i64 hinc, True.intro⟩, ⟨.inl (by show some (AObj.row _) = some (AObj.row _); rw [← List.append_assoc]; rfl), .inl rfl, .inl (by show _ = some (renO _ (.row ((R ++ numN k.length ++ (b ++ b2)).map u8n))); rw [renO_u8, ← List.append_assoc]; rfl), True.intro⟩, rfl, rfl, rfl⟩
              · refine ⟨_, [.row [.slc 6 0 (R ++ numN k.length ++ b ++ b2).length 1], .dead, .dead, .row (itC (.mk n2 s2 l2 k2)), .dead, .dead, .row ((R ++ numN k.length ++ b ++ b2).map u8n)], rfl, by rw [renH_PH4]; rfl, ?_⟩
                exact hK ⟨j + 1, b ++ b2, hjl, hcat b2 hb2, by rw [List.length_append]; have := oneP_len (hk _ (List.mem_of_getElem? hx)) hb2; omega⟩ [0, 1, 6] _ (show k.length - j = k.length - (j + 1) + 1 by omega) ⟨⟨rfl, rfl, rfl, rfl, congrArg i64 hinc, True.intro⟩, ⟨.inl (by show some (AObj.row _) = some (AObj.row _); rw [← List.append_assoc]; rfl), .inl rfl, .inl (by show _ = some (renO _ (.row ((R ++ numN k.length ++ (b ++ b2)).map u8n))); rw [renO_u8, ← List.append_assoc]; rfl), True.intro⟩, rfl, rfl, rfl⟩
              · refine ⟨_, [.row [.slc 7 0 (R ++ numN k.length ++ b ++ b2).length 1], .dead, .dead, .row (itC (.mk n2 s2 l2 k2)), .dead, .dead, .dead, .row ((R ++ numN k.length ++ b ++ b2).map u8n)], rfl, by rw [renH_PH5]; rfl, ?_⟩
                exact hK ⟨j + 1, b ++ b2, hjl, hcat b2 hb2, by rw [List.length_append]; have := oneP_len (hk _ (List.mem_of_getElem? hx)) hb2; omega⟩ [0, 1, 7] _ (show k.length - j = k.length - (j + 1) + 1 by omega) ⟨⟨rfl, rfl, rfl, rfl, congrArg i64 hinc, True.intro⟩, ⟨.inl (by show some (AObj.row _) = some (AObj.row _); rw [← List.append_assoc]; rfl), .inl rfl, .inl (by show _ = some (renO _ (.row ((R ++ numN k.length ++ (b ++ b2)).map u8n))); rw [renO_u8, ← List.append_assoc]; rfl), True.intro⟩, rfl, rfl, rfl⟩
              · refine ⟨_, [.row [.slc 8 0 (R ++ numN k.length ++ b ++ b2).length 1], .dead, .dead, .row (itC (.mk n2 s2 l2 k2)), .dead, .dead, .dead, .dead, .row ((R ++ numN k.length ++ b ++ b2).map u8n)], rfl, by rw [renH_PH6]; rfl, ?_⟩
                exact hK ⟨j + 1, b ++ b2, hjl, hcat b2 hb2, by rw [List.length_append]; have := oneP_len (hk _ (List.mem_of_getElem? hx)) hb2; omega⟩ [0, 1, 8] _ (show k.length - j = k.length - (j + 1) + 1 by omega) ⟨⟨rfl, rfl, rfl, rfl, congrArg i64 hinc, True.intro⟩, ⟨.inl (by show some (AObj.row _) = some (AObj.row _); rw [← List.append_assoc]; rfl), .inl rfl, .inl (by show _ = some (renO _ (.row ((R ++ numN k.length ++ (b ++ b2)).map u8n))); rw [renO_u8, ← List.append_assoc]; rfl), True.intro⟩, rfl, rfl, rfl⟩
        · have hjl : j = k.length := by have : ¬ (j : Int) < (k.length : Int) := h; omega
          rw [hjl, List.take_length] at hb
          rw [hb]
          refine ⟨rfl, PH 2 (R ++ numN k.length ++ b), .tup [], ⟨⟨_, rfl, rfl⟩, ⟨.inl rfl, .inl rfl, .inl rfl, True.intro⟩, (show 2 ≤ 3 by decide), belowH_PH2 _⟩, rfl, ?_⟩
          show PH 2 (R ++ numN k.length ++ b) = PH 2 (R ++ (numN k.length ++ b))
          rw [List.append_assoc]
      · refine ⟨_, [.row [.slc 5 0 (R ++ numN k.length).length 1], .dead, .row (itC (.mk n s l k)), .dead, .dead, .row ((R ++ numN k.length).map u8n)], rfl, by rw [renH_PH4]; rfl, ?_⟩
        refine loopI (α := LiSt c k R) (fun z => [(0, .ptr 0 0), (1, u8n c), (24, itsV k), (25, i64 k.length), (26, i64 (z.j : Nat))]) (fun z => [.row [.slc 2 0 (R ++ numN k.length ++ z.b).length 1], .dead, .row ((R ++ numN k.length ++ z.b).map u8n)]) (fun z => k.length - z.j) ⟨0, [], Nat.zero_le _, rfl, Nat.zero_le _⟩ [0, 1, 5]
          ⟨⟨rfl, rfl, congrArg (AV.view k.length) (itsC_flat k), rfl, rfl, True.intro⟩, ⟨.inl (by rw [List.append_nil]; rfl), .inl rfl, .inl (by show _ = some (renO _ (.row ((R ++ numN k.length ++ []).map u8n))); rw [renO_u8, List.append_nil]; rfl), True.intro⟩, rfl, rfl, rfl⟩ ?_
        rintro ⟨j, b, hj, hb, hbl⟩ K hK
        have hinc : wrp .i64 ((j : Int) + 1) = ((j + 1 : Nat) : Int) := by rw [wrpE, wi64]; omega
        refine forkD (fun h => ?_) (fun h => ?_)
        · have hjl : j < k.length := by have : (j : Int) < (k.length : Int) := h; omega
          obtain ⟨x, hx⟩ : ∃ x, k[j]? = some x := ⟨_, List.getElem?_eq_getElem hjl⟩
          have hcat : ∀ b2, oneP c x = some b2 → catP c (k.take (j + 1)) = some (b ++ b2) := fun b2 h2 => by rw [take_snocA hx, catP_snoc, hb, h2]; rfl
          have hwx := hk x (List.mem_of_getElem? hx)
          have hRl : (R ++ numN k.length ++ b).length ≤ 1000000 := by rw [List.length_append, List.length_append]; omega
          obtain ⟨n2, s2, l2, k2⟩ := x
          have hwx2 := hwx
          cases hwx2 with
          | mk _ _ _ _ w1 w2 w3 w4 w5 w6 =>
            have h1 := one_ok c n2 s2 l2 k2 (R ++ numN k.length ++ b) hc hRl w1 (by omega)
            refine Ob.intro (show (0 : Int) ≤ (j : Nat) ∧ ((j : Nat) : Int) < (k.length : Nat) by omega) ?_
            refine optK_intro (flat_takeN itC_len hx) ?_
            refine callS h1 [0, 2] ⟨.inl rfl, .inl (by rw [renO_u8]; rfl), True.intro⟩ rfl ?_
            intro E G hE _
            cases hb2 : oneP c (.mk n2 s2 l2 k2) with
            | none =>
              rw [hb2] at hE
              obtain ⟨rfl, rfl⟩ := hE
              have hno : cat2 (some (numN k.length)) (catP c k) = none := by rw [catP_bad hx hb2]; rfl
              rw [hno]
              refine ⟨_, [.dead, .dead, .dead, .row (itC (.mk n2 s2 l2 k2))], rfl, rfl, ?_⟩
              exact ⟨rfl, [.dead, .dead], ⟨.inl rfl, .inl rfl, True.intro⟩, Nat.le_refl 2, rfl, rfl, rfl⟩
            | some b2 =>
              rw [hb2] at hE
              obtain ⟨rfl, rfl | rfl | rfl | rfl⟩ := hE
              · refine ⟨_, [.row [.slc 5 0 (R ++ numN k.length ++ b ++ b2).length 1], .dead, .dead, .row (itC (.mk n2 s2 l2 k2)), .dead, .row ((R ++ numN k.length ++ b ++ b2).map u8n)], rfl, by rw [renH_PH3]; rfl, ?_⟩
                exact hK ⟨j + 1, b ++ b2, hjl, hcat b2 hb2, by rw [List.length_append]; have := oneP_len (hk _ (List.mem_of_getElem? hx)) hb2; omega⟩ [0, 1, 5] _ (show k.length - j = k.length - (j + 1) + 1 by omega) ⟨⟨rfl, rfl, rfl, rfl, congrArg i64 hinc, True.intro⟩, ⟨.inl (by show some (AObj.row _) = some (AObj.row _); rw [← List.append_assoc]; rfl), .inl rfl, .inl (by show _ = some (renO _ (.row ((R ++ numN k.length ++ (b ++ b2)).map u8n))); rw [renO_u8, ← List.append_assoc]; rfl), True.intro⟩, rfl, rfl, rfl⟩
              · refine ⟨_, [.row [.slc 6 0 (R ++ numN k.length ++ b ++ b2).length 1], .dead, .dead, .row (itC (.mk n2 s2 l2 k2)), .dead, .dead, .row ((R ++ numN k.length ++ b ++ b2).map u8n)], rfl, by rw [renH_PH4]; rfl, ?_⟩
                exact hK ⟨j + 1, b ++ b2, hjl, hcat b2 hb2, by rw [List.length_append]; have := oneP_len (hk _ (List.mem_of_getElem? hx)) hb2; omega⟩ [0, 1, 6] _ (show k.length - j = k.length - (j + 1) + 1 by omega) ⟨⟨rfl, rfl, rfl, rfl, congrArg i64 hinc, True.intro⟩, ⟨.inl (by show some (AObj.row _) = some (AObj.row _); rw [← List.append_assoc]; rfl), .inl rfl, .inl (by show _ = some (renO _ (.row ((R ++ numN k.length ++ (b ++ b2)).map u8n))); rw [renO_u8, ← List.append_assoc]; rfl), True.intro⟩, rfl, rfl, rfl⟩
              · refine ⟨_, [.row [.slc 7 0 (R ++ numN k.length ++ b ++ b2).length 1], .dead, .dead, .row (itC (.mk n2 s2 l2 k2)), .dead, .dead, .dead, .row ((R ++ numN k.length ++ b ++ b2).map u8n)], rfl, by rw [renH_PH5]; rfl, ?_⟩
                exact hK ⟨j + 1, b ++ b2, hjl, hcat b2 hb2, by rw [List.length_append]; have := oneP_len (hk _ (List.mem_of_getElem? hx)) hb2; omega⟩ [0, 1, 7] _ (show k.length - j = k.length - (j + 1) + 1 by omega) ⟨⟨rfl, rfl, rfl, rfl, congrArg i64 hinc, True.intro⟩, ⟨.inl (by show some (AObj.row _) = some (AObj.row _); rw [← List.append_assoc]; rfl), .inl rfl, .inl (by show _ = some (renO _ (.row ((R ++ numN k.length ++ (b ++ b2)).map u8n))); rw [renO_u8, ← List.append_assoc]; rfl), True.intro⟩, rfl, rfl, rfl⟩
              · refine ⟨_, [.row [.slc 8 0 (R ++ numN k.length ++ b ++ b2).length 1], .dead, .dead, .row (itC (.mk n2 s2 l2 k2)), .dead, .dead, .dead, .dead, .row ((R ++ numN k.length ++ b ++ b2).map u8n)], rfl, by rw [renH_PH6]; rfl, ?_⟩
                exact hK ⟨j + 1, b ++ b2, hjl, hcat b2 hb2, by rw [List.length_append]; have := oneP_len (hk _ (List.mem_of_getElem? hx)) hb2; omega⟩ [0, 1, 8] _ (show k.length - j = k.length - (j + 1) + 1 by omega) ⟨⟨rfl, rfl, rfl, rfl, congrArg i64 hinc, True.intro⟩, ⟨.inl (by show some (AObj.row _) = some (AObj.row _); rw [← List.append_assoc]; rfl), .inl rfl, .inl (by show _ = some (renO _ (.row ((R ++ numN k.length ++ (b ++ b2)).map u8n))); rw [renO_u8, ← List.append_assoc]; rfl), True.intro⟩, rfl, rfl, rfl⟩
        · have hjl : j = k.length := by have : ¬ (j : Int) < (k.length : Int) := h; omega
          rw [hjl, List.take_length] at hb
          rw [hb]
          refine ⟨rfl, PH 2 (R ++ numN k.length ++ b), .tup [], ⟨⟨_, rfl, rfl⟩, ⟨.inl rfl, .inl rfl, .inl rfl, True.intro⟩, (show 2 ≤ 3 by decide), belowH_PH2 _⟩, rfl, ?_⟩
          show PH 2 (R ++ numN k.length ++ b) = PH 2 (R ++ (numN k.length ++ b))
          rw [List.append_assoc]
    · rw [if_neg (fun h => h64 h.2)]
      refine acalls_of_awp hT mixed Try.func22 rfl (by kernel_rfl) (by kernel_rfl) (Nat.le_of_ble_eq_true rfl) ?_
      refine callP he rfl rfl ?_
      refine forkD (fun g => absurd (show k.length ≤ 64 by have : (k.length : Int) ≤ 64 := g; omega) h64) (fun g => ?_)
      refine callBad (check_no 1) rfl ?_
      exact ⟨rfl, [.dead, .dead], ⟨.inr rfl, .inr rfl, True.intro⟩, Nat.le_refl 2, rfl, rfl, rfl⟩
end Go.Proofs.Ythebddjpnkimjaa.A
