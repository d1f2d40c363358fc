/- wire: lists of items are read. No condition. -/
import Derived.Test.YthebddjpnkimjaaWj
namespace Go.Proofs.Ythebddjpnkimjaa.A
open Go
set_option linter.unusedVariables false
set_option linter.unusedSimpArgs false
set_option maxRecDepth 100000
set_option pp.maxSteps 1500

def kidsN (c : Nat) (s : ByteArray) : Nat → Rs (List It)
  | 0 => .ok [] 0
  | j + 1 => match kidsN c s j with
    | .err e => .err e
    | .ok l m => match rdP c (rest s m) with
      | .err e => .err e
      | .ok x k => .ok (l ++ [x]) (m + k)
theorem kidsN_ok {c : Nat} {s : ByteArray} {j : Nat} {l : List It} {m : Nat} (h : kidsN c s j = .ok l m) : kidsN c s (j + 1) = match rdP c (rest s m) with
      | .err e => .err e
      | .ok x k => .ok (l ++ [x]) (m + k) := by
  show (match kidsN c s j with | .err e => _ | .ok l m => _) = _
  rw [h]
theorem kidsN_err {c : Nat} {s : ByteArray} {j : Nat} {e : Int} (h : kidsN c s j = .err e) : ∀ i, kidsN c s (j + i) = .err e
  | 0 => h
  | i + 1 => by
    show (match kidsN c s (j + i) with | .err e => _ | .ok l m => _) = _
    rw [kidsN_err h i]
theorem kidsN_len {c : Nat} {s : ByteArray} : ∀ {j : Nat} {l : List It} {m : Nat}, kidsN c s j = .ok l m → l.length = j
  | 0, l, m, h => by cases h; rfl
  | j + 1, l, m, h => by
    cases hq : kidsN c s j with
    | err e => rw [show kidsN c s (j + 1) = _ from kidsN_err hq 1] at h; cases h
    | ok l2 m2 =>
      rw [kidsN_ok hq] at h
      cases hr : rdP c (rest s m2) with
      | err e => rw [hr] at h; cases h
      | ok x k =>
        rw [hr] at h
        cases h
        rw [List.length_append, kidsN_len hq]
        rfl
def lstP (c : Nat) (s : ByteArray) : Rs It :=
  match cntM 64 (byL s) with
  | .err e => .err e
  | .ok n k => match kidsN c (rest s k) n with
    | .err e => .err e
    | .ok l m => .ok (.mk 0 emp [] l) (k + m)
structure PlSt (c : Nat) (s : ByteArray) (k n : Nat) where
  j : Nat
  l : List It
  m : Nat
  hj : j ≤ n
  hl : kidsN c (rest s k) j = .ok l m
theorem allC_it (x : It) : allC (itC x) = true := by
  obtain ⟨n, s, l, k⟩ := x
  rfl
theorem renL_it (r : Nat → Nat) (x : It) : renL r (itC x) = itC x := by
  obtain ⟨n, s, l, k⟩ := x
  rfl
theorem belowL_it (m : Nat) (x : It) : belowL m (itC x) = true := by
  obtain ⟨n, s, l, k⟩ := x
  rfl
theorem frz0_it (H : Heap) (m k : Nat) (x : It) : mapO (frz0 H m (k + 1)) (itC x) = some (itC x) := by
  obtain ⟨n, s, l, kk⟩ := x
  rfl
theorem renO_its (r : Nat → Nat) (l : List It) : renO r (.row (flat itC l)) = .row (flat itC l) := renO_flat renL_it r l
theorem flat_snoc (l : List It) (x : It) : flat itC l ++ itC x = flat itC (l ++ [x]) := by rw [flat_append, flat_cons, flat_nil, List.append_nil]
theorem frz_its {H : Heap} {i n m k : Nat} {L : List It} (h : nth H i = some (.row (flat itC L))) (hn : n = L.length) (hm : Nat.blt i m = false) : frz H m (k + 3) (.slc i 0 n 4) = some (itsV L) := by
  subst hn
  have h1 : rdN H i 0 (L.length * 4) = some (flat itC L) := rdN_all h (by rw [flat_len itC_len])
  have h2 : mapO (frz0 H m (k + 2)) (flat itC L) = some (flat itC L) := mapO_flat (fun x => frz0_it H m (k + 1) x) L
  simp only [frz, frz0, hm, cond_false, h1, h2]
  rfl
theorem frz_agg {H : Heap} {m k : Nat} {cs ds : List AV} (h : mapO (frz H m k) cs = some ds) : frz H m (k + 1) (.agg cs) = some (.agg ds) := by
  simp only [frz, h]
theorem EndR_it3 (n : Nat) (s : ByteArray) (k : List It) : ∀ Y e, EndR Y (.ret (.agg [u64n n, str s, nilS, itsV k])) e → EndR Y (.ret (itA (.mk n s [] k))) e := by
  have e : itA (.mk n s [] k) = .agg [u64n n, str s, us [], itsV k] := by
    show AV.agg (itC (.mk n s [] k)) = _
    rw [itC, itsC_flat]
    rfl
  rw [e]
  exact EndR_agg fun X vs h => VL_4 (fun _ h => VR_nilView h) (fun _ h => h) h
theorem plist_ok (c : Nat) (s : ByteArray) (hc : isL c = true) (hs : s.size ≤ 1000000) : ACalls Try.prog 27 [.ptr 0 0, u8n c] [.row [str s]] (RdR (lstP c s) s) := by
  have hn := pcount_ok s 64 hs (by decide)
  unfold lstP
  cases hcm : cntM 64 (byL s) with
  | err e =>
    rw [hcm] at hn
    refine acalls_of_awp hT mixed Try.func27 rfl (by kernel_rfl) (by kernel_rfl) (Nat.le_of_ble_eq_true rfl) ?_
    refine callBadS hn [0] rfl ⟨.inl rfl, True.intro⟩ rfl rfl ?_
    exact ⟨rfl, [.dead], ⟨.inl rfl, True.intro⟩, Nat.le_refl 1, rfl, rfl, rfl⟩
  | ok n k =>
    rw [hcm] at hn
    obtain ⟨hn64, hk0, hkl, _⟩ := cntM_lt hcm
    rw [byL_len] at hkl
    dsimp only
    refine ACalls.weakR (R := fun E G => match kidsN c (rest s k) n with
      | .ok l m => E = .ret (.agg [u64n 0, str emp, nilS, itsV l]) ∧ G = [.row [str (rest s (k + m))]]
      | .err e => E = .pan (fltV e) ∧ G = [.dead]) ?_ ?_
    · refine acalls_of_awp hT mixed Try.func27 rfl (by kernel_rfl) (by kernel_rfl) (Nat.le_of_ble_eq_true rfl) ?_
      refine callS hn [0] ⟨.inl rfl, True.intro⟩ rfl ?_
      rintro E G ⟨rfl, rfl⟩ _
      refine ⟨_, _, rfl, rfl, ?_⟩
      refine loopG (α := PlSt c s k n) (fun z => [(0, .ptr 0 0), (1, u8n c), (4, .ptr 1 0), (5, .ptr 2 0), (6, i64 ((n - z.j : Nat) : Int))]) (fun z => [.row [str (rest s (k + z.m))], .row [u64 0, str ⟨#[]⟩, nilS, nilS], .row [u64 0, str ⟨#[]⟩, nilS, .slc 3 0 z.l.length 4], .row (flat itC z.l)]) [] (fun z => n - z.j)
        ⟨0, [], 0, Nat.zero_le _, rfl⟩ [.cell 2 3 4] [0, 1, 2, 3] ⟨⟨rfl, rfl, rfl, rfl, rfl, True.intro⟩, ⟨.inl rfl, .inl rfl, .inl rfl, .inl rfl, True.intro⟩, rfl, rfl, rfl⟩ ?_
      rintro ⟨j, l, m, hj, hl⟩ K hK
      have hll := kidsN_len hl
      have hdec : j < n → wrp .i64 (((n - j : Nat) : Int) - 1) = ((n - (j + 1) : Nat) : Int) := fun h => by rw [wrpE, wi64]; omega
      refine forkD (fun h => ?_) (fun h => ?_)
      · have hjn : j < n := by have : ((n - j : Nat) : Int) > 0 := h; omega
        have hone := pone_ok c (rest s (k + m)) hc (by rw [rest_size]; omega)
        refine ⟨[0, 0, 0, 0, 1, 1, 2, 2, 3], [[], [0], [], [], [2, 3], [2, 3, 4], [0, 1, 2, 3, 4, 5], [0, 1, 2, 3, 4, 5, 6], [0, 1, 2, 3, 4, 5, 6, 7]], [0, 0, 0, 0, 0, 0, 1, 1, 1], [4, 6, 8], [[5], [13], [0], [1], [15, 16], [17], [14, 18], [5], [20, 19]], Ob.intro (by kernel_rfl) ?_⟩
        repeat refine same ?_
        refine callS hone [0] ⟨.inl rfl, True.intro⟩ rfl ?_
        intro E G hE _
        cases hq : rdP c (rest s (k + m)) with
        | err e =>
          rw [hq] at hE
          obtain ⟨rfl, rfl⟩ := hE
          have hbad : kidsN c (rest s k) n = .err e := by
            have h1 : kidsN c (rest s k) (j + 1) = .err e := by rw [kidsN_ok hl, rest_rest, hq]
            have := kidsN_err h1 (n - (j + 1))
            rw [show j + 1 + (n - (j + 1)) = n by omega] at this
            exact this
          rw [hbad]
          refine ⟨_, _, rfl, rfl, ?_⟩
          exact ⟨rfl, [.dead], ⟨.inl rfl, True.intro⟩, Nat.le_refl 1, rfl, rfl, rfl⟩
        | ok x kk =>
          rw [hq] at hE
          obtain ⟨rfl, rfl⟩ := hE
          have hnext : kidsN c (rest s k) (j + 1) = .ok (l ++ [x]) (m + kk) := by rw [kidsN_ok hl, rest_rest, hq]
          obtain ⟨n2, s2, l2, k2⟩ := x
          refine ⟨.ret (.agg [u64n n2, str s2, us l2, .view k2.length (itsC k2)]), [.row [str (rest s (k + m + kk))], .row [u64 0, str ⟨#[]⟩, nilS, nilS], .row [u64 0, str ⟨#[]⟩, nilS, .slc 3 0 l.length 4], .row (flat itC l), .dead], rfl, by rw [rest_rest]; rfl, ?_⟩
          repeat refine same ?_
          refine Ob.intro rfl ?_
          refine optK_intro (rdN_all (cs := flat itC l) rfl (by rw [flat_len itC_len])) ?_
          refine Ob.intro (show (l.length + 1) * 72 ≤ 140737488355328 ∧ l.length + 1 ≤ 9223372036854775807 by omega) ?_
          repeat refine same ?_
          refine hK ⟨j + 1, l ++ [.mk n2 s2 l2 k2], m + kk, hjn, hnext⟩ [] [0, 1, 2, 5] _ (show n - j = n - (j + 1) + 1 by omega) ⟨⟨rfl, rfl, rfl, rfl, congrArg i64 (hdec hjn), True.intro⟩, ⟨.inl (by rw [← Nat.add_assoc]; rfl), .inl rfl, .inl ?_, .inl ?_, True.intro⟩, rfl, rfl, rfl⟩
          · show some (AObj.row [u64 0, str ⟨#[]⟩, nilS, .slc 5 0 (l.length + 1) 4]) = some (renO _ (.row [u64 0, str ⟨#[]⟩, nilS, .slc 3 0 (l ++ [It.mk n2 s2 l2 k2]).length 4]))
            rw [List.length_append]
            rfl
          · show some (AObj.row (flat itC l ++ itC (.mk n2 s2 l2 k2))) = some (renO _ (.row (flat itC (l ++ [It.mk n2 s2 l2 k2]))))
            rw [renO_its, flat_snoc]
      · have hjn : j = n := by have : ¬ ((n - j : Nat) : Int) > 0 := h; omega
        subst hjn
        rw [hl]
        have hf : frz [.row [str (rest s (k + m))], .row [u64 0, str ⟨#[]⟩, nilS, .slc 3 0 l.length 4], .row [u64 0, str ⟨#[]⟩, nilS, .slc 3 0 l.length 4], .row (flat itC l)] 1 7 (.slc 3 0 l.length 4) = some (itsV l) := frz_its (k := 4) rfl rfl rfl
        have hf2 : frz [.row [str (rest s (k + m))], .row [u64 0, str ⟨#[]⟩, nilS, .slc 3 0 l.length 4], .row [u64 0, str ⟨#[]⟩, nilS, .slc 3 0 l.length 4], .row (flat itC l)] 1 8 (.agg [u64 0, str ⟨#[]⟩, nilS, .slc 3 0 l.length 4]) = some (.agg [u64n 0, str emp, nilS, itsV l]) := frz_agg (by simp only [mapO, hf]; rfl)
        exact ⟨rfl, [.row [str (rest s (k + m))]], _, ⟨⟨_, rfl, hf2⟩, ⟨.inl rfl, True.intro⟩, Nat.le_refl 1, rfl⟩, rfl, rfl⟩
    · intro E G hE
      cases hq : kidsN c (rest s k) n with
      | err e =>
        rw [hq] at hE
        exact ⟨E, hE, EndR_refl _⟩
      | ok l m =>
        rw [hq] at hE
        obtain ⟨rfl, rfl⟩ := hE
        exact ⟨_, ⟨rfl, rfl⟩, EndR_it3 0 emp l⟩
end Go.Proofs.Ythebddjpnkimjaa.A
