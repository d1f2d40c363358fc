/- record: Unrights. No condition. -/
import Derived.Test.YtkbpddejafdmdaaGreatRr
import Derived.Test.YtkbpddejafdmdaaGreatRl
namespace Go.Proofs.YtkbpddejafdmdaaGreat.A
open Go
set_option linter.unusedVariables false
set_option linter.unusedSimpArgs false
set_option maxRecDepth 100000
set_option pp.maxSteps 400

theorem sh_nn : shP [110, 110] = some [(110, false), (110, false)] := by decide
/-- Two masks that bytes begin with. -/
def prP (t : ByteArray) : Option ((Nat × Nat) × Nat) :=
  match begP [110, 110] t with
  | .ok [.mk a _ _ _, .mk b _ _ _] m => some ((a, b), m)
  | _ => none
theorem prP_le {t : ByteArray} {w : Nat × Nat} {m : Nat} (h : prP t = some (w, m)) : 0 < m ∧ m ≤ t.size := by
  unfold prP at h
  cases hp : begP [110, 110] t with
  | err e => rw [hp] at h; cases h
  | ok l j =>
    rw [hp] at h
    have h1 := begP_pos sh_nn hp
    have h2 := begP_le hp
    match l, h with
    | [.mk g _ _ _, .mk _ k _ _], h =>
      cases h
      exact ⟨h1, h2⟩
noncomputable def loadsB (tags : Nat) (g : Rg) : Bool := @decide (Loads (tags : Nat) (plusL g) (minusL g)) (Classical.propDecidable _)
noncomputable def unrP (s : ByteArray) : Option (Nat × Rg) :=
  match hdP 5 s with
  | none => none
  | some (q, m) => match manyP prP (rest s m).size (rest s m) with
    | none => none
    | some g => if loadsB q g = true then some (q, g) else none
def unrH (tags : Nat) (g : Rg) : Heap := [.dead, .dead, .dead, .dead, .dead, .row (rgC g), .row [i64 (tags : Nat), .slc 5 0 g.length 2]]
theorem belowH_unr (tags : Nat) (g : Rg) : belowH 7 (unrH tags g) = true := by
  have h : belowL 7 (rgC g) = true := belowL_rg 7 g
  simp only [unrH, belowH, belowO, h]
  rfl
def UrR (o : Option (Nat × Rg)) : AEnd → Heap → Prop := fun E G => match o with
  | some (q, g) => E = .ret (.tup [.ptr 6 0, i64 0]) ∧ G = unrH q g
  | none => E = .ret (.tup [.sc (.pointer none), i64 4]) ∧ G = []
structure UrSt (s : ByteArray) (M : Option Rg) where
  L : Rg
  p : Nat
  n : Nat
  hn : (rest s p).size ≤ n
  hL : L.length + n ≤ 200000
  eq : M = (manyP prP n (rest s p)).map (L ++ ·)
theorem plus_snoc (L : Rg) (r : Nat × Nat) : plusL (L ++ [r]) = plusL L ++ [r.1] := by simp [plusL]
theorem minus_snoc (L : Rg) (r : Nat × Nat) : minusL (L ++ [r]) = minusL L ++ [r.2] := by simp [minusL]
theorem plus_len (L : Rg) : (plusL L).length = L.length := List.length_map ..
theorem minus_len (L : Rg) : (minusL L).length = L.length := List.length_map ..
theorem belowH_unr0 (tags : Nat) (g : Rg) : belowH 7 [.row [.sc (.int .i64 0)], .dead, .dead, .dead, .dead, .row (rgC g), .row [i64 (tags : Nat), .slc 5 0 g.length 2]] = true := by
  have h : belowL 7 (rgC g) = true := belowL_rg 7 g
  simp only [belowH, belowO, h]
  rfl
theorem unrights_ok (s : ByteArray) (hs : s.size ≤ 100000) : ACalls Tryz.prog 22 [str s] [] (UrR (unrP s)) := by
  have hc := head_ok 5 s (by decide) (by omega)
  unfold unrP
  cases hp : hdP 5 s with
  | none =>
    rw [hp] at hc
    refine acalls_of_awpU [] hT mixed Tryz.func22 rfl (by kernel_rfl) (by kernel_rfl) (Nat.le_of_ble_eq_true rfl) ?_
    refine callS hc [1] ⟨.inl rfl, True.intro⟩ rfl ?_
    rintro E G ⟨rfl, rfl⟩ _
    refine ⟨_, _, rfl, rfl, ?_⟩
    refine acallsD_of_rec hT mixed Tryz.func29 rfl (by kernel_rfl) (by kernel_rfl) rfl rfl rfl (plain_wrg) (Nat.le_of_ble_eq_true rfl) ?_
    exact ⟨rfl, [.row [i64 4], .dead], _, ⟨⟨_, rfl, rfl⟩, ⟨.inl rfl, .inl rfl, True.intro⟩, Nat.le_of_ble_eq_true rfl, rfl⟩, True.intro, [], .tup [.sc (.pointer none), i64 4], ⟨⟨_, rfl, rfl⟩, True.intro, Nat.zero_le _, rfl⟩, rfl, rfl⟩
  | some qm =>
    obtain ⟨q, m⟩ := qm
    rw [hp] at hc
    obtain ⟨hm, hq⟩ := hdP_le hp
    dsimp only
    have hM : ∃ M, M = manyP prP (rest s m).size (rest s m) := ⟨_, rfl⟩
    obtain ⟨M, hM⟩ := hM
    rw [← hM]
    refine acalls_of_awpU [] hT mixed Tryz.func22 rfl (by kernel_rfl) (by kernel_rfl) (Nat.le_of_ble_eq_true rfl) ?_
    refine callS hc [1] ⟨.inl rfl, True.intro⟩ rfl ?_
    rintro E G ⟨rfl, rfl⟩ _
    refine ⟨_, _, rfl, rfl, ?_⟩
    refine loopG (α := UrSt s M) (fun x => [(2, .sc (.pointer none)), (3, .ptr 0 0), (4, .ptr 1 0), (5, i64 (q : Nat)), (6, .slc 2 0 x.L.length 1), (7, .slc 3 0 x.L.length 1)]) (fun x => [.row [i64 0], .row [str (rest s x.p)], .row ((plusL x.L).map u64n), .row ((minusL x.L).map u64n)]) [⟨29, [], [.ptr 0 0, i64 4]⟩] (fun x => x.n)
      ⟨[], m, (rest s m).size, Nat.le_refl _, by rw [rest_size]; simp only [List.length_nil]; omega, by rw [hM]; cases manyP prP (rest s m).size (rest s m) <;> rfl⟩ [.at_ 6 1, .at_ 7 1] [0, 1, 2, 3] ⟨⟨rfl, rfl, rfl, rfl, rfl, rfl, True.intro⟩, ⟨.inl rfl, .inl rfl, .inl rfl, .inl rfl, True.intro⟩, rfl, rfl, rfl⟩ ?_
    rintro ⟨L, p, n, hn, hL, eq⟩ K hK
    dsimp only at hn hL eq ⊢
    have hr := strEq_nilS (rest s p)
    by_cases hz : (rest s p).size = 0
    · rw [decide_eq_true hz] at hr
      rw [manyP_end hz] at eq
      have eq' : M = some L := by rw [eq]; simp
      rw [eq']
      dsimp only
      refine fork (fun g => absurd hr (by simpa using g)) (fun _ => ?_)
      have hf : ∀ (H : Heap), nth H 2 = some (.row ((plusL L).map u64n)) → nth H 3 = some (.row ((minusL L).map u64n)) → mapO (frz H 2 8) [i64 (q : Nat), .slc 2 0 L.length 1, .slc 3 0 L.length 1] = some [i64 (q : Nat), us (plusL L), us (minusL L)] := fun H h h3 => by
        have e1 : frz H 2 8 (.slc 2 0 L.length 1) = some (us (plusL L)) := frz_us3 (k := 6) h (plus_len L).symm rfl
        have e2 : frz H 2 8 (.slc 3 0 L.length 1) = some (us (minusL L)) := frz_us3 (k := 6) h3 (minus_len L).symm rfl
        simp only [mapO, e1, e2]
        rfl
      have hf0 : ∀ (H : Heap), nth H 2 = some (.row ((plusL L).map u64n)) → nth H 3 = some (.row ((minusL L).map u64n)) → mapO (frz H 0 8) [i64 (q : Nat), .slc 2 0 L.length 1, .slc 3 0 L.length 1] = some [i64 (q : Nat), us (plusL L), us (minusL L)] := fun H h h3 => by
        have e1 : frz H 0 8 (.slc 2 0 L.length 1) = some (us (plusL L)) := frz_us3 (k := 6) h (plus_len L).symm rfl
        have e2 : frz H 0 8 (.slc 3 0 L.length 1) = some (us (minusL L)) := frz_us3 (k := 6) h3 (minus_len L).symm rfl
        simp only [mapO, e1, e2]
        rfl
      by_cases hl : Loads (q : Nat) (plusL L) (minusL L)
      · have hld := load_ok q (plusL L) (minusL L) hl
        rw [zip_masks] at hld
        rw [if_pos (show loadsB q L = true from @decide_eq_true _ (Classical.propDecidable _) hl)]
        refine callCut (bs := [i64 (q : Nat), us (plusL L), us (minusL L)]) 2 (hf _ rfl rfl) ?_
        refine callH hld [] rfl True.intro rfl rfl (H' := [.row [i64 0], .row [str (rest s p)], .dead, .dead, .dead, .row (rgC L), .row [i64 (q : Nat), .slc 5 0 L.length 2]]) (by simp only [ldH, renH, renO_rg]; rfl) ?_
        refine callP must_yes rfl rfl ?_
        refine acallsD_of_rec hT mixed Tryz.func29 rfl (by kernel_rfl) (by kernel_rfl) rfl rfl rfl (fun u b h => by cases h) (Nat.le_of_ble_eq_true rfl) ?_
        exact ⟨rfl, [.row [i64 0], .dead, .dead, .dead, .dead, .row (rgC L), .row [i64 (q : Nat), .slc 5 0 L.length 2]], _, ⟨⟨_, rfl, rfl⟩, ⟨.inl rfl, .inr rfl, .inl rfl, .inl rfl, .inl rfl, .inl rfl, .inl rfl, True.intro⟩, Nat.le_of_ble_eq_true rfl, belowH_unr0 q L⟩, True.intro, unrH q L, .tup [.ptr 6 0, i64 0], ⟨⟨_, rfl, rfl⟩, ⟨.inr rfl, .inl rfl, .inl rfl, .inl rfl, .inl rfl, .inl rfl, .inl rfl, True.intro⟩, Nat.zero_le _, belowH_unr q L⟩, rfl, rfl⟩
      · have hld := loadBad_ok q (plusL L) (minusL L) (by rw [plus_len]; omega) (by rw [minus_len]; omega) hl
        have hlb : loadsB q L = false := @decide_eq_false _ (Classical.propDecidable _) hl
        rw [if_neg (show ¬ loadsB q L = true by rw [hlb]; decide)]
        refine callF hld (hf0 _ rfl rfl) rfl ?_
        refine callBad must_no rfl ?_
        refine acallsD_of_rec hT mixed Tryz.func29 rfl (by kernel_rfl) (by kernel_rfl) rfl rfl rfl (plain_wrg) (Nat.le_of_ble_eq_true rfl) ?_
        exact ⟨rfl, [.row [i64 4], .dead, .dead, .dead], _, ⟨⟨_, rfl, rfl⟩, ⟨.inl rfl, .inr rfl, .inr rfl, .inr rfl, True.intro⟩, Nat.le_of_ble_eq_true rfl, rfl⟩, True.intro, [], .tup [.sc (.pointer none), i64 4], ⟨⟨_, rfl, rfl⟩, True.intro, Nat.zero_le _, rfl⟩, rfl, rfl⟩
    · rw [decide_eq_false hz] at hr
      refine fork (fun _ => ?_) (fun g => absurd hr (by simpa using g))
      have hw := part_ok ⟨#[110, 110]⟩ (rest s p) (by decide) (by rw [rest_size]; omega)
      rw [show byL ⟨#[110, 110]⟩ = [110, 110] from rfl] at hw
      cases hbp : begP [110, 110] (rest s p) with
      | err e =>
        rw [hbp] at hw
        rw [manyP_none hz (by unfold prP; rw [hbp])] at eq
        have eq' : M = none := by rw [eq]; rfl
        rw [eq']
        dsimp only
        refine callS hw [1] ⟨.inl rfl, True.intro⟩ rfl ?_
        rintro E G ⟨rfl, rfl⟩ _
        refine ⟨_, _, rfl, rfl, ?_⟩
        refine acallsD_of_rec hT mixed Tryz.func29 rfl (by kernel_rfl) (by kernel_rfl) rfl rfl rfl (plain_wrg) (Nat.le_of_ble_eq_true rfl) ?_
        exact ⟨rfl, [.row [i64 4], .dead, .dead, .dead], _, ⟨⟨_, rfl, rfl⟩, ⟨.inl rfl, .inl rfl, .inr rfl, .inr rfl, True.intro⟩, Nat.le_of_ble_eq_true rfl, rfl⟩, True.intro, [], .tup [.sc (.pointer none), i64 4], ⟨⟨_, rfl, rfl⟩, True.intro, Nat.zero_le _, rfl⟩, rfl, rfl⟩
      | ok l k =>
        rw [hbp] at hw
        have hl := begP_length sh_nn hbp
        match l, hl with
        | [.mk a s1 l1 k1, .mk b s2 l2 k2], _ =>
          have h0 : (0 : Int) ≤ 0 ∧ (0 : Int) < ((2 : Nat) : Int) := by omega
          have h1 : (0 : Int) ≤ 1 ∧ (1 : Int) < ((2 : Nat) : Int) := by omega
          have hwp : prP (rest s p) = some ((a, b), k) := by unfold prP; rw [hbp]
          obtain ⟨hk0, hk1⟩ := prP_le hwp
          rw [rest_size] at hk1 hn hz
          obtain ⟨n, rfl⟩ : ∃ n', n = n' + 1 := ⟨n - 1, by omega⟩
          rw [manyP_some (by rw [rest_size]; exact hz) hwp, map_snoc, rest_rest] at eq
          have hob : (L.length + 1) * 8 ≤ 140737488355328 ∧ L.length + 1 ≤ 9223372036854775807 := by omega
          refine callS hw [1] ⟨.inl rfl, True.intro⟩ rfl ?_
          rintro E G ⟨rfl, rfl⟩ _
          refine ⟨_, [.row [i64 0], .row [str (rest s (p + k))], .row ((plusL L).map u64n), .row ((minusL L).map u64n)], rfl, by rw [rest_rest]; show [_, _, _, _] = _; simp only [renH, renO_us]; rfl, ?_⟩
          refine ⟨[0, 0, 0, 0, 0, 0, 1, 0, 0, 0, 0, 0, 0, 2, 2, 2], [[], [], [1], [1, 2], [1, 2, 3], [1, 2, 3, 4], [0, 1, 2, 3, 4, 5], [], [], [8], [8, 9], [8, 9, 10], [8, 9, 10, 11], [0, 1, 2, 3, 4, 5, 6, 7, 8, 9, 10, 11, 12], [0, 1, 2, 3, 4, 5, 6, 7, 8, 9, 10, 11, 12, 13], [0, 1, 2, 3, 4, 5, 6, 7, 8, 9, 10, 11, 12, 13, 14]], [0, 0, 0, 0, 0, 0, 1, 1, 1, 1, 1, 1, 1, 2, 2, 2], [6, 13], [[6], [8], [23], [24], [25], [26], [22, 27], [7], [8], [30], [31], [32], [33], [29, 34], [28], [35]], Ob.intro (by kernel_rfl) ?_⟩
          repeat first | refine same ?_ | refine Ob.intro h0 ?_ | refine Ob.intro h1 ?_
          refine Ob.intro rfl ?_
          refine optK_intro (rdN_all (cs := (plusL L).map u64n) rfl (by rw [List.length_map, plus_len]; omega)) ?_
          refine Ob.intro hob ?_
          repeat first | refine same ?_ | refine Ob.intro h0 ?_ | refine Ob.intro h1 ?_
          refine Ob.intro rfl ?_
          refine optK_intro (rdN_all (cs := (minusL L).map u64n) rfl (by rw [List.length_map, minus_len]; omega)) ?_
          refine Ob.intro hob ?_
          repeat first | refine same ?_ | refine Ob.intro h0 ?_ | refine Ob.intro h1 ?_
          refine hK ⟨L ++ [(a, b)], p + k, n, by rw [rest_size]; omega, by rw [List.length_append]; simp only [List.length_cons, List.length_nil]; omega, eq⟩ [] [0, 1, 6, 7] _ rfl ⟨⟨rfl, rfl, rfl, rfl, ?_, ?_, True.intro⟩, ⟨.inl rfl, .inl rfl, .inl ?_, .inl ?_, True.intro⟩, rfl, rfl, rfl⟩
          · show AV.slc 6 0 (L.length + 1) 1 = .slc 6 0 (L ++ [_]).length 1
            rw [List.length_append]
            rfl
          · show AV.slc 7 0 (L.length + 1) 1 = .slc 7 0 (L ++ [_]).length 1
            rw [List.length_append]
            rfl
          · show some (AObj.row ((plusL L).map u64n ++ [u64n a])) = some (renO _ (.row ((plusL (L ++ [_])).map u64n)))
            rw [renO_us, plus_snoc, List.map_append]
            rfl
          · show some (AObj.row ((minusL L).map u64n ++ [u64n b])) = some (renO _ (.row ((minusL (L ++ [_])).map u64n)))
            rw [renO_us, minus_snoc, List.map_append]
            rfl
theorem unrightsU_ok (s : ByteArray) (hs : s.size ≤ 100000) : ACalls Tryz.prog 8 [str s] [] (UrR (unrP s)) := by
  have hc := unrights_ok s hs
  cases hu : unrP s with
  | none =>
    rw [hu] at hc
    refine acalls_of_awp hT mixed Tryz.func8 rfl (by kernel_rfl) (by kernel_rfl) (Nat.le_of_ble_eq_true rfl) ?_
    refine callS hc [] True.intro rfl ?_
    rintro E G ⟨rfl, rfl⟩ _
    refine ⟨_, _, rfl, rfl, ?_⟩
    exact ⟨rfl, [], .tup [.sc (.pointer none), i64 4], ⟨⟨_, rfl, rfl⟩, True.intro, Nat.zero_le _, rfl⟩, rfl, rfl⟩
  | some qg =>
    obtain ⟨q, g⟩ := qg
    rw [hu] at hc
    refine acalls_of_awp hT mixed Tryz.func8 rfl (by kernel_rfl) (by kernel_rfl) (Nat.le_of_ble_eq_true rfl) ?_
    refine callS hc [] True.intro rfl ?_
    rintro E G ⟨rfl, rfl⟩ _
    refine ⟨_, unrH q g, rfl, by simp only [unrH, renH, renO_rg]; rfl, ?_⟩
    exact ⟨rfl, unrH q g, .tup [.ptr 6 0, i64 0], ⟨⟨_, rfl, rfl⟩, ⟨.inl rfl, .inl rfl, .inl rfl, .inl rfl, .inl rfl, .inl rfl, .inl rfl, True.intro⟩, Nat.zero_le _, belowH_unr q g⟩, rfl, rfl⟩
end Go.Proofs.YtkbpddejafdmdaaGreat.A
