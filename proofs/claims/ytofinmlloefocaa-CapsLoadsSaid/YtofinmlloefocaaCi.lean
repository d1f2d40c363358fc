/- The law CapsMore, by the functions that it calls. No condition. -/
import Derived.Test.YtofinmlloefocaaCh
namespace Go.Proofs.Ytofinmlloefocaa.A
open Go
set_option linter.unusedVariables false
set_option maxRecDepth 100000
set_option pp.maxSteps 1500

structure Dd where
  k : Int
  w : Int
  t : Int
  x : Nat
  m : Bool
def ddC (d : Dd) : List AV := [i64 d.k, i64 d.w, i64 d.t, u64 d.x, bo d.m]
def ddsC (L : List Dd) : List AV := (L.map ddC).flatten
theorem ddsC_drop : ∀ (L : List Dd) (k : Nat) (r : Dd), L[k]? = some r → (ddsC L).drop (k * 5) = ddC r ++ ddsC (L.drop (k + 1))
  | [], k, r, h => by simp at h
  | x :: L, 0, r, h => by
    simp at h
    subst h
    rfl
  | x :: L, k + 1, r, h => by
    have := ddsC_drop L k r (by simpa using h)
    show (ddC x ++ ddsC L).drop ((k + 1) * 5) = _
    rw [show (k + 1) * 5 = (ddC x).length + k * 5 by show _ = 5 + k * 5; omega, ← List.drop_drop, List.drop_left, this]
    rfl
theorem dd_take {L : List Dd} {k : Nat} {r : Dd} (h : L[k]? = some r) : takeN ((ddsC L).drop ((k : Int).toNat * 5)) 5 = some (ddC r) := by
  rw [Int.toNat_natCast, ddsC_drop L k r h, takeN_eq (by rw [List.length_append]; show 5 ≤ 5 + _; omega)]
  rw [List.take_append_of_le_length (by show 5 ≤ 5; omega)]
  rfl
theorem allC_us : ∀ l : List Nat, allC (l.map u64n) = true
  | [] => rfl
  | x :: l => by
    show (bif isC (u64n x) then allC (l.map u64n) else false) = true
    rw [allC_us l]
    rfl
theorem srcA_us (H : Heap) (l : List Nat) : srcA H 1 (us l) = some (l.map u64n) := by
  show (bif Nat.beq (l.map u64n).length (l.length * 1) then some (l.map u64n) else none) = _
  have : Nat.beq (l.map u64n).length (l.length * 1) = true := by rw [List.length_map, Nat.mul_one]; exact Nat.beq_refl _
  rw [this]
  rfl
theorem renO_us (r : Nat → Nat) (l : List Nat) : renO r (.row (l.map u64n)) = .row (l.map u64n) := by
  simp only [renO]
  rw [renL_map (fun _ _ => rfl)]
theorem frz_us {H : Heap} {i m : Nat} {l : List Nat} (h : nth H i = some (.row (l.map u64n))) (hm : Nat.blt i m = false) : frz H m 8 (.slc i 0 l.length 1) = some (us l) := by
  have h1 : rdN H i 0 (l.length * 1) = some (l.map u64n) := rdN_all h (by rw [List.length_map]; omega)
  have h2 : mapO (frz0 H m 7) (l.map u64n) = some (l.map u64n) := mapO_map (f := frz0 H m 7) (g := u64n) (h := u64n) (fun _ => rfl) l
  simp only [frz, frz0, hm, cond_false, h1, h2]
  rfl
theorem callHR {P : Program} {g : FuncId} {bs args : List AV} {v v' : AV} {Hs H : Heap} (h : ACalls P g bs Hs (RetH v Hs)) (is : List Nat) (ha : args = renL (rn is H.length) bs) (hsel : Sel H (rn is H.length) is Hs) (hn : noDup is = true)
    (hv : ren (rn is H.length) v = v') (hm : merge H is (renH (rn is H.length) Hs) = H) : ACalls P g args H (RetH v' H) := by
  subst ha
  refine callS h is hsel hn ?_
  rintro E G ⟨rfl, rfl⟩ _
  exact ⟨_, _, rfl, hm, by simp only [renE, hv], rfl⟩
theorem noView_rg : ∀ l : Rg, noViewL (rgC l) = true
  | [] => rfl
  | x :: l => by
    show (bif noView (u64 x.1) then (bif noView (u64 x.2) then noViewL (rgC l) else false) else false) = true
    rw [noView_rg l]
    rfl
/-- How far, the tags, the rights, and whether it was clear. -/
def MoreSt (n : Nat) (who : Int) (a o : List Nat) : Type := { z : Nat × Nat × Rg × Bool // z.1 ≤ 121 ∧ z.2.1 ≤ z.1 ∧ RgOk z.2.2.1 ∧ (z.2.2.2 = true → clearT z.2.2.1 who a o = true) }
theorem doTags_le {tags : Nat} {e k : Int} : doTags tags e k ≤ tags + 1 := by
  unfold doTags
  split <;> omega
theorem capsMore_big (people who : Int) (L : List Dd) (a b o : List Nat) (h : ¬ (a.length ≤ 60 ∧ b.length ≤ 60 ∧ o.length ≤ 60)) :
    ACalls Try.prog 3 [i64 people, .view L.length (ddsC L), i64 who, us a, us b, us o] [] (Ret (bo true)) := by
  refine acalls_of_awp hT mixed Try.func3 rfl (by kernel_rfl) (by kernel_rfl) (Nat.le_of_ble_eq_true rfl) ?_
  refine callP awakeC_ok rfl rfl ?_
  refine forkD (fun h1 => end0 rfl rfl rfl rfl) (fun h1 => ?_)
  refine forkD (fun h2 => end0 rfl rfl rfl rfl) (fun h2 => ?_)
  refine forkD (fun h3 => end0 rfl rfl rfl rfl) (fun h3 => by omega)
theorem capsMore_none (people who : Int) (L : List Dd) (a b o : List Nat) (h : a.length ≤ 60 ∧ b.length ≤ 60 ∧ o.length ≤ 60) (hp : people < 1 ∨ 8 < people) :
    ACalls Try.prog 3 [i64 people, .view L.length (ddsC L), i64 who, us a, us b, us o] [] (Ret (bo true)) := by
  refine acalls_of_awp hT mixed Try.func3 rfl (by kernel_rfl) (by kernel_rfl) (Nat.le_of_ble_eq_true rfl) ?_
  refine callP awakeC_ok rfl rfl ?_
  refine forkD (fun h1 => by omega) (fun h1 => ?_)
  refine forkD (fun h2 => by omega) (fun h2 => ?_)
  refine forkD (fun h3 => by omega) (fun h3 => ?_)
  refine callP (newBad_ok people hp) rfl rfl ?_
  refine end0 rfl rfl rfl rfl
theorem capsMore_ok (n : Nat) (who : Int) (L : List Dd) (a b o : List Nat) (h : a.length ≤ 60 ∧ b.length ≤ 60 ∧ o.length ≤ 60) (hp1 : 1 ≤ n) (hp8 : n ≤ 8) (hd : ∀ d ∈ L, d.x < 18446744073709551616) (ho : ∀ x ∈ o, x < 18446744073709551616) :
    ACalls Try.prog 3 [i64 n, .view L.length (ddsC L), i64 who, us a, us b, us o] [] (Ret (bo true)) := by
  refine acalls_of_awp hT mixed Try.func3 rfl (by kernel_rfl) (by kernel_rfl) (Nat.le_of_ble_eq_true rfl) ?_
  refine callP awakeC_ok rfl rfl ?_
  refine forkD (fun h1 => by omega) (fun h1 => ?_)
  refine forkD (fun h2 => by omega) (fun h2 => ?_)
  refine forkD (fun h3 => by omega) (fun h3 => ?_)
  refine callH (new_ok n hp1 hp8) [] rfl True.intro rfl rfl (H' := tabH 0 (nobody n)) (by simp only [tabH, renH, renO_rg]; rfl) ?_
  refine optK_intro (srcA_us _ a) ?_
  refine Ob.intro (allC_us a) ?_
  refine Ob.intro (show (0 + a.length) * 8 ≤ 140737488355328 ∧ 0 + a.length ≤ 9223372036854775807 by omega) ?_
  refine optK_intro (srcA_us _ b) ?_
  refine Ob.intro (allC_us b) ?_
  refine optK_intro (rdN_all (cs := a.map u64n) rfl (show (0 + a.length) * 1 = (a.map u64n).length by rw [List.length_map]; omega)) ?_
  refine Ob.intro (show (0 + a.length + b.length) * 8 ≤ 140737488355328 ∧ 0 + a.length + b.length ≤ 9223372036854775807 by omega) ?_
  refine loopI (α := MoreSt n who a o) (fun z => [(1, .view L.length (ddsC L)), (2, i64 who), (3, us a), (5, us o), (13, .ptr 1 0), (15, .slc 2 0 (a ++ b).length 1), (16, bo z.val.2.2.2), (17, i64 (z.val.1 : Nat))])
    (fun z => [.row (rgC z.val.2.2.1), tabO z.val.2.1 z.val.2.2.1, .row ((a ++ b).map u64n)]) (fun z => 121 - z.val.1)
    ⟨(0, 0, nobody n, false), Nat.zero_le _, Nat.le_refl _, ⟨by rw [nobody_len]; exact hp8, fun r hr => by rw [List.eq_of_mem_replicate hr]; decide⟩, fun hh => by cases hh⟩ [0, 1, 4] ⟨⟨rfl, rfl, rfl, rfl, rfl, ?_, rfl, rfl, True.intro⟩, ⟨.inl ?_, .inl rfl, .inl ?_, True.intro⟩, rfl, rfl, rfl⟩ ?_
  · show AV.slc 4 0 (0 + a.length + b.length) 1 = AV.slc 4 0 (a ++ b).length 1
    rw [List.length_append, Nat.zero_add]
  · rw [renO_rg]
    rfl
  · rw [renO_us, List.map_append]
    rfl
  intro z K hK
  obtain ⟨⟨i, tags, g, was⟩, hst⟩ := z
  replace hst : i ≤ 121 ∧ tags ≤ i ∧ RgOk g ∧ (was = true → clearT g who a o = true) := hst
  have hinc : wrp .i64 ((i : Int) + 1) = ((i + 1 : Nat) : Int) := by rw [wrpE, wi64]; omega
  have hg := hst.2.2.1
  have c1 := clear_ok tags g who a o hg (by omega) (by omega) ho
  have c2 := clear_ok tags g who (a ++ b) o hg (by rw [List.length_append]; omega) (by omega) ho
  have hmore : clearT g who a o = true → clearT g who (a ++ b) o = true := fun hh => clear_more hh
  have hwas := hst.2.2.2
  obtain ⟨ca, hca⟩ : ∃ ca, ca = clearT g who a o := ⟨_, rfl⟩
  obtain ⟨cb, hcb⟩ : ∃ cb, cb = clearT g who (a ++ b) o := ⟨_, rfl⟩
  rw [← hca, ← hcb] at hmore
  rw [← hca] at c1 hwas
  rw [← hcb] at c2
  have hH : deadFrom [.row (rgC g), tabO tags g, .row ((a ++ b).map u64n)] 2 = [.row (rgC g), tabO tags g, .dead] := rfl
  have c2' : ACalls Try.prog 10 [.ptr 1 0, i64 who, us (a ++ b), us o] (deadFrom [.row (rgC g), tabO tags g, .row ((a ++ b).map u64n)] 2) (RetH (bo cb) (deadFrom [.row (rgC g), tabO tags g, .row ((a ++ b).map u64n)] 2)) :=
    callHR c2 [0, 1] rfl ⟨.inl (by rw [renO_rg]; rfl), .inl rfl, True.intro⟩ rfl rfl (by simp only [tabH, renH, renO_rg]; rfl)
  have hfz : mapO (frz [.row (rgC g), tabO tags g, .row ((a ++ b).map u64n)] 2 8) [.ptr 1 0, i64 who, .slc 2 0 (a ++ b).length 1, us o] = some [.ptr 1 0, i64 who, us (a ++ b), us o] := by
    have h1 := frz_us (H := [.row (rgC g), tabO tags g, .row ((a ++ b).map u64n)]) (i := 2) (m := 2) (l := a ++ b) rfl rfl
    simp only [mapO, h1]
    rfl
  have hnv : noViewH (deadFrom [.row (rgC g), tabO tags g, .row ((a ++ b).map u64n)] 2) = true := by
    rw [hH]
    show (bif noViewL (rgC g) then _ else false) = true
    rw [noView_rg]
    rfl
  refine forkD (fun h4 => ?_) (fun h4 => end0 rfl rfl rfl rfl)
  refine forkD (fun h5 => ?_) (fun h5 => end0 rfl rfl rfl rfl)
  have h5 : (i : Int) ≤ 120 := h5
  have hdec : 121 - i = 121 - (i + 1) + 1 := by omega
  have next : ∀ w' : Bool, ca = w' → i + 1 ≤ 121 ∧ tags ≤ i + 1 ∧ RgOk g ∧ (w' = true → clearT g who a o = true) := fun w' hw => ⟨by omega, by omega, hg, fun hh => by rw [← hca, hw]; exact hh⟩
  refine callH c1 [0, 1] rfl ⟨.inl (by rw [renO_rg]; rfl), .inl rfl, True.intro⟩ rfl rfl (H' := [.row (rgC g), tabO tags g, .row ((a ++ b).map u64n)]) (by simp only [tabH, renH, renO_rg]; rfl) ?_
  refine fork (fun ga => ?_) (fun ga => ?_)
  · refine callK 2 hfz c2' rfl hnv ?_
    refine fork (fun gb => ?_) (fun gb => by rw [hmore ga] at gb; cases gb)
    refine fork (fun gw => ?_) (fun gw => ?_)
    · skip
      refine forkD (fun h6 => ?_) (fun h6 => ?_)
      · have h6' : i < L.length := by have : (i : Int) < (L.length : Int) := h6; omega
        refine forkD (fun h7 => ?_) (fun h7 => ?_)
        · obtain ⟨d, hdd⟩ : ∃ d, L[i]? = some d := ⟨_, List.getElem?_eq_getElem h6'⟩
          obtain ⟨e, hde⟩ := doA_ok tags g d.k d.w d.t d.x d.m hg (by omega) (hd d (List.mem_of_getElem? hdd))
          refine Ob.intro (show (0 : Int) ≤ (i : Nat) ∧ ((i : Nat) : Int) < (L.length : Nat) by omega) ?_
          refine optK_intro (dd_take hdd) ?_
          refine callH hde [0, 1] rfl ⟨.inl (by rw [renO_rg]; rfl), .inl rfl, True.intro⟩ rfl rfl (H' := [.row (rgC (doG tags g e d.k d.w d.t d.x d.m)), tabO (doTags tags e d.k) (doG tags g e d.k d.w d.t d.x d.m), .row ((a ++ b).map u64n)]) (by simp only [tabH, renH, renO_rg]; rfl) ?_
          refine hK ⟨(i + 1, doTags tags e d.k, doG tags g e d.k d.w d.t d.x d.m, true), by show i + 1 ≤ 121; omega, by show doTags tags e d.k ≤ i + 1; have := doTags_le (tags := tags) (e := e) (k := d.k); omega, doG_ok hg _ _ _ _ _ _ _, fun hh => clear_do ((next true ga).2.2.2 hh)⟩ [0, 1, 2] _ hdec ⟨⟨rfl, rfl, rfl, rfl, rfl, rfl, rfl, congrArg i64 hinc, True.intro⟩, ⟨.inl (by rw [renO_rg]; rfl), .inl rfl, .inl (by rw [renO_us]; rfl), True.intro⟩, rfl, rfl, rfl⟩
        · refine hK ⟨(i + 1, tags, g, true), next true ga⟩ [0, 1, 2] _ hdec ⟨⟨rfl, rfl, rfl, rfl, rfl, rfl, rfl, congrArg i64 hinc, True.intro⟩, ⟨.inl (by rw [renO_rg]; rfl), .inl rfl, .inl (by rw [renO_us]; rfl), True.intro⟩, rfl, rfl, rfl⟩
      · refine hK ⟨(i + 1, tags, g, true), next true ga⟩ [0, 1, 2] _ hdec ⟨⟨rfl, rfl, rfl, rfl, rfl, rfl, rfl, congrArg i64 hinc, True.intro⟩, ⟨.inl (by rw [renO_rg]; rfl), .inl rfl, .inl (by rw [renO_us]; rfl), True.intro⟩, rfl, rfl, rfl⟩
    · skip
      refine forkD (fun h6 => ?_) (fun h6 => ?_)
      · have h6' : i < L.length := by have : (i : Int) < (L.length : Int) := h6; omega
        refine forkD (fun h7 => ?_) (fun h7 => ?_)
        · obtain ⟨d, hdd⟩ : ∃ d, L[i]? = some d := ⟨_, List.getElem?_eq_getElem h6'⟩
          obtain ⟨e, hde⟩ := doA_ok tags g d.k d.w d.t d.x d.m hg (by omega) (hd d (List.mem_of_getElem? hdd))
          refine Ob.intro (show (0 : Int) ≤ (i : Nat) ∧ ((i : Nat) : Int) < (L.length : Nat) by omega) ?_
          refine optK_intro (dd_take hdd) ?_
          refine callH hde [0, 1] rfl ⟨.inl (by rw [renO_rg]; rfl), .inl rfl, True.intro⟩ rfl rfl (H' := [.row (rgC (doG tags g e d.k d.w d.t d.x d.m)), tabO (doTags tags e d.k) (doG tags g e d.k d.w d.t d.x d.m), .row ((a ++ b).map u64n)]) (by simp only [tabH, renH, renO_rg]; rfl) ?_
          refine hK ⟨(i + 1, doTags tags e d.k, doG tags g e d.k d.w d.t d.x d.m, true), by show i + 1 ≤ 121; omega, by show doTags tags e d.k ≤ i + 1; have := doTags_le (tags := tags) (e := e) (k := d.k); omega, doG_ok hg _ _ _ _ _ _ _, fun hh => clear_do ((next true ga).2.2.2 hh)⟩ [0, 1, 2] _ hdec ⟨⟨rfl, rfl, rfl, rfl, rfl, rfl, rfl, congrArg i64 hinc, True.intro⟩, ⟨.inl (by rw [renO_rg]; rfl), .inl rfl, .inl (by rw [renO_us]; rfl), True.intro⟩, rfl, rfl, rfl⟩
        · refine hK ⟨(i + 1, tags, g, true), next true ga⟩ [0, 1, 2] _ hdec ⟨⟨rfl, rfl, rfl, rfl, rfl, rfl, rfl, congrArg i64 hinc, True.intro⟩, ⟨.inl (by rw [renO_rg]; rfl), .inl rfl, .inl (by rw [renO_us]; rfl), True.intro⟩, rfl, rfl, rfl⟩
      · refine hK ⟨(i + 1, tags, g, true), next true ga⟩ [0, 1, 2] _ hdec ⟨⟨rfl, rfl, rfl, rfl, rfl, rfl, rfl, congrArg i64 hinc, True.intro⟩, ⟨.inl (by rw [renO_rg]; rfl), .inl rfl, .inl (by rw [renO_us]; rfl), True.intro⟩, rfl, rfl, rfl⟩
  · refine callK 2 hfz c2' rfl hnv ?_
    refine fork (fun gb => ?_) (fun gb => ?_)
    · refine fork (fun gw => by rw [hwas gw] at ga; cases ga) (fun gw => ?_)
      refine forkD (fun h6 => ?_) (fun h6 => ?_)
      · have h6' : i < L.length := by have : (i : Int) < (L.length : Int) := h6; omega
        refine forkD (fun h7 => ?_) (fun h7 => ?_)
        · obtain ⟨d, hdd⟩ : ∃ d, L[i]? = some d := ⟨_, List.getElem?_eq_getElem h6'⟩
          obtain ⟨e, hde⟩ := doA_ok tags g d.k d.w d.t d.x d.m hg (by omega) (hd d (List.mem_of_getElem? hdd))
          refine Ob.intro (show (0 : Int) ≤ (i : Nat) ∧ ((i : Nat) : Int) < (L.length : Nat) by omega) ?_
          refine optK_intro (dd_take hdd) ?_
          refine callH hde [0, 1] rfl ⟨.inl (by rw [renO_rg]; rfl), .inl rfl, True.intro⟩ rfl rfl (H' := [.row (rgC (doG tags g e d.k d.w d.t d.x d.m)), tabO (doTags tags e d.k) (doG tags g e d.k d.w d.t d.x d.m), .row ((a ++ b).map u64n)]) (by simp only [tabH, renH, renO_rg]; rfl) ?_
          refine hK ⟨(i + 1, doTags tags e d.k, doG tags g e d.k d.w d.t d.x d.m, false), by show i + 1 ≤ 121; omega, by show doTags tags e d.k ≤ i + 1; have := doTags_le (tags := tags) (e := e) (k := d.k); omega, doG_ok hg _ _ _ _ _ _ _, fun hh => clear_do ((next false ga).2.2.2 hh)⟩ [0, 1, 2] _ hdec ⟨⟨rfl, rfl, rfl, rfl, rfl, rfl, rfl, congrArg i64 hinc, True.intro⟩, ⟨.inl (by rw [renO_rg]; rfl), .inl rfl, .inl (by rw [renO_us]; rfl), True.intro⟩, rfl, rfl, rfl⟩
        · refine hK ⟨(i + 1, tags, g, false), next false ga⟩ [0, 1, 2] _ hdec ⟨⟨rfl, rfl, rfl, rfl, rfl, rfl, rfl, congrArg i64 hinc, True.intro⟩, ⟨.inl (by rw [renO_rg]; rfl), .inl rfl, .inl (by rw [renO_us]; rfl), True.intro⟩, rfl, rfl, rfl⟩
      · refine hK ⟨(i + 1, tags, g, false), next false ga⟩ [0, 1, 2] _ hdec ⟨⟨rfl, rfl, rfl, rfl, rfl, rfl, rfl, congrArg i64 hinc, True.intro⟩, ⟨.inl (by rw [renO_rg]; rfl), .inl rfl, .inl (by rw [renO_us]; rfl), True.intro⟩, rfl, rfl, rfl⟩
    · refine fork (fun gw => by rw [hwas gw] at ga; cases ga) (fun gw => ?_)
      refine forkD (fun h6 => ?_) (fun h6 => ?_)
      · have h6' : i < L.length := by have : (i : Int) < (L.length : Int) := h6; omega
        refine forkD (fun h7 => ?_) (fun h7 => ?_)
        · obtain ⟨d, hdd⟩ : ∃ d, L[i]? = some d := ⟨_, List.getElem?_eq_getElem h6'⟩
          obtain ⟨e, hde⟩ := doA_ok tags g d.k d.w d.t d.x d.m hg (by omega) (hd d (List.mem_of_getElem? hdd))
          refine Ob.intro (show (0 : Int) ≤ (i : Nat) ∧ ((i : Nat) : Int) < (L.length : Nat) by omega) ?_
          refine optK_intro (dd_take hdd) ?_
          refine callH hde [0, 1] rfl ⟨.inl (by rw [renO_rg]; rfl), .inl rfl, True.intro⟩ rfl rfl (H' := [.row (rgC (doG tags g e d.k d.w d.t d.x d.m)), tabO (doTags tags e d.k) (doG tags g e d.k d.w d.t d.x d.m), .row ((a ++ b).map u64n)]) (by simp only [tabH, renH, renO_rg]; rfl) ?_
          refine hK ⟨(i + 1, doTags tags e d.k, doG tags g e d.k d.w d.t d.x d.m, false), by show i + 1 ≤ 121; omega, by show doTags tags e d.k ≤ i + 1; have := doTags_le (tags := tags) (e := e) (k := d.k); omega, doG_ok hg _ _ _ _ _ _ _, fun hh => clear_do ((next false ga).2.2.2 hh)⟩ [0, 1, 2] _ hdec ⟨⟨rfl, rfl, rfl, rfl, rfl, rfl, rfl, congrArg i64 hinc, True.intro⟩, ⟨.inl (by rw [renO_rg]; rfl), .inl rfl, .inl (by rw [renO_us]; rfl), True.intro⟩, rfl, rfl, rfl⟩
        · refine hK ⟨(i + 1, tags, g, false), next false ga⟩ [0, 1, 2] _ hdec ⟨⟨rfl, rfl, rfl, rfl, rfl, rfl, rfl, congrArg i64 hinc, True.intro⟩, ⟨.inl (by rw [renO_rg]; rfl), .inl rfl, .inl (by rw [renO_us]; rfl), True.intro⟩, rfl, rfl, rfl⟩
      · refine hK ⟨(i + 1, tags, g, false), next false ga⟩ [0, 1, 2] _ hdec ⟨⟨rfl, rfl, rfl, rfl, rfl, rfl, rfl, congrArg i64 hinc, True.intro⟩, ⟨.inl (by rw [renO_rg]; rfl), .inl rfl, .inl (by rw [renO_us]; rfl), True.intro⟩, rfl, rfl, rfl⟩
theorem wf_deeds {l : List AV} (h : Wf (.slice (.strct (.cons (.int .i64) (.cons (.int .i64) (.cons (.int .i64) (.cons (.int .u64) (.cons .bool .none))))))) l) : ∃ L : List Dd, l = [.view L.length (ddsC L)] ∧ (∀ d ∈ L, d.x < 18446744073709551616) ∧ L.length ≤ 9223372036854775807 := by
  obtain ⟨rows, rfl, hlen, hr⟩ := h
  have one : ∀ x : List AV, Wf (.strct (.cons (.int .i64) (.cons (.int .i64) (.cons (.int .i64) (.cons (.int .u64) (.cons .bool .none)))))) x → ∃ d : Dd, x = ddC d ∧ d.x < 18446744073709551616 := by
    intro x hx
    obtain ⟨x1, y1, rfl, ⟨k, rfl, _⟩, x2, y2, rfl, ⟨w, rfl, _⟩, x3, y3, rfl, ⟨t, rfl, _⟩, x4, y4, rfl, hx, x5, y5, rfl, ⟨m, rfl⟩, rfl⟩ := hx
    obtain ⟨x, rfl, hxx⟩ := wf_nat hx
    exact ⟨⟨k, w, t, x, m⟩, rfl, hxx⟩
  have key : ∀ rows : List (List AV), (∀ r ∈ rows, Wf (.strct (.cons (.int .i64) (.cons (.int .i64) (.cons (.int .i64) (.cons (.int .u64) (.cons .bool .none)))))) r) → ∃ L : List Dd, L.length = rows.length ∧ rows.flatten = ddsC L ∧ ∀ d ∈ L, d.x < 18446744073709551616 := by
    intro rows
    induction rows with
    | nil => intro _; exact ⟨[], rfl, rfl, by simp⟩
    | cons r rows ih =>
      intro hr
      obtain ⟨m, h1, h2, h3⟩ := ih fun x hx => hr x (List.mem_cons_of_mem _ hx)
      obtain ⟨x, rfl, hx⟩ := one r (hr r (List.mem_cons_self ..))
      refine ⟨x :: m, by simp [h1], by rw [List.flatten_cons, h2]; rfl, ?_⟩
      intro y hy
      rcases List.mem_cons.1 hy with rfl | hy
      · exact hx
      · exact h3 y hy
  obtain ⟨m, h1, h2, h3⟩ := key rows hr
  exact ⟨m, by rw [h1, h2], h3, by omega⟩
theorem capsMore_law (l0 : List AV) (w0 : Wf (.int .i64) l0) (l1 : List AV) (w1 : Wf (.slice (.strct (.cons (.int .i64) (.cons (.int .i64) (.cons (.int .i64) (.cons (.int .u64) (.cons .bool .none))))))) l1) (l2 : List AV) (w2 : Wf (.int .i64) l2) (l3 : List AV) (w3 : Wf (.slice (.int .u64)) l3) (l4 : List AV) (w4 : Wf (.slice (.int .u64)) l4) (l5 : List AV) (w5 : Wf (.slice (.int .u64)) l5) :
    ACalls Try.prog 3 [argA (.int .i64) l0, argA (.slice (.strct (.cons (.int .i64) (.cons (.int .i64) (.cons (.int .i64) (.cons (.int .u64) (.cons .bool .none))))))) l1, argA (.int .i64) l2, argA (.slice (.int .u64)) l3, argA (.slice (.int .u64)) l4, argA (.slice (.int .u64)) l5] [] (Ret (.sc (.bool true))) := by
  obtain ⟨people, rfl, _⟩ := w0
  obtain ⟨L, rfl, hd, hL⟩ := wf_deeds w1
  obtain ⟨who, rfl, _⟩ := w2
  obtain ⟨a, rfl, _⟩ := wf_nats w3
  obtain ⟨b, rfl, _⟩ := wf_nats w4
  obtain ⟨o, rfl, ho, _⟩ := wf_nats w5
  by_cases h : a.length ≤ 60 ∧ b.length ≤ 60 ∧ o.length ≤ 60
  · by_cases hp : people < 1 ∨ 8 < people
    · exact capsMore_none people who L a b o h hp
    · obtain ⟨n, rfl⟩ : ∃ n : Nat, people = n := ⟨people.toNat, by omega⟩
      exact capsMore_ok n who L a b o h (by omega) (by omega) hd ho
  · exact capsMore_big people who L a b o h
end Go.Proofs.Ytofinmlloefocaa.A
