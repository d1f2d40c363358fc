/- extent: Flush (printed by genexf.py). No condition. -/
import Derived.Test.YthbncljlclcecaaDoorXl
namespace Go.Proofs.YthbncljlclcecaaDoor.A
open Go
set_option linter.unusedVariables false
set_option linter.unusedSimpArgs false
set_option maxRecDepth 100000
set_option pp.maxSteps 600
theorem renO_str (r : Nat → Nat) (d : List ByteArray) : renO r (.row (d.map str)) = .row (d.map str) := by
  rw [renO, renL_map (fun _ _ => rfl)]
theorem oS {H : Heap} {j : Nat} {r : Nat → Nat} {d : List ByteArray} {p : Prop} (h : nth H j = some (.row (d.map str))) : nth H j = some (renO r (.row (d.map str))) ∨ p := .inl (by rw [renO_str]; exact h)
theorem renM_seen (r : Nat → Nat) : ∀ S : List En, renM r (seenE S) = seenE S
  | [] => rfl
  | e :: S => by
    show (_, ren r undefA) :: renM r (seenE S) = _
    rw [renM_seen r S]
    rfl
/-- A walk through a map. -/
def itE (p c : Nat) (S : List En) : AObj := .mp ((.bool true, .tup [.mapr p, .sc (.int .i64 (c : Nat)), .sc (.int .i64 (c : Nat))]) :: seenE S)
def itX (p c : Nat) (S : List (Value × AV)) : AObj := .mp ((.bool true, .tup [.mapr p, .sc (.int .i64 (c : Nat)), .sc (.int .i64 (c : Nat))]) :: S)
theorem renO_it {r : Nat → Nat} {p : Nat} (c : Nat) (S : List En) (h : r p = p) : renO r (itE p c S) = itE p c S := by
  unfold itE
  rw [renO, renM, renM_seen]
  simp only [ren, renL, h]
theorem len_subN : ∀ {S L : List Nat}, S.Nodup → (∀ x ∈ S, x ∈ L) → S.length ≤ L.length
  | [], _, _, _ => Nat.zero_le _
  | x :: S, L, hn, hs => by
    rw [List.nodup_cons] at hn
    have h1 := hs x (List.mem_cons_self ..)
    have h2 := len_subN (S := S) (L := L.erase x) hn.2 (fun y hy => (List.mem_erase_of_ne (fun h : y = x => hn.1 (by rw [← h]; exact hy))).2 (hs y (List.mem_cons_of_mem _ hy)))
    rw [List.length_erase_of_mem h1] at h2
    have := List.length_pos_of_mem h1
    rw [List.length_cons]
    omega
/-- What has come of a map. -/
structure Fl (m : Mp) where
  S : List En
  nd : (S.map (·.2.2)).Nodup
  sub : ∀ e ∈ S, e ∈ m.L
theorem Fl.lt {m : Mp} (hok : m.ok) (z : Fl m) {x : En} (hx : x ∈ m.L) (hn : x ∉ z.S) : ((z.S ++ [x]).map (·.2.2)).Nodup ∧ z.S.length < m.L.length := by
  have h1 : ((z.S ++ [x]).map (·.2.2)).Nodup := by
    rw [List.map_append]
    refine List.nodup_append.2 ⟨z.nd, by simp, fun a ha b hb => ?_⟩
    simp only [List.map_cons, List.map_nil, List.mem_singleton] at hb
    subst hb
    obtain ⟨y, hy, rfl⟩ := List.mem_map.1 ha
    exact fun h => hn (st_inj hok.st (z.sub y hy) hx h ▸ hy)
  have h2 := len_subN (L := m.L.map (·.2.2)) h1 (fun a ha => by
    obtain ⟨y, hy, rfl⟩ := List.mem_map.1 ha
    rcases List.mem_append.1 hy with h | h
    · exact List.mem_map_of_mem (f := fun e : En => e.2.2) (z.sub y h)
    · exact List.mem_map_of_mem (f := fun e : En => e.2.2) (List.mem_singleton.1 h ▸ hx))
  rw [List.length_map, List.length_map, List.length_append] at h2
  simp only [List.length_cons, List.length_nil] at h2
  exact ⟨h1, by omega⟩
def Fl.nx {m : Mp} (hok : m.ok) (z : Fl m) {x : En} (hx : x ∈ m.L) (hn : x ∉ z.S) : Fl m := ⟨z.S ++ [x], (z.lt hok hx hn).1, fun e he => (List.mem_append.1 he).elim (z.sub e) fun h => List.mem_singleton.1 h ▸ hx⟩
/-- What is dry behind it. -/
def flE (S : List En) (d : List ByteArray) : List ByteArray := S.foldl (fun d x => d.set x.1.toNat x.2.1) d
theorem flE_snoc (S : List En) (x : En) (d : List ByteArray) : flE (S ++ [x]) d = (flE S d).set x.1.toNat x.2.1 := by unfold flE; rw [List.foldl_append]; rfl
theorem flE_len : ∀ (S : List En) (d : List ByteArray), (flE S d).length = d.length
  | [], _ => rfl
  | x :: S, d => by
    show (flE S (d.set x.1.toNat x.2.1)).length = _
    rw [flE_len S, List.length_set]
/-- An extent behind a flush. -/
def dryM (m : Mp) (d : List ByteArray) : List ByteArray := d.mapIdx fun k x => (m.get (k : Nat)).getD x
theorem getE_set (k : Nat) : ∀ (S : List En) (d : List ByteArray), (S.map (·.1)).Nodup → (∀ e ∈ S, 0 ≤ e.1) → (flE S d)[k]? = d[k]?.map fun x => (getE S (k : Nat)).getD x
  | [], d, _, _ => by
    show d[k]? = _
    cases d[k]? <;> rfl
  | e :: S, d, hn, h0 => by
    rw [List.map_cons, List.nodup_cons] at hn
    show (flE S (d.set e.1.toNat e.2.1))[k]? = _
    rw [getE_set k S _ hn.2 (fun x hx => h0 x (List.mem_cons_of_mem _ hx))]
    have he := h0 e (List.mem_cons_self ..)
    rw [show getE (e :: S) (k : Nat) = if ((k : Nat) : Int) = e.1 then some e.2.1 else getE S (k : Nat) from rfl]
    by_cases hk : ((k : Nat) : Int) = e.1
    · have hk2 : e.1.toNat = k := by omega
      rw [if_pos hk, hk2, List.getElem?_set_self']
      rw [getE_none.2 (fun x hx h' => hn.1 (by rw [← hk, ← h']; exact List.mem_map_of_mem (f := fun e : En => e.1) hx))]
      cases d[k]? <;> rfl
    · rw [if_neg hk, List.getElem?_set_ne (by omega)]
theorem getE_iff {L : List En} (hn : (L.map (·.1)).Nodup) {k : Int} {s : ByteArray} : getE L k = some s ↔ ∃ e ∈ L, e.1 = k ∧ e.2.1 = s := by
  refine ⟨fun h => ?_, fun ⟨e, he, h1, h2⟩ => by rw [← h1, ← h2]; exact getE_mem hn he⟩
  clear hn
  induction L with
  | nil => cases h
  | cons e L ih =>
    unfold getE at h
    by_cases hk : k = e.1
    · rw [if_pos hk] at h
      exact ⟨e, List.mem_cons_self .., hk.symm, by injection h⟩
    · rw [if_neg hk] at h
      obtain ⟨x, hx, h1⟩ := ih h
      exact ⟨x, List.mem_cons_of_mem _ hx, h1⟩
theorem key_inj {x y : En} : ∀ {L : List En}, (L.map (·.1)).Nodup → x ∈ L → y ∈ L → x.1 = y.1 → x = y
  | [], _, hx, _, _ => by cases hx
  | z :: L, hd, hx, hy, hxy => by
    rw [List.map_cons, List.nodup_cons] at hd
    cases hx with
    | head =>
      cases hy with
      | head => rfl
      | tail _ hy => exact absurd (hxy ▸ List.mem_map_of_mem (f := fun e : En => e.1) hy) hd.1
    | tail _ hx =>
      cases hy with
      | head => exact absurd (hxy ▸ List.mem_map_of_mem (f := fun e : En => e.1) hx) hd.1
      | tail _ hy => exact key_inj hd.2 hx hy hxy
theorem nodup_of {β γ : Type} (f : En → β) (g : En → γ) {L : List En} (hinj : ∀ x ∈ L, ∀ y ∈ L, g x = g y → f x = f y) : ∀ {S : List En}, (∀ e ∈ S, e ∈ L) → (S.map f).Nodup → (S.map g).Nodup
  | [], _, _ => List.nodup_nil
  | x :: S, hs, hn => by
    rw [List.map_cons, List.nodup_cons] at hn ⊢
    refine ⟨fun h => ?_, nodup_of f g hinj (fun e he => hs e (List.mem_cons_of_mem _ he)) hn.2⟩
    obtain ⟨y, hy, hxy⟩ := List.mem_map.1 h
    exact hn.1 (by rw [← hinj y (hs y (List.mem_cons_of_mem _ hy)) x (hs x (List.mem_cons_self ..)) hxy]; exact List.mem_map_of_mem hy)
theorem Fl.keys {m : Mp} (hok : m.ok) (z : Fl m) : (z.S.map (·.1)).Nodup := nodup_of (·.2.2) (·.1) (fun x hx y hy h => by rw [key_inj hok.ky hx hy h]) z.sub z.nd
theorem Fl.all {m : Mp} (hok : m.ok) (z : Fl m) (h0 : ∀ e ∈ m.L, 0 ≤ e.1) (hall : ∀ x ∈ m.L, x ∈ z.S) (d : List ByteArray) : flE z.S d = dryM m d := by
  refine List.ext_getElem? fun k => ?_
  have hk := z.keys hok
  rw [getE_set k z.S d hk (fun e he => h0 e (z.sub e he))]
  unfold dryM
  rw [List.getElem?_mapIdx]
  have : getE z.S (k : Nat) = m.get (k : Nat) := by
    refine Option.ext fun s => ?_
    unfold Mp.get
    rw [getE_iff hk, getE_iff hok.ky]
    exact ⟨fun ⟨e, he, h⟩ => ⟨e, z.sub e he, h⟩, fun ⟨e, he, h⟩ => ⟨e, hall e he, h⟩⟩
  rw [this]
-- CASES
theorem flush_1 (sec : Nat) (D : List (List ByteArray)) (M : List Mp) (hD : D.length = 1) (hM : M.length = 1) (e : Int) (d : List ByteArray) (m : Mp) (hd : D[e.toNat]? = some d) (hm : M[e.toNat]? = some m) (hin : inS sec 1 e 0) (hok : m.ok) (hks : ∀ x ∈ m.L, 0 ≤ x.1 ∧ x.1 < sec) (hl : d.length = sec) :
    ACalls Tryd.prog 41 [.ptr 0 0, i64 e] (Wd.mk false sec D M).H (RetH (i64 0) (Wd.mk false sec (D.set e.toNat (dryM m d)) (M.set e.toNat m.clr)).H) := by
  match D, hD, M, hM with
  | [d0], _, [m0], _ =>
  have hp := power_ok false (sec : Nat) 1 e 0
  rw [if_neg (by decide), if_pos hin] at hp
  obtain ⟨⟨h1, h2⟩, h3, h4⟩ := hin
  have he : e = 0 := by omega
  rcases he with rfl
  · cases hd; cases hm
    refine acalls_of_awp hT mixed Tryd.func41 rfl (by kernel_rfl) (by kernel_rfl) (Nat.le_of_ble_eq_true rfl) ?_
    refine callW (cs := [bo false, i64 (sec : Nat), .slc 1 0 1 1, .slc 2 0 1 1]) (rest := [i64 0, i64 0]) hp rfl rfl rfl ?_
    refine Ob.intro (show (0 : Int) ≤ 0 ∧ (0 : Int) < ((1 : Nat) : Int) from ⟨by omega, by omega⟩) ?_
    refine loopI (α := Fl m) (fun z => [(0, .ptr 0 0), (1, i64 0), (21, .ptr 5 0)]) (fun z => (Wd.mk false sec [flE z.S d] [m]).H ++ [itE 4 m.c z.S]) (fun z => m.L.length - z.S.length) ⟨[], List.nodup_nil, fun _ h => by cases h⟩ [0, 1, 2, 3, 4, 5] ⟨⟨rfl, rfl, rfl, True.intro⟩, ⟨.inl rfl, .inl rfl, .inl rfl, oS rfl, oM rfl, .inl rfl, True.intro⟩, rfl, rfl, rfl⟩ ?_
    intro z K hK
    refine nextK_of hok z.sub (fun hall => ?_) (fun x hx hn => ?_)
    · refine Ob.intro (show (0 : Int) ≤ 0 ∧ (0 : Int) < ((1 : Nat) : Int) from ⟨by omega, by omega⟩) ?_
      have hfl := z.all hok (fun e he => (hks e he).1) hall d
      exact endH rfl rfl rfl ⟨.inl rfl, .inl rfl, .inl rfl, .inl (by rw [hfl]), .inl rfl, True.intro⟩ (Nat.le_refl 5) (Wd.below _) rfl
    · have hxk := hks x hx
      refine Ob.intro rfl ?_
      refine optK_intro (entM_ent hok (S := z.S) hx) ?_
      refine Ob.intro (show (0 : Int) ≤ 0 ∧ (0 : Int) < ((1 : Nat) : Int) from ⟨by omega, by omega⟩) ?_
      refine Ob.intro (show (0 : Int) ≤ x.1 ∧ (x.1 : Int) < ((sec : Nat) : Int) from hxk) ?_
      refine wr_str (R := flE z.S d) (k := x.1.toNat) rfl rfl (by omega) (by rw [flE_len]; omega) ?_
      exact hK (z.nx hok hx hn) [0, 1, 2, 3, 4, 5] _ (by have := (z.lt hok hx hn).2; show _ = m.L.length - (z.S ++ [x]).length + 1; rw [List.length_append]; simp only [List.length_cons, List.length_nil]; omega) ⟨⟨rfl, rfl, rfl, True.intro⟩, ⟨.inl rfl, .inl rfl, .inl rfl, .inl (by rw [renO_str]; exact congrArg (fun d => some (AObj.row (d.map str))) (flE_snoc z.S x d).symm), oM rfl, .inl (by rw [renO_it _ _ rfl]; exact congrArg (fun S => some (itX 4 m.c S)) (seen_snoc z.S x)), True.intro⟩, rfl, rfl, rfl⟩
theorem flush_2 (sec : Nat) (D : List (List ByteArray)) (M : List Mp) (hD : D.length = 2) (hM : M.length = 2) (e : Int) (d : List ByteArray) (m : Mp) (hd : D[e.toNat]? = some d) (hm : M[e.toNat]? = some m) (hin : inS sec 2 e 0) (hok : m.ok) (hks : ∀ x ∈ m.L, 0 ≤ x.1 ∧ x.1 < sec) (hl : d.length = sec) :
    ACalls Tryd.prog 41 [.ptr 0 0, i64 e] (Wd.mk false sec D M).H (RetH (i64 0) (Wd.mk false sec (D.set e.toNat (dryM m d)) (M.set e.toNat m.clr)).H) := by
  match D, hD, M, hM with
  | [d0, d1], _, [m0, m1], _ =>
  have hp := power_ok false (sec : Nat) 2 e 0
  rw [if_neg (by decide), if_pos hin] at hp
  obtain ⟨⟨h1, h2⟩, h3, h4⟩ := hin
  have he : e = 0 ∨ e = 1 := by omega
  rcases he with rfl | rfl
  · cases hd; cases hm
    refine acalls_of_awp hT mixed Tryd.func41 rfl (by kernel_rfl) (by kernel_rfl) (Nat.le_of_ble_eq_true rfl) ?_
    refine callW (cs := [bo false, i64 (sec : Nat), .slc 1 0 2 1, .slc 2 0 2 1]) (rest := [i64 0, i64 0]) hp rfl rfl rfl ?_
    refine Ob.intro (show (0 : Int) ≤ 0 ∧ (0 : Int) < ((2 : Nat) : Int) from ⟨by omega, by omega⟩) ?_
    refine loopI (α := Fl m) (fun z => [(0, .ptr 0 0), (1, i64 0), (21, .ptr 7 0)]) (fun z => (Wd.mk false sec [flE z.S d, d1] [m, m1]).H ++ [itE 5 m.c z.S]) (fun z => m.L.length - z.S.length) ⟨[], List.nodup_nil, fun _ h => by cases h⟩ [0, 1, 2, 3, 4, 5, 6, 7] ⟨⟨rfl, rfl, rfl, True.intro⟩, ⟨.inl rfl, .inl rfl, .inl rfl, oS rfl, oS rfl, oM rfl, oM rfl, .inl rfl, True.intro⟩, rfl, rfl, rfl⟩ ?_
    intro z K hK
    refine nextK_of hok z.sub (fun hall => ?_) (fun x hx hn => ?_)
    · refine Ob.intro (show (0 : Int) ≤ 0 ∧ (0 : Int) < ((2 : Nat) : Int) from ⟨by omega, by omega⟩) ?_
      have hfl := z.all hok (fun e he => (hks e he).1) hall d
      exact endH rfl rfl rfl ⟨.inl rfl, .inl rfl, .inl rfl, .inl (by rw [hfl]), .inl rfl, .inl rfl, .inl rfl, True.intro⟩ (Nat.le_refl 7) (Wd.below _) rfl
    · have hxk := hks x hx
      refine Ob.intro rfl ?_
      refine optK_intro (entM_ent hok (S := z.S) hx) ?_
      refine Ob.intro (show (0 : Int) ≤ 0 ∧ (0 : Int) < ((2 : Nat) : Int) from ⟨by omega, by omega⟩) ?_
      refine Ob.intro (show (0 : Int) ≤ x.1 ∧ (x.1 : Int) < ((sec : Nat) : Int) from hxk) ?_
      refine wr_str (R := flE z.S d) (k := x.1.toNat) rfl rfl (by omega) (by rw [flE_len]; omega) ?_
      exact hK (z.nx hok hx hn) [0, 1, 2, 3, 4, 5, 6, 7] _ (by have := (z.lt hok hx hn).2; show _ = m.L.length - (z.S ++ [x]).length + 1; rw [List.length_append]; simp only [List.length_cons, List.length_nil]; omega) ⟨⟨rfl, rfl, rfl, True.intro⟩, ⟨.inl rfl, .inl rfl, .inl rfl, .inl (by rw [renO_str]; exact congrArg (fun d => some (AObj.row (d.map str))) (flE_snoc z.S x d).symm), oS rfl, oM rfl, oM rfl, .inl (by rw [renO_it _ _ rfl]; exact congrArg (fun S => some (itX 5 m.c S)) (seen_snoc z.S x)), True.intro⟩, rfl, rfl, rfl⟩
  · cases hd; cases hm
    refine acalls_of_awp hT mixed Tryd.func41 rfl (by kernel_rfl) (by kernel_rfl) (Nat.le_of_ble_eq_true rfl) ?_
    refine callW (cs := [bo false, i64 (sec : Nat), .slc 1 0 2 1, .slc 2 0 2 1]) (rest := [i64 1, i64 0]) hp rfl rfl rfl ?_
    refine Ob.intro (show (0 : Int) ≤ 1 ∧ (1 : Int) < ((2 : Nat) : Int) from ⟨by omega, by omega⟩) ?_
    refine loopI (α := Fl m) (fun z => [(0, .ptr 0 0), (1, i64 1), (21, .ptr 7 0)]) (fun z => (Wd.mk false sec [d0, flE z.S d] [m0, m]).H ++ [itE 6 m.c z.S]) (fun z => m.L.length - z.S.length) ⟨[], List.nodup_nil, fun _ h => by cases h⟩ [0, 1, 2, 3, 4, 5, 6, 7] ⟨⟨rfl, rfl, rfl, True.intro⟩, ⟨.inl rfl, .inl rfl, .inl rfl, oS rfl, oS rfl, oM rfl, oM rfl, .inl rfl, True.intro⟩, rfl, rfl, rfl⟩ ?_
    intro z K hK
    refine nextK_of hok z.sub (fun hall => ?_) (fun x hx hn => ?_)
    · refine Ob.intro (show (0 : Int) ≤ 1 ∧ (1 : Int) < ((2 : Nat) : Int) from ⟨by omega, by omega⟩) ?_
      have hfl := z.all hok (fun e he => (hks e he).1) hall d
      exact endH rfl rfl rfl ⟨.inl rfl, .inl rfl, .inl rfl, .inl rfl, .inl (by rw [hfl]), .inl rfl, .inl rfl, True.intro⟩ (Nat.le_refl 7) (Wd.below _) rfl
    · have hxk := hks x hx
      refine Ob.intro rfl ?_
      refine optK_intro (entM_ent hok (S := z.S) hx) ?_
      refine Ob.intro (show (0 : Int) ≤ 1 ∧ (1 : Int) < ((2 : Nat) : Int) from ⟨by omega, by omega⟩) ?_
      refine Ob.intro (show (0 : Int) ≤ x.1 ∧ (x.1 : Int) < ((sec : Nat) : Int) from hxk) ?_
      refine wr_str (R := flE z.S d) (k := x.1.toNat) rfl rfl (by omega) (by rw [flE_len]; omega) ?_
      exact hK (z.nx hok hx hn) [0, 1, 2, 3, 4, 5, 6, 7] _ (by have := (z.lt hok hx hn).2; show _ = m.L.length - (z.S ++ [x]).length + 1; rw [List.length_append]; simp only [List.length_cons, List.length_nil]; omega) ⟨⟨rfl, rfl, rfl, True.intro⟩, ⟨.inl rfl, .inl rfl, .inl rfl, oS rfl, .inl (by rw [renO_str]; exact congrArg (fun d => some (AObj.row (d.map str))) (flE_snoc z.S x d).symm), oM rfl, oM rfl, .inl (by rw [renO_it _ _ rfl]; exact congrArg (fun S => some (itX 6 m.c S)) (seen_snoc z.S x)), True.intro⟩, rfl, rfl, rfl⟩
theorem flush_3 (sec : Nat) (D : List (List ByteArray)) (M : List Mp) (hD : D.length = 3) (hM : M.length = 3) (e : Int) (d : List ByteArray) (m : Mp) (hd : D[e.toNat]? = some d) (hm : M[e.toNat]? = some m) (hin : inS sec 3 e 0) (hok : m.ok) (hks : ∀ x ∈ m.L, 0 ≤ x.1 ∧ x.1 < sec) (hl : d.length = sec) :
    ACalls Tryd.prog 41 [.ptr 0 0, i64 e] (Wd.mk false sec D M).H (RetH (i64 0) (Wd.mk false sec (D.set e.toNat (dryM m d)) (M.set e.toNat m.clr)).H) := by
  match D, hD, M, hM with
  | [d0, d1, d2], _, [m0, m1, m2], _ =>
  have hp := power_ok false (sec : Nat) 3 e 0
  rw [if_neg (by decide), if_pos hin] at hp
  obtain ⟨⟨h1, h2⟩, h3, h4⟩ := hin
  have he : e = 0 ∨ e = 1 ∨ e = 2 := by omega
  rcases he with rfl | rfl | rfl
  · cases hd; cases hm
    refine acalls_of_awp hT mixed Tryd.func41 rfl (by kernel_rfl) (by kernel_rfl) (Nat.le_of_ble_eq_true rfl) ?_
    refine callW (cs := [bo false, i64 (sec : Nat), .slc 1 0 3 1, .slc 2 0 3 1]) (rest := [i64 0, i64 0]) hp rfl rfl rfl ?_
    refine Ob.intro (show (0 : Int) ≤ 0 ∧ (0 : Int) < ((3 : Nat) : Int) from ⟨by omega, by omega⟩) ?_
    refine loopI (α := Fl m) (fun z => [(0, .ptr 0 0), (1, i64 0), (21, .ptr 9 0)]) (fun z => (Wd.mk false sec [flE z.S d, d1, d2] [m, m1, m2]).H ++ [itE 6 m.c z.S]) (fun z => m.L.length - z.S.length) ⟨[], List.nodup_nil, fun _ h => by cases h⟩ [0, 1, 2, 3, 4, 5, 6, 7, 8, 9] ⟨⟨rfl, rfl, rfl, True.intro⟩, ⟨.inl rfl, .inl rfl, .inl rfl, oS rfl, oS rfl, oS rfl, oM rfl, oM rfl, oM rfl, .inl rfl, True.intro⟩, rfl, rfl, rfl⟩ ?_
    intro z K hK
    refine nextK_of hok z.sub (fun hall => ?_) (fun x hx hn => ?_)
    · refine Ob.intro (show (0 : Int) ≤ 0 ∧ (0 : Int) < ((3 : Nat) : Int) from ⟨by omega, by omega⟩) ?_
      have hfl := z.all hok (fun e he => (hks e he).1) hall d
      exact endH rfl rfl rfl ⟨.inl rfl, .inl rfl, .inl rfl, .inl (by rw [hfl]), .inl rfl, .inl rfl, .inl rfl, .inl rfl, .inl rfl, True.intro⟩ (Nat.le_refl 9) (Wd.below _) rfl
    · have hxk := hks x hx
      refine Ob.intro rfl ?_
      refine optK_intro (entM_ent hok (S := z.S) hx) ?_
      refine Ob.intro (show (0 : Int) ≤ 0 ∧ (0 : Int) < ((3 : Nat) : Int) from ⟨by omega, by omega⟩) ?_
      refine Ob.intro (show (0 : Int) ≤ x.1 ∧ (x.1 : Int) < ((sec : Nat) : Int) from hxk) ?_
      refine wr_str (R := flE z.S d) (k := x.1.toNat) rfl rfl (by omega) (by rw [flE_len]; omega) ?_
      exact hK (z.nx hok hx hn) [0, 1, 2, 3, 4, 5, 6, 7, 8, 9] _ (by have := (z.lt hok hx hn).2; show _ = m.L.length - (z.S ++ [x]).length + 1; rw [List.length_append]; simp only [List.length_cons, List.length_nil]; omega) ⟨⟨rfl, rfl, rfl, True.intro⟩, ⟨.inl rfl, .inl rfl, .inl rfl, .inl (by rw [renO_str]; exact congrArg (fun d => some (AObj.row (d.map str))) (flE_snoc z.S x d).symm), oS rfl, oS rfl, oM rfl, oM rfl, oM rfl, .inl (by rw [renO_it _ _ rfl]; exact congrArg (fun S => some (itX 6 m.c S)) (seen_snoc z.S x)), True.intro⟩, rfl, rfl, rfl⟩
  · cases hd; cases hm
    refine acalls_of_awp hT mixed Tryd.func41 rfl (by kernel_rfl) (by kernel_rfl) (Nat.le_of_ble_eq_true rfl) ?_
    refine callW (cs := [bo false, i64 (sec : Nat), .slc 1 0 3 1, .slc 2 0 3 1]) (rest := [i64 1, i64 0]) hp rfl rfl rfl ?_
    refine Ob.intro (show (0 : Int) ≤ 1 ∧ (1 : Int) < ((3 : Nat) : Int) from ⟨by omega, by omega⟩) ?_
    refine loopI (α := Fl m) (fun z => [(0, .ptr 0 0), (1, i64 1), (21, .ptr 9 0)]) (fun z => (Wd.mk false sec [d0, flE z.S d, d2] [m0, m, m2]).H ++ [itE 7 m.c z.S]) (fun z => m.L.length - z.S.length) ⟨[], List.nodup_nil, fun _ h => by cases h⟩ [0, 1, 2, 3, 4, 5, 6, 7, 8, 9] ⟨⟨rfl, rfl, rfl, True.intro⟩, ⟨.inl rfl, .inl rfl, .inl rfl, oS rfl, oS rfl, oS rfl, oM rfl, oM rfl, oM rfl, .inl rfl, True.intro⟩, rfl, rfl, rfl⟩ ?_
    intro z K hK
    refine nextK_of hok z.sub (fun hall => ?_) (fun x hx hn => ?_)
    · refine Ob.intro (show (0 : Int) ≤ 1 ∧ (1 : Int) < ((3 : Nat) : Int) from ⟨by omega, by omega⟩) ?_
      have hfl := z.all hok (fun e he => (hks e he).1) hall d
      exact endH rfl rfl rfl ⟨.inl rfl, .inl rfl, .inl rfl, .inl rfl, .inl (by rw [hfl]), .inl rfl, .inl rfl, .inl rfl, .inl rfl, True.intro⟩ (Nat.le_refl 9) (Wd.below _) rfl
    · have hxk := hks x hx
      refine Ob.intro rfl ?_
      refine optK_intro (entM_ent hok (S := z.S) hx) ?_
      refine Ob.intro (show (0 : Int) ≤ 1 ∧ (1 : Int) < ((3 : Nat) : Int) from ⟨by omega, by omega⟩) ?_
      refine Ob.intro (show (0 : Int) ≤ x.1 ∧ (x.1 : Int) < ((sec : Nat) : Int) from hxk) ?_
      refine wr_str (R := flE z.S d) (k := x.1.toNat) rfl rfl (by omega) (by rw [flE_len]; omega) ?_
      exact hK (z.nx hok hx hn) [0, 1, 2, 3, 4, 5, 6, 7, 8, 9] _ (by have := (z.lt hok hx hn).2; show _ = m.L.length - (z.S ++ [x]).length + 1; rw [List.length_append]; simp only [List.length_cons, List.length_nil]; omega) ⟨⟨rfl, rfl, rfl, True.intro⟩, ⟨.inl rfl, .inl rfl, .inl rfl, oS rfl, .inl (by rw [renO_str]; exact congrArg (fun d => some (AObj.row (d.map str))) (flE_snoc z.S x d).symm), oS rfl, oM rfl, oM rfl, oM rfl, .inl (by rw [renO_it _ _ rfl]; exact congrArg (fun S => some (itX 7 m.c S)) (seen_snoc z.S x)), True.intro⟩, rfl, rfl, rfl⟩
  · cases hd; cases hm
    refine acalls_of_awp hT mixed Tryd.func41 rfl (by kernel_rfl) (by kernel_rfl) (Nat.le_of_ble_eq_true rfl) ?_
    refine callW (cs := [bo false, i64 (sec : Nat), .slc 1 0 3 1, .slc 2 0 3 1]) (rest := [i64 2, i64 0]) hp rfl rfl rfl ?_
    refine Ob.intro (show (0 : Int) ≤ 2 ∧ (2 : Int) < ((3 : Nat) : Int) from ⟨by omega, by omega⟩) ?_
    refine loopI (α := Fl m) (fun z => [(0, .ptr 0 0), (1, i64 2), (21, .ptr 9 0)]) (fun z => (Wd.mk false sec [d0, d1, flE z.S d] [m0, m1, m]).H ++ [itE 8 m.c z.S]) (fun z => m.L.length - z.S.length) ⟨[], List.nodup_nil, fun _ h => by cases h⟩ [0, 1, 2, 3, 4, 5, 6, 7, 8, 9] ⟨⟨rfl, rfl, rfl, True.intro⟩, ⟨.inl rfl, .inl rfl, .inl rfl, oS rfl, oS rfl, oS rfl, oM rfl, oM rfl, oM rfl, .inl rfl, True.intro⟩, rfl, rfl, rfl⟩ ?_
    intro z K hK
    refine nextK_of hok z.sub (fun hall => ?_) (fun x hx hn => ?_)
    · refine Ob.intro (show (0 : Int) ≤ 2 ∧ (2 : Int) < ((3 : Nat) : Int) from ⟨by omega, by omega⟩) ?_
      have hfl := z.all hok (fun e he => (hks e he).1) hall d
      exact endH rfl rfl rfl ⟨.inl rfl, .inl rfl, .inl rfl, .inl rfl, .inl rfl, .inl (by rw [hfl]), .inl rfl, .inl rfl, .inl rfl, True.intro⟩ (Nat.le_refl 9) (Wd.below _) rfl
    · have hxk := hks x hx
      refine Ob.intro rfl ?_
      refine optK_intro (entM_ent hok (S := z.S) hx) ?_
      refine Ob.intro (show (0 : Int) ≤ 2 ∧ (2 : Int) < ((3 : Nat) : Int) from ⟨by omega, by omega⟩) ?_
      refine Ob.intro (show (0 : Int) ≤ x.1 ∧ (x.1 : Int) < ((sec : Nat) : Int) from hxk) ?_
      refine wr_str (R := flE z.S d) (k := x.1.toNat) rfl rfl (by omega) (by rw [flE_len]; omega) ?_
      exact hK (z.nx hok hx hn) [0, 1, 2, 3, 4, 5, 6, 7, 8, 9] _ (by have := (z.lt hok hx hn).2; show _ = m.L.length - (z.S ++ [x]).length + 1; rw [List.length_append]; simp only [List.length_cons, List.length_nil]; omega) ⟨⟨rfl, rfl, rfl, True.intro⟩, ⟨.inl rfl, .inl rfl, .inl rfl, oS rfl, oS rfl, .inl (by rw [renO_str]; exact congrArg (fun d => some (AObj.row (d.map str))) (flE_snoc z.S x d).symm), oM rfl, oM rfl, oM rfl, .inl (by rw [renO_it _ _ rfl]; exact congrArg (fun S => some (itX 8 m.c S)) (seen_snoc z.S x)), True.intro⟩, rfl, rfl, rfl⟩
theorem flush_4 (sec : Nat) (D : List (List ByteArray)) (M : List Mp) (hD : D.length = 4) (hM : M.length = 4) (e : Int) (d : List ByteArray) (m : Mp) (hd : D[e.toNat]? = some d) (hm : M[e.toNat]? = some m) (hin : inS sec 4 e 0) (hok : m.ok) (hks : ∀ x ∈ m.L, 0 ≤ x.1 ∧ x.1 < sec) (hl : d.length = sec) :
    ACalls Tryd.prog 41 [.ptr 0 0, i64 e] (Wd.mk false sec D M).H (RetH (i64 0) (Wd.mk false sec (D.set e.toNat (dryM m d)) (M.set e.toNat m.clr)).H) := by
  match D, hD, M, hM with
  | [d0, d1, d2, d3], _, [m0, m1, m2, m3], _ =>
  have hp := power_ok false (sec : Nat) 4 e 0
  rw [if_neg (by decide), if_pos hin] at hp
  obtain ⟨⟨h1, h2⟩, h3, h4⟩ := hin
  have he : e = 0 ∨ e = 1 ∨ e = 2 ∨ e = 3 := by omega
  rcases he with rfl | rfl | rfl | rfl
  · cases hd; cases hm
    refine acalls_of_awp hT mixed Tryd.func41 rfl (by kernel_rfl) (by kernel_rfl) (Nat.le_of_ble_eq_true rfl) ?_
    refine callW (cs := [bo false, i64 (sec : Nat), .slc 1 0 4 1, .slc 2 0 4 1]) (rest := [i64 0, i64 0]) hp rfl rfl rfl ?_
    refine Ob.intro (show (0 : Int) ≤ 0 ∧ (0 : Int) < ((4 : Nat) : Int) from ⟨by omega, by omega⟩) ?_
    refine loopI (α := Fl m) (fun z => [(0, .ptr 0 0), (1, i64 0), (21, .ptr 11 0)]) (fun z => (Wd.mk false sec [flE z.S d, d1, d2, d3] [m, m1, m2, m3]).H ++ [itE 7 m.c z.S]) (fun z => m.L.length - z.S.length) ⟨[], List.nodup_nil, fun _ h => by cases h⟩ [0, 1, 2, 3, 4, 5, 6, 7, 8, 9, 10, 11] ⟨⟨rfl, rfl, rfl, True.intro⟩, ⟨.inl rfl, .inl rfl, .inl rfl, oS rfl, oS rfl, oS rfl, oS rfl, oM rfl, oM rfl, oM rfl, oM rfl, .inl rfl, True.intro⟩, rfl, rfl, rfl⟩ ?_
    intro z K hK
    refine nextK_of hok z.sub (fun hall => ?_) (fun x hx hn => ?_)
    · refine Ob.intro (show (0 : Int) ≤ 0 ∧ (0 : Int) < ((4 : Nat) : Int) from ⟨by omega, by omega⟩) ?_
      have hfl := z.all hok (fun e he => (hks e he).1) hall d
      exact endH rfl rfl rfl ⟨.inl rfl, .inl rfl, .inl rfl, .inl (by rw [hfl]), .inl rfl, .inl rfl, .inl rfl, .inl rfl, .inl rfl, .inl rfl, .inl rfl, True.intro⟩ (Nat.le_refl 11) (Wd.below _) rfl
    · have hxk := hks x hx
      refine Ob.intro rfl ?_
      refine optK_intro (entM_ent hok (S := z.S) hx) ?_
      refine Ob.intro (show (0 : Int) ≤ 0 ∧ (0 : Int) < ((4 : Nat) : Int) from ⟨by omega, by omega⟩) ?_
      refine Ob.intro (show (0 : Int) ≤ x.1 ∧ (x.1 : Int) < ((sec : Nat) : Int) from hxk) ?_
      refine wr_str (R := flE z.S d) (k := x.1.toNat) rfl rfl (by omega) (by rw [flE_len]; omega) ?_
      exact hK (z.nx hok hx hn) [0, 1, 2, 3, 4, 5, 6, 7, 8, 9, 10, 11] _ (by have := (z.lt hok hx hn).2; show _ = m.L.length - (z.S ++ [x]).length + 1; rw [List.length_append]; simp only [List.length_cons, List.length_nil]; omega) ⟨⟨rfl, rfl, rfl, True.intro⟩, ⟨.inl rfl, .inl rfl, .inl rfl, .inl (by rw [renO_str]; exact congrArg (fun d => some (AObj.row (d.map str))) (flE_snoc z.S x d).symm), oS rfl, oS rfl, oS rfl, oM rfl, oM rfl, oM rfl, oM rfl, .inl (by rw [renO_it _ _ rfl]; exact congrArg (fun S => some (itX 7 m.c S)) (seen_snoc z.S x)), True.intro⟩, rfl, rfl, rfl⟩
  · cases hd; cases hm
    refine acalls_of_awp hT mixed Tryd.func41 rfl (by kernel_rfl) (by kernel_rfl) (Nat.le_of_ble_eq_true rfl) ?_
    refine callW (cs := [bo false, i64 (sec : Nat), .slc 1 0 4 1, .slc 2 0 4 1]) (rest := [i64 1, i64 0]) hp rfl rfl rfl ?_
    refine Ob.intro (show (0 : Int) ≤ 1 ∧ (1 : Int) < ((4 : Nat) : Int) from ⟨by omega, by omega⟩) ?_
    refine loopI (α := Fl m) (fun z => [(0, .ptr 0 0), (1, i64 1), (21, .ptr 11 0)]) (fun z => (Wd.mk false sec [d0, flE z.S d, d2, d3] [m0, m, m2, m3]).H ++ [itE 8 m.c z.S]) (fun z => m.L.length - z.S.length) ⟨[], List.nodup_nil, fun _ h => by cases h⟩ [0, 1, 2, 3, 4, 5, 6, 7, 8, 9, 10, 11] ⟨⟨rfl, rfl, rfl, True.intro⟩, ⟨.inl rfl, .inl rfl, .inl rfl, oS rfl, oS rfl, oS rfl, oS rfl, oM rfl, oM rfl, oM rfl, oM rfl, .inl rfl, True.intro⟩, rfl, rfl, rfl⟩ ?_
    intro z K hK
    refine nextK_of hok z.sub (fun hall => ?_) (fun x hx hn => ?_)
    · refine Ob.intro (show (0 : Int) ≤ 1 ∧ (1 : Int) < ((4 : Nat) : Int) from ⟨by omega, by omega⟩) ?_
      have hfl := z.all hok (fun e he => (hks e he).1) hall d
      exact endH rfl rfl rfl ⟨.inl rfl, .inl rfl, .inl rfl, .inl rfl, .inl (by rw [hfl]), .inl rfl, .inl rfl, .inl rfl, .inl rfl, .inl rfl, .inl rfl, True.intro⟩ (Nat.le_refl 11) (Wd.below _) rfl
    · have hxk := hks x hx
      refine Ob.intro rfl ?_
      refine optK_intro (entM_ent hok (S := z.S) hx) ?_
      refine Ob.intro (show (0 : Int) ≤ 1 ∧ (1 : Int) < ((4 : Nat) : Int) from ⟨by omega, by omega⟩) ?_
      refine Ob.intro (show (0 : Int) ≤ x.1 ∧ (x.1 : Int) < ((sec : Nat) : Int) from hxk) ?_
      refine wr_str (R := flE z.S d) (k := x.1.toNat) rfl rfl (by omega) (by rw [flE_len]; omega) ?_
      exact hK (z.nx hok hx hn) [0, 1, 2, 3, 4, 5, 6, 7, 8, 9, 10, 11] _ (by have := (z.lt hok hx hn).2; show _ = m.L.length - (z.S ++ [x]).length + 1; rw [List.length_append]; simp only [List.length_cons, List.length_nil]; omega) ⟨⟨rfl, rfl, rfl, True.intro⟩, ⟨.inl rfl, .inl rfl, .inl rfl, oS rfl, .inl (by rw [renO_str]; exact congrArg (fun d => some (AObj.row (d.map str))) (flE_snoc z.S x d).symm), oS rfl, oS rfl, oM rfl, oM rfl, oM rfl, oM rfl, .inl (by rw [renO_it _ _ rfl]; exact congrArg (fun S => some (itX 8 m.c S)) (seen_snoc z.S x)), True.intro⟩, rfl, rfl, rfl⟩
  · cases hd; cases hm
    refine acalls_of_awp hT mixed Tryd.func41 rfl (by kernel_rfl) (by kernel_rfl) (Nat.le_of_ble_eq_true rfl) ?_
    refine callW (cs := [bo false, i64 (sec : Nat), .slc 1 0 4 1, .slc 2 0 4 1]) (rest := [i64 2, i64 0]) hp rfl rfl rfl ?_
    refine Ob.intro (show (0 : Int) ≤ 2 ∧ (2 : Int) < ((4 : Nat) : Int) from ⟨by omega, by omega⟩) ?_
    refine loopI (α := Fl m) (fun z => [(0, .ptr 0 0), (1, i64 2), (21, .ptr 11 0)]) (fun z => (Wd.mk false sec [d0, d1, flE z.S d, d3] [m0, m1, m, m3]).H ++ [itE 9 m.c z.S]) (fun z => m.L.length - z.S.length) ⟨[], List.nodup_nil, fun _ h => by cases h⟩ [0, 1, 2, 3, 4, 5, 6, 7, 8, 9, 10, 11] ⟨⟨rfl, rfl, rfl, True.intro⟩, ⟨.inl rfl, .inl rfl, .inl rfl, oS rfl, oS rfl, oS rfl, oS rfl, oM rfl, oM rfl, oM rfl, oM rfl, .inl rfl, True.intro⟩, rfl, rfl, rfl⟩ ?_
    intro z K hK
    refine nextK_of hok z.sub (fun hall => ?_) (fun x hx hn => ?_)
    · refine Ob.intro (show (0 : Int) ≤ 2 ∧ (2 : Int) < ((4 : Nat) : Int) from ⟨by omega, by omega⟩) ?_
      have hfl := z.all hok (fun e he => (hks e he).1) hall d
      exact endH rfl rfl rfl ⟨.inl rfl, .inl rfl, .inl rfl, .inl rfl, .inl rfl, .inl (by rw [hfl]), .inl rfl, .inl rfl, .inl rfl, .inl rfl, .inl rfl, True.intro⟩ (Nat.le_refl 11) (Wd.below _) rfl
    · have hxk := hks x hx
      refine Ob.intro rfl ?_
      refine optK_intro (entM_ent hok (S := z.S) hx) ?_
      refine Ob.intro (show (0 : Int) ≤ 2 ∧ (2 : Int) < ((4 : Nat) : Int) from ⟨by omega, by omega⟩) ?_
      refine Ob.intro (show (0 : Int) ≤ x.1 ∧ (x.1 : Int) < ((sec : Nat) : Int) from hxk) ?_
      refine wr_str (R := flE z.S d) (k := x.1.toNat) rfl rfl (by omega) (by rw [flE_len]; omega) ?_
      exact hK (z.nx hok hx hn) [0, 1, 2, 3, 4, 5, 6, 7, 8, 9, 10, 11] _ (by have := (z.lt hok hx hn).2; show _ = m.L.length - (z.S ++ [x]).length + 1; rw [List.length_append]; simp only [List.length_cons, List.length_nil]; omega) ⟨⟨rfl, rfl, rfl, True.intro⟩, ⟨.inl rfl, .inl rfl, .inl rfl, oS rfl, oS rfl, .inl (by rw [renO_str]; exact congrArg (fun d => some (AObj.row (d.map str))) (flE_snoc z.S x d).symm), oS rfl, oM rfl, oM rfl, oM rfl, oM rfl, .inl (by rw [renO_it _ _ rfl]; exact congrArg (fun S => some (itX 9 m.c S)) (seen_snoc z.S x)), True.intro⟩, rfl, rfl, rfl⟩
  · cases hd; cases hm
    refine acalls_of_awp hT mixed Tryd.func41 rfl (by kernel_rfl) (by kernel_rfl) (Nat.le_of_ble_eq_true rfl) ?_
    refine callW (cs := [bo false, i64 (sec : Nat), .slc 1 0 4 1, .slc 2 0 4 1]) (rest := [i64 3, i64 0]) hp rfl rfl rfl ?_
    refine Ob.intro (show (0 : Int) ≤ 3 ∧ (3 : Int) < ((4 : Nat) : Int) from ⟨by omega, by omega⟩) ?_
    refine loopI (α := Fl m) (fun z => [(0, .ptr 0 0), (1, i64 3), (21, .ptr 11 0)]) (fun z => (Wd.mk false sec [d0, d1, d2, flE z.S d] [m0, m1, m2, m]).H ++ [itE 10 m.c z.S]) (fun z => m.L.length - z.S.length) ⟨[], List.nodup_nil, fun _ h => by cases h⟩ [0, 1, 2, 3, 4, 5, 6, 7, 8, 9, 10, 11] ⟨⟨rfl, rfl, rfl, True.intro⟩, ⟨.inl rfl, .inl rfl, .inl rfl, oS rfl, oS rfl, oS rfl, oS rfl, oM rfl, oM rfl, oM rfl, oM rfl, .inl rfl, True.intro⟩, rfl, rfl, rfl⟩ ?_
    intro z K hK
    refine nextK_of hok z.sub (fun hall => ?_) (fun x hx hn => ?_)
    · refine Ob.intro (show (0 : Int) ≤ 3 ∧ (3 : Int) < ((4 : Nat) : Int) from ⟨by omega, by omega⟩) ?_
      have hfl := z.all hok (fun e he => (hks e he).1) hall d
      exact endH rfl rfl rfl ⟨.inl rfl, .inl rfl, .inl rfl, .inl rfl, .inl rfl, .inl rfl, .inl (by rw [hfl]), .inl rfl, .inl rfl, .inl rfl, .inl rfl, True.intro⟩ (Nat.le_refl 11) (Wd.below _) rfl
    · have hxk := hks x hx
      refine Ob.intro rfl ?_
      refine optK_intro (entM_ent hok (S := z.S) hx) ?_
      refine Ob.intro (show (0 : Int) ≤ 3 ∧ (3 : Int) < ((4 : Nat) : Int) from ⟨by omega, by omega⟩) ?_
      refine Ob.intro (show (0 : Int) ≤ x.1 ∧ (x.1 : Int) < ((sec : Nat) : Int) from hxk) ?_
      refine wr_str (R := flE z.S d) (k := x.1.toNat) rfl rfl (by omega) (by rw [flE_len]; omega) ?_
      exact hK (z.nx hok hx hn) [0, 1, 2, 3, 4, 5, 6, 7, 8, 9, 10, 11] _ (by have := (z.lt hok hx hn).2; show _ = m.L.length - (z.S ++ [x]).length + 1; rw [List.length_append]; simp only [List.length_cons, List.length_nil]; omega) ⟨⟨rfl, rfl, rfl, True.intro⟩, ⟨.inl rfl, .inl rfl, .inl rfl, oS rfl, oS rfl, oS rfl, .inl (by rw [renO_str]; exact congrArg (fun d => some (AObj.row (d.map str))) (flE_snoc z.S x d).symm), oM rfl, oM rfl, oM rfl, oM rfl, .inl (by rw [renO_it _ _ rfl]; exact congrArg (fun S => some (itX 10 m.c S)) (seen_snoc z.S x)), True.intro⟩, rfl, rfl, rfl⟩
theorem flush_5 (sec : Nat) (D : List (List ByteArray)) (M : List Mp) (hD : D.length = 5) (hM : M.length = 5) (e : Int) (d : List ByteArray) (m : Mp) (hd : D[e.toNat]? = some d) (hm : M[e.toNat]? = some m) (hin : inS sec 5 e 0) (hok : m.ok) (hks : ∀ x ∈ m.L, 0 ≤ x.1 ∧ x.1 < sec) (hl : d.length = sec) :
    ACalls Tryd.prog 41 [.ptr 0 0, i64 e] (Wd.mk false sec D M).H (RetH (i64 0) (Wd.mk false sec (D.set e.toNat (dryM m d)) (M.set e.toNat m.clr)).H) := by
  match D, hD, M, hM with
  | [d0, d1, d2, d3, d4], _, [m0, m1, m2, m3, m4], _ =>
  have hp := power_ok false (sec : Nat) 5 e 0
  rw [if_neg (by decide), if_pos hin] at hp
  obtain ⟨⟨h1, h2⟩, h3, h4⟩ := hin
  have he : e = 0 ∨ e = 1 ∨ e = 2 ∨ e = 3 ∨ e = 4 := by omega
  rcases he with rfl | rfl | rfl | rfl | rfl
  · cases hd; cases hm
    refine acalls_of_awp hT mixed Tryd.func41 rfl (by kernel_rfl) (by kernel_rfl) (Nat.le_of_ble_eq_true rfl) ?_
    refine callW (cs := [bo false, i64 (sec : Nat), .slc 1 0 5 1, .slc 2 0 5 1]) (rest := [i64 0, i64 0]) hp rfl rfl rfl ?_
    refine Ob.intro (show (0 : Int) ≤ 0 ∧ (0 : Int) < ((5 : Nat) : Int) from ⟨by omega, by omega⟩) ?_
    refine loopI (α := Fl m) (fun z => [(0, .ptr 0 0), (1, i64 0), (21, .ptr 13 0)]) (fun z => (Wd.mk false sec [flE z.S d, d1, d2, d3, d4] [m, m1, m2, m3, m4]).H ++ [itE 8 m.c z.S]) (fun z => m.L.length - z.S.length) ⟨[], List.nodup_nil, fun _ h => by cases h⟩ [0, 1, 2, 3, 4, 5, 6, 7, 8, 9, 10, 11, 12, 13] ⟨⟨rfl, rfl, rfl, True.intro⟩, ⟨.inl rfl, .inl rfl, .inl rfl, oS rfl, oS rfl, oS rfl, oS rfl, oS rfl, oM rfl, oM rfl, oM rfl, oM rfl, oM rfl, .inl rfl, True.intro⟩, rfl, rfl, rfl⟩ ?_
    intro z K hK
    refine nextK_of hok z.sub (fun hall => ?_) (fun x hx hn => ?_)
    · refine Ob.intro (show (0 : Int) ≤ 0 ∧ (0 : Int) < ((5 : Nat) : Int) from ⟨by omega, by omega⟩) ?_
      have hfl := z.all hok (fun e he => (hks e he).1) hall d
      exact endH rfl rfl rfl ⟨.inl rfl, .inl rfl, .inl rfl, .inl (by rw [hfl]), .inl rfl, .inl rfl, .inl rfl, .inl rfl, .inl rfl, .inl rfl, .inl rfl, .inl rfl, .inl rfl, True.intro⟩ (Nat.le_refl 13) (Wd.below _) rfl
    · have hxk := hks x hx
      refine Ob.intro rfl ?_
      refine optK_intro (entM_ent hok (S := z.S) hx) ?_
      refine Ob.intro (show (0 : Int) ≤ 0 ∧ (0 : Int) < ((5 : Nat) : Int) from ⟨by omega, by omega⟩) ?_
      refine Ob.intro (show (0 : Int) ≤ x.1 ∧ (x.1 : Int) < ((sec : Nat) : Int) from hxk) ?_
      refine wr_str (R := flE z.S d) (k := x.1.toNat) rfl rfl (by omega) (by rw [flE_len]; omega) ?_
      exact hK (z.nx hok hx hn) [0, 1, 2, 3, 4, 5, 6, 7, 8, 9, 10, 11, 12, 13] _ (by have := (z.lt hok hx hn).2; show _ = m.L.length - (z.S ++ [x]).length + 1; rw [List.length_append]; simp only [List.length_cons, List.length_nil]; omega) ⟨⟨rfl, rfl, rfl, True.intro⟩, ⟨.inl rfl, .inl rfl, .inl rfl, .inl (by rw [renO_str]; exact congrArg (fun d => some (AObj.row (d.map str))) (flE_snoc z.S x d).symm), oS rfl, oS rfl, oS rfl, oS rfl, oM rfl, oM rfl, oM rfl, oM rfl, oM rfl, .inl (by rw [renO_it _ _ rfl]; exact congrArg (fun S => some (itX 8 m.c S)) (seen_snoc z.S x)), True.intro⟩, rfl, rfl, rfl⟩
  · cases hd; cases hm
    refine acalls_of_awp hT mixed Tryd.func41 rfl (by kernel_rfl) (by kernel_rfl) (Nat.le_of_ble_eq_true rfl) ?_
    refine callW (cs := [bo false, i64 (sec : Nat), .slc 1 0 5 1, .slc 2 0 5 1]) (rest := [i64 1, i64 0]) hp rfl rfl rfl ?_
    refine Ob.intro (show (0 : Int) ≤ 1 ∧ (1 : Int) < ((5 : Nat) : Int) from ⟨by omega, by omega⟩) ?_
    refine loopI (α := Fl m) (fun z => [(0, .ptr 0 0), (1, i64 1), (21, .ptr 13 0)]) (fun z => (Wd.mk false sec [d0, flE z.S d, d2, d3, d4] [m0, m, m2, m3, m4]).H ++ [itE 9 m.c z.S]) (fun z => m.L.length - z.S.length) ⟨[], List.nodup_nil, fun _ h => by cases h⟩ [0, 1, 2, 3, 4, 5, 6, 7, 8, 9, 10, 11, 12, 13] ⟨⟨rfl, rfl, rfl, True.intro⟩, ⟨.inl rfl, .inl rfl, .inl rfl, oS rfl, oS rfl, oS rfl, oS rfl, oS rfl, oM rfl, oM rfl, oM rfl, oM rfl, oM rfl, .inl rfl, True.intro⟩, rfl, rfl, rfl⟩ ?_
    intro z K hK
    refine nextK_of hok z.sub (fun hall => ?_) (fun x hx hn => ?_)
    · refine Ob.intro (show (0 : Int) ≤ 1 ∧ (1 : Int) < ((5 : Nat) : Int) from ⟨by omega, by omega⟩) ?_
      have hfl := z.all hok (fun e he => (hks e he).1) hall d
      exact endH rfl rfl rfl ⟨.inl rfl, .inl rfl, .inl rfl, .inl rfl, .inl (by rw [hfl]), .inl rfl, .inl rfl, .inl rfl, .inl rfl, .inl rfl, .inl rfl, .inl rfl, .inl rfl, True.intro⟩ (Nat.le_refl 13) (Wd.below _) rfl
    · have hxk := hks x hx
      refine Ob.intro rfl ?_
      refine optK_intro (entM_ent hok (S := z.S) hx) ?_
      refine Ob.intro (show (0 : Int) ≤ 1 ∧ (1 : Int) < ((5 : Nat) : Int) from ⟨by omega, by omega⟩) ?_
      refine Ob.intro (show (0 : Int) ≤ x.1 ∧ (x.1 : Int) < ((sec : Nat) : Int) from hxk) ?_
      refine wr_str (R := flE z.S d) (k := x.1.toNat) rfl rfl (by omega) (by rw [flE_len]; omega) ?_
      exact hK (z.nx hok hx hn) [0, 1, 2, 3, 4, 5, 6, 7, 8, 9, 10, 11, 12, 13] _ (by have := (z.lt hok hx hn).2; show _ = m.L.length - (z.S ++ [x]).length + 1; rw [List.length_append]; simp only [List.length_cons, List.length_nil]; omega) ⟨⟨rfl, rfl, rfl, True.intro⟩, ⟨.inl rfl, .inl rfl, .inl rfl, oS rfl, .inl (by rw [renO_str]; exact congrArg (fun d => some (AObj.row (d.map str))) (flE_snoc z.S x d).symm), oS rfl, oS rfl, oS rfl, oM rfl, oM rfl, oM rfl, oM rfl, oM rfl, .inl (by rw [renO_it _ _ rfl]; exact congrArg (fun S => some (itX 9 m.c S)) (seen_snoc z.S x)), True.intro⟩, rfl, rfl, rfl⟩
  · cases hd; cases hm
    refine acalls_of_awp hT mixed Tryd.func41 rfl (by kernel_rfl) (by kernel_rfl) (Nat.le_of_ble_eq_true rfl) ?_
    refine callW (cs := [bo false, i64 (sec : Nat), .slc 1 0 5 1, .slc 2 0 5 1]) (rest := [i64 2, i64 0]) hp rfl rfl rfl ?_
    refine Ob.intro (show (0 : Int) ≤ 2 ∧ (2 : Int) < ((5 : Nat) : Int) from ⟨by omega, by omega⟩) ?_
    refine loopI (α := Fl m) (fun z => [(0, .ptr 0 0), (1, i64 2), (21, .ptr 13 0)]) (fun z => (Wd.mk false sec [d0, d1, flE z.S d, d3, d4] [m0, m1, m, m3, m4]).H ++ [itE 10 m.c z.S]) (fun z => m.L.length - z.S.length) ⟨[], List.nodup_nil, fun _ h => by cases h⟩ [0, 1, 2, 3, 4, 5, 6, 7, 8, 9, 10, 11, 12, 13] ⟨⟨rfl, rfl, rfl, True.intro⟩, ⟨.inl rfl, .inl rfl, .inl rfl, oS rfl, oS rfl, oS rfl, oS rfl, oS rfl, oM rfl, oM rfl, oM rfl, oM rfl, oM rfl, .inl rfl, True.intro⟩, rfl, rfl, rfl⟩ ?_
    intro z K hK
    refine nextK_of hok z.sub (fun hall => ?_) (fun x hx hn => ?_)
    · refine Ob.intro (show (0 : Int) ≤ 2 ∧ (2 : Int) < ((5 : Nat) : Int) from ⟨by omega, by omega⟩) ?_
      have hfl := z.all hok (fun e he => (hks e he).1) hall d
      exact endH rfl rfl rfl ⟨.inl rfl, .inl rfl, .inl rfl, .inl rfl, .inl rfl, .inl (by rw [hfl]), .inl rfl, .inl rfl, .inl rfl, .inl rfl, .inl rfl, .inl rfl, .inl rfl, True.intro⟩ (Nat.le_refl 13) (Wd.below _) rfl
    · have hxk := hks x hx
      refine Ob.intro rfl ?_
      refine optK_intro (entM_ent hok (S := z.S) hx) ?_
      refine Ob.intro (show (0 : Int) ≤ 2 ∧ (2 : Int) < ((5 : Nat) : Int) from ⟨by omega, by omega⟩) ?_
      refine Ob.intro (show (0 : Int) ≤ x.1 ∧ (x.1 : Int) < ((sec : Nat) : Int) from hxk) ?_
      refine wr_str (R := flE z.S d) (k := x.1.toNat) rfl rfl (by omega) (by rw [flE_len]; omega) ?_
      exact hK (z.nx hok hx hn) [0, 1, 2, 3, 4, 5, 6, 7, 8, 9, 10, 11, 12, 13] _ (by have := (z.lt hok hx hn).2; show _ = m.L.length - (z.S ++ [x]).length + 1; rw [List.length_append]; simp only [List.length_cons, List.length_nil]; omega) ⟨⟨rfl, rfl, rfl, True.intro⟩, ⟨.inl rfl, .inl rfl, .inl rfl, oS rfl, oS rfl, .inl (by rw [renO_str]; exact congrArg (fun d => some (AObj.row (d.map str))) (flE_snoc z.S x d).symm), oS rfl, oS rfl, oM rfl, oM rfl, oM rfl, oM rfl, oM rfl, .inl (by rw [renO_it _ _ rfl]; exact congrArg (fun S => some (itX 10 m.c S)) (seen_snoc z.S x)), True.intro⟩, rfl, rfl, rfl⟩
  · cases hd; cases hm
    refine acalls_of_awp hT mixed Tryd.func41 rfl (by kernel_rfl) (by kernel_rfl) (Nat.le_of_ble_eq_true rfl) ?_
    refine callW (cs := [bo false, i64 (sec : Nat), .slc 1 0 5 1, .slc 2 0 5 1]) (rest := [i64 3, i64 0]) hp rfl rfl rfl ?_
    refine Ob.intro (show (0 : Int) ≤ 3 ∧ (3 : Int) < ((5 : Nat) : Int) from ⟨by omega, by omega⟩) ?_
    refine loopI (α := Fl m) (fun z => [(0, .ptr 0 0), (1, i64 3), (21, .ptr 13 0)]) (fun z => (Wd.mk false sec [d0, d1, d2, flE z.S d, d4] [m0, m1, m2, m, m4]).H ++ [itE 11 m.c z.S]) (fun z => m.L.length - z.S.length) ⟨[], List.nodup_nil, fun _ h => by cases h⟩ [0, 1, 2, 3, 4, 5, 6, 7, 8, 9, 10, 11, 12, 13] ⟨⟨rfl, rfl, rfl, True.intro⟩, ⟨.inl rfl, .inl rfl, .inl rfl, oS rfl, oS rfl, oS rfl, oS rfl, oS rfl, oM rfl, oM rfl, oM rfl, oM rfl, oM rfl, .inl rfl, True.intro⟩, rfl, rfl, rfl⟩ ?_
    intro z K hK
    refine nextK_of hok z.sub (fun hall => ?_) (fun x hx hn => ?_)
    · refine Ob.intro (show (0 : Int) ≤ 3 ∧ (3 : Int) < ((5 : Nat) : Int) from ⟨by omega, by omega⟩) ?_
      have hfl := z.all hok (fun e he => (hks e he).1) hall d
      exact endH rfl rfl rfl ⟨.inl rfl, .inl rfl, .inl rfl, .inl rfl, .inl rfl, .inl rfl, .inl (by rw [hfl]), .inl rfl, .inl rfl, .inl rfl, .inl rfl, .inl rfl, .inl rfl, True.intro⟩ (Nat.le_refl 13) (Wd.below _) rfl
    · have hxk := hks x hx
      refine Ob.intro rfl ?_
      refine optK_intro (entM_ent hok (S := z.S) hx) ?_
      refine Ob.intro (show (0 : Int) ≤ 3 ∧ (3 : Int) < ((5 : Nat) : Int) from ⟨by omega, by omega⟩) ?_
      refine Ob.intro (show (0 : Int) ≤ x.1 ∧ (x.1 : Int) < ((sec : Nat) : Int) from hxk) ?_
      refine wr_str (R := flE z.S d) (k := x.1.toNat) rfl rfl (by omega) (by rw [flE_len]; omega) ?_
      exact hK (z.nx hok hx hn) [0, 1, 2, 3, 4, 5, 6, 7, 8, 9, 10, 11, 12, 13] _ (by have := (z.lt hok hx hn).2; show _ = m.L.length - (z.S ++ [x]).length + 1; rw [List.length_append]; simp only [List.length_cons, List.length_nil]; omega) ⟨⟨rfl, rfl, rfl, True.intro⟩, ⟨.inl rfl, .inl rfl, .inl rfl, oS rfl, oS rfl, oS rfl, .inl (by rw [renO_str]; exact congrArg (fun d => some (AObj.row (d.map str))) (flE_snoc z.S x d).symm), oS rfl, oM rfl, oM rfl, oM rfl, oM rfl, oM rfl, .inl (by rw [renO_it _ _ rfl]; exact congrArg (fun S => some (itX 11 m.c S)) (seen_snoc z.S x)), True.intro⟩, rfl, rfl, rfl⟩
  · cases hd; cases hm
    refine acalls_of_awp hT mixed Tryd.func41 rfl (by kernel_rfl) (by kernel_rfl) (Nat.le_of_ble_eq_true rfl) ?_
    refine callW (cs := [bo false, i64 (sec : Nat), .slc 1 0 5 1, .slc 2 0 5 1]) (rest := [i64 4, i64 0]) hp rfl rfl rfl ?_
    refine Ob.intro (show (0 : Int) ≤ 4 ∧ (4 : Int) < ((5 : Nat) : Int) from ⟨by omega, by omega⟩) ?_
    refine loopI (α := Fl m) (fun z => [(0, .ptr 0 0), (1, i64 4), (21, .ptr 13 0)]) (fun z => (Wd.mk false sec [d0, d1, d2, d3, flE z.S d] [m0, m1, m2, m3, m]).H ++ [itE 12 m.c z.S]) (fun z => m.L.length - z.S.length) ⟨[], List.nodup_nil, fun _ h => by cases h⟩ [0, 1, 2, 3, 4, 5, 6, 7, 8, 9, 10, 11, 12, 13] ⟨⟨rfl, rfl, rfl, True.intro⟩, ⟨.inl rfl, .inl rfl, .inl rfl, oS rfl, oS rfl, oS rfl, oS rfl, oS rfl, oM rfl, oM rfl, oM rfl, oM rfl, oM rfl, .inl rfl, True.intro⟩, rfl, rfl, rfl⟩ ?_
    intro z K hK
    refine nextK_of hok z.sub (fun hall => ?_) (fun x hx hn => ?_)
    · refine Ob.intro (show (0 : Int) ≤ 4 ∧ (4 : Int) < ((5 : Nat) : Int) from ⟨by omega, by omega⟩) ?_
      have hfl := z.all hok (fun e he => (hks e he).1) hall d
      exact endH rfl rfl rfl ⟨.inl rfl, .inl rfl, .inl rfl, .inl rfl, .inl rfl, .inl rfl, .inl rfl, .inl (by rw [hfl]), .inl rfl, .inl rfl, .inl rfl, .inl rfl, .inl rfl, True.intro⟩ (Nat.le_refl 13) (Wd.below _) rfl
    · have hxk := hks x hx
      refine Ob.intro rfl ?_
      refine optK_intro (entM_ent hok (S := z.S) hx) ?_
      refine Ob.intro (show (0 : Int) ≤ 4 ∧ (4 : Int) < ((5 : Nat) : Int) from ⟨by omega, by omega⟩) ?_
      refine Ob.intro (show (0 : Int) ≤ x.1 ∧ (x.1 : Int) < ((sec : Nat) : Int) from hxk) ?_
      refine wr_str (R := flE z.S d) (k := x.1.toNat) rfl rfl (by omega) (by rw [flE_len]; omega) ?_
      exact hK (z.nx hok hx hn) [0, 1, 2, 3, 4, 5, 6, 7, 8, 9, 10, 11, 12, 13] _ (by have := (z.lt hok hx hn).2; show _ = m.L.length - (z.S ++ [x]).length + 1; rw [List.length_append]; simp only [List.length_cons, List.length_nil]; omega) ⟨⟨rfl, rfl, rfl, True.intro⟩, ⟨.inl rfl, .inl rfl, .inl rfl, oS rfl, oS rfl, oS rfl, oS rfl, .inl (by rw [renO_str]; exact congrArg (fun d => some (AObj.row (d.map str))) (flE_snoc z.S x d).symm), oM rfl, oM rfl, oM rfl, oM rfl, oM rfl, .inl (by rw [renO_it _ _ rfl]; exact congrArg (fun S => some (itX 12 m.c S)) (seen_snoc z.S x)), True.intro⟩, rfl, rfl, rfl⟩
theorem flush_6 (sec : Nat) (D : List (List ByteArray)) (M : List Mp) (hD : D.length = 6) (hM : M.length = 6) (e : Int) (d : List ByteArray) (m : Mp) (hd : D[e.toNat]? = some d) (hm : M[e.toNat]? = some m) (hin : inS sec 6 e 0) (hok : m.ok) (hks : ∀ x ∈ m.L, 0 ≤ x.1 ∧ x.1 < sec) (hl : d.length = sec) :
    ACalls Tryd.prog 41 [.ptr 0 0, i64 e] (Wd.mk false sec D M).H (RetH (i64 0) (Wd.mk false sec (D.set e.toNat (dryM m d)) (M.set e.toNat m.clr)).H) := by
  match D, hD, M, hM with
  | [d0, d1, d2, d3, d4, d5], _, [m0, m1, m2, m3, m4, m5], _ =>
  have hp := power_ok false (sec : Nat) 6 e 0
  rw [if_neg (by decide), if_pos hin] at hp
  obtain ⟨⟨h1, h2⟩, h3, h4⟩ := hin
  have he : e = 0 ∨ e = 1 ∨ e = 2 ∨ e = 3 ∨ e = 4 ∨ e = 5 := by omega
  rcases he with rfl | rfl | rfl | rfl | rfl | rfl
  · cases hd; cases hm
    refine acalls_of_awp hT mixed Tryd.func41 rfl (by kernel_rfl) (by kernel_rfl) (Nat.le_of_ble_eq_true rfl) ?_
    refine callW (cs := [bo false, i64 (sec : Nat), .slc 1 0 6 1, .slc 2 0 6 1]) (rest := [i64 0, i64 0]) hp rfl rfl rfl ?_
    refine Ob.intro (show (0 : Int) ≤ 0 ∧ (0 : Int) < ((6 : Nat) : Int) from ⟨by omega, by omega⟩) ?_
    refine loopI (α := Fl m) (fun z => [(0, .ptr 0 0), (1, i64 0), (21, .ptr 15 0)]) (fun z => (Wd.mk false sec [flE z.S d, d1, d2, d3, d4, d5] [m, m1, m2, m3, m4, m5]).H ++ [itE 9 m.c z.S]) (fun z => m.L.length - z.S.length) ⟨[], List.nodup_nil, fun _ h => by cases h⟩ [0, 1, 2, 3, 4, 5, 6, 7, 8, 9, 10, 11, 12, 13, 14, 15] ⟨⟨rfl, rfl, rfl, True.intro⟩, ⟨.inl rfl, .inl rfl, .inl rfl, oS rfl, oS rfl, oS rfl, oS rfl, oS rfl, oS rfl, oM rfl, oM rfl, oM rfl, oM rfl, oM rfl, oM rfl, .inl rfl, True.intro⟩, rfl, rfl, rfl⟩ ?_
    intro z K hK
    refine nextK_of hok z.sub (fun hall => ?_) (fun x hx hn => ?_)
    · refine Ob.intro (show (0 : Int) ≤ 0 ∧ (0 : Int) < ((6 : Nat) : Int) from ⟨by omega, by omega⟩) ?_
      have hfl := z.all hok (fun e he => (hks e he).1) hall d
      exact endH rfl rfl rfl ⟨.inl rfl, .inl rfl, .inl rfl, .inl (by rw [hfl]), .inl rfl, .inl rfl, .inl rfl, .inl rfl, .inl rfl, .inl rfl, .inl rfl, .inl rfl, .inl rfl, .inl rfl, .inl rfl, True.intro⟩ (Nat.le_refl 15) (Wd.below _) rfl
    · have hxk := hks x hx
      refine Ob.intro rfl ?_
      refine optK_intro (entM_ent hok (S := z.S) hx) ?_
      refine Ob.intro (show (0 : Int) ≤ 0 ∧ (0 : Int) < ((6 : Nat) : Int) from ⟨by omega, by omega⟩) ?_
      refine Ob.intro (show (0 : Int) ≤ x.1 ∧ (x.1 : Int) < ((sec : Nat) : Int) from hxk) ?_
      refine wr_str (R := flE z.S d) (k := x.1.toNat) rfl rfl (by omega) (by rw [flE_len]; omega) ?_
      exact hK (z.nx hok hx hn) [0, 1, 2, 3, 4, 5, 6, 7, 8, 9, 10, 11, 12, 13, 14, 15] _ (by have := (z.lt hok hx hn).2; show _ = m.L.length - (z.S ++ [x]).length + 1; rw [List.length_append]; simp only [List.length_cons, List.length_nil]; omega) ⟨⟨rfl, rfl, rfl, True.intro⟩, ⟨.inl rfl, .inl rfl, .inl rfl, .inl (by rw [renO_str]; exact congrArg (fun d => some (AObj.row (d.map str))) (flE_snoc z.S x d).symm), oS rfl, oS rfl, oS rfl, oS rfl, oS rfl, oM rfl, oM rfl, oM rfl, oM rfl, oM rfl, oM rfl, .inl (by rw [renO_it _ _ rfl]; exact congrArg (fun S => some (itX 9 m.c S)) (seen_snoc z.S x)), True.intro⟩, rfl, rfl, rfl⟩
  · cases hd; cases hm
    refine acalls_of_awp hT mixed Tryd.func41 rfl (by kernel_rfl) (by kernel_rfl) (Nat.le_of_ble_eq_true rfl) ?_
    refine callW (cs := [bo false, i64 (sec : Nat), .slc 1 0 6 1, .slc 2 0 6 1]) (rest := [i64 1, i64 0]) hp rfl rfl rfl ?_
    refine Ob.intro (show (0 : Int) ≤ 1 ∧ (1 : Int) < ((6 : Nat) : Int) from ⟨by omega, by omega⟩) ?_
    refine loopI (α := Fl m) (fun z => [(0, .ptr 0 0), (1, i64 1), (21, .ptr 15 0)]) (fun z => (Wd.mk false sec [d0, flE z.S d, d2, d3, d4, d5] [m0, m, m2, m3, m4, m5]).H ++ [itE 10 m.c z.S]) (fun z => m.L.length - z.S.length) ⟨[], List.nodup_nil, fun _ h => by cases h⟩ [0, 1, 2, 3, 4, 5, 6, 7, 8, 9, 10, 11, 12, 13, 14, 15] ⟨⟨rfl, rfl, rfl, True.intro⟩, ⟨.inl rfl, .inl rfl, .inl rfl, oS rfl, oS rfl, oS rfl, oS rfl, oS rfl, oS rfl, oM rfl, oM rfl, oM rfl, oM rfl, oM rfl, oM rfl, .inl rfl, True.intro⟩, rfl, rfl, rfl⟩ ?_
    intro z K hK
    refine nextK_of hok z.sub (fun hall => ?_) (fun x hx hn => ?_)
    · refine Ob.intro (show (0 : Int) ≤ 1 ∧ (1 : Int) < ((6 : Nat) : Int) from ⟨by omega, by omega⟩) ?_
      have hfl := z.all hok (fun e he => (hks e he).1) hall d
      exact endH rfl rfl rfl ⟨.inl rfl, .inl rfl, .inl rfl, .inl rfl, .inl (by rw [hfl]), .inl rfl, .inl rfl, .inl rfl, .inl rfl, .inl rfl, .inl rfl, .inl rfl, .inl rfl, .inl rfl, .inl rfl, True.intro⟩ (Nat.le_refl 15) (Wd.below _) rfl
    · have hxk := hks x hx
      refine Ob.intro rfl ?_
      refine optK_intro (entM_ent hok (S := z.S) hx) ?_
      refine Ob.intro (show (0 : Int) ≤ 1 ∧ (1 : Int) < ((6 : Nat) : Int) from ⟨by omega, by omega⟩) ?_
      refine Ob.intro (show (0 : Int) ≤ x.1 ∧ (x.1 : Int) < ((sec : Nat) : Int) from hxk) ?_
      refine wr_str (R := flE z.S d) (k := x.1.toNat) rfl rfl (by omega) (by rw [flE_len]; omega) ?_
      exact hK (z.nx hok hx hn) [0, 1, 2, 3, 4, 5, 6, 7, 8, 9, 10, 11, 12, 13, 14, 15] _ (by have := (z.lt hok hx hn).2; show _ = m.L.length - (z.S ++ [x]).length + 1; rw [List.length_append]; simp only [List.length_cons, List.length_nil]; omega) ⟨⟨rfl, rfl, rfl, True.intro⟩, ⟨.inl rfl, .inl rfl, .inl rfl, oS rfl, .inl (by rw [renO_str]; exact congrArg (fun d => some (AObj.row (d.map str))) (flE_snoc z.S x d).symm), oS rfl, oS rfl, oS rfl, oS rfl, oM rfl, oM rfl, oM rfl, oM rfl, oM rfl, oM rfl, .inl (by rw [renO_it _ _ rfl]; exact congrArg (fun S => some (itX 10 m.c S)) (seen_snoc z.S x)), True.intro⟩, rfl, rfl, rfl⟩
  · cases hd; cases hm
    refine acalls_of_awp hT mixed Tryd.func41 rfl (by kernel_rfl) (by kernel_rfl) (Nat.le_of_ble_eq_true rfl) ?_
    refine callW (cs := [bo false, i64 (sec : Nat), .slc 1 0 6 1, .slc 2 0 6 1]) (rest := [i64 2, i64 0]) hp rfl rfl rfl ?_
    refine Ob.intro (show (0 : Int) ≤ 2 ∧ (2 : Int) < ((6 : Nat) : Int) from ⟨by omega, by omega⟩) ?_
    refine loopI (α := Fl m) (fun z => [(0, .ptr 0 0), (1, i64 2), (21, .ptr 15 0)]) (fun z => (Wd.mk false sec [d0, d1, flE z.S d, d3, d4, d5] [m0, m1, m, m3, m4, m5]).H ++ [itE 11 m.c z.S]) (fun z => m.L.length - z.S.length) ⟨[], List.nodup_nil, fun _ h => by cases h⟩ [0, 1, 2, 3, 4, 5, 6, 7, 8, 9, 10, 11, 12, 13, 14, 15] ⟨⟨rfl, rfl, rfl, True.intro⟩, ⟨.inl rfl, .inl rfl, .inl rfl, oS rfl, oS rfl, oS rfl, oS rfl, oS rfl, oS rfl, oM rfl, oM rfl, oM rfl, oM rfl, oM rfl, oM rfl, .inl rfl, True.intro⟩, rfl, rfl, rfl⟩ ?_
    intro z K hK
    refine nextK_of hok z.sub (fun hall => ?_) (fun x hx hn => ?_)
    · refine Ob.intro (show (0 : Int) ≤ 2 ∧ (2 : Int) < ((6 : Nat) : Int) from ⟨by omega, by omega⟩) ?_
      have hfl := z.all hok (fun e he => (hks e he).1) hall d
      exact endH rfl rfl rfl ⟨.inl rfl, .inl rfl, .inl rfl, .inl rfl, .inl rfl, .inl (by rw [hfl]), .inl rfl, .inl rfl, .inl rfl, .inl rfl, .inl rfl, .inl rfl, .inl rfl, .inl rfl, .inl rfl, True.intro⟩ (Nat.le_refl 15) (Wd.below _) rfl
    · have hxk := hks x hx
      refine Ob.intro rfl ?_
      refine optK_intro (entM_ent hok (S := z.S) hx) ?_
      refine Ob.intro (show (0 : Int) ≤ 2 ∧ (2 : Int) < ((6 : Nat) : Int) from ⟨by omega, by omega⟩) ?_
      refine Ob.intro (show (0 : Int) ≤ x.1 ∧ (x.1 : Int) < ((sec : Nat) : Int) from hxk) ?_
      refine wr_str (R := flE z.S d) (k := x.1.toNat) rfl rfl (by omega) (by rw [flE_len]; omega) ?_
      exact hK (z.nx hok hx hn) [0, 1, 2, 3, 4, 5, 6, 7, 8, 9, 10, 11, 12, 13, 14, 15] _ (by have := (z.lt hok hx hn).2; show _ = m.L.length - (z.S ++ [x]).length + 1; rw [List.length_append]; simp only [List.length_cons, List.length_nil]; omega) ⟨⟨rfl, rfl, rfl, True.intro⟩, ⟨.inl rfl, .inl rfl, .inl rfl, oS rfl, oS rfl, .inl (by rw [renO_str]; exact congrArg (fun d => some (AObj.row (d.map str))) (flE_snoc z.S x d).symm), oS rfl, oS rfl, oS rfl, oM rfl, oM rfl, oM rfl, oM rfl, oM rfl, oM rfl, .inl (by rw [renO_it _ _ rfl]; exact congrArg (fun S => some (itX 11 m.c S)) (seen_snoc z.S x)), True.intro⟩, rfl, rfl, rfl⟩
  · cases hd; cases hm
    refine acalls_of_awp hT mixed Tryd.func41 rfl (by kernel_rfl) (by kernel_rfl) (Nat.le_of_ble_eq_true rfl) ?_
    refine callW (cs := [bo false, i64 (sec : Nat), .slc 1 0 6 1, .slc 2 0 6 1]) (rest := [i64 3, i64 0]) hp rfl rfl rfl ?_
    refine Ob.intro (show (0 : Int) ≤ 3 ∧ (3 : Int) < ((6 : Nat) : Int) from ⟨by omega, by omega⟩) ?_
    refine loopI (α := Fl m) (fun z => [(0, .ptr 0 0), (1, i64 3), (21, .ptr 15 0)]) (fun z => (Wd.mk false sec [d0, d1, d2, flE z.S d, d4, d5] [m0, m1, m2, m, m4, m5]).H ++ [itE 12 m.c z.S]) (fun z => m.L.length - z.S.length) ⟨[], List.nodup_nil, fun _ h => by cases h⟩ [0, 1, 2, 3, 4, 5, 6, 7, 8, 9, 10, 11, 12, 13, 14, 15] ⟨⟨rfl, rfl, rfl, True.intro⟩, ⟨.inl rfl, .inl rfl, .inl rfl, oS rfl, oS rfl, oS rfl, oS rfl, oS rfl, oS rfl, oM rfl, oM rfl, oM rfl, oM rfl, oM rfl, oM rfl, .inl rfl, True.intro⟩, rfl, rfl, rfl⟩ ?_
    intro z K hK
    refine nextK_of hok z.sub (fun hall => ?_) (fun x hx hn => ?_)
    · refine Ob.intro (show (0 : Int) ≤ 3 ∧ (3 : Int) < ((6 : Nat) : Int) from ⟨by omega, by omega⟩) ?_
      have hfl := z.all hok (fun e he => (hks e he).1) hall d
      exact endH rfl rfl rfl ⟨.inl rfl, .inl rfl, .inl rfl, .inl rfl, .inl rfl, .inl rfl, .inl (by rw [hfl]), .inl rfl, .inl rfl, .inl rfl, .inl rfl, .inl rfl, .inl rfl, .inl rfl, .inl rfl, True.intro⟩ (Nat.le_refl 15) (Wd.below _) rfl
    · have hxk := hks x hx
      refine Ob.intro rfl ?_
      refine optK_intro (entM_ent hok (S := z.S) hx) ?_
      refine Ob.intro (show (0 : Int) ≤ 3 ∧ (3 : Int) < ((6 : Nat) : Int) from ⟨by omega, by omega⟩) ?_
      refine Ob.intro (show (0 : Int) ≤ x.1 ∧ (x.1 : Int) < ((sec : Nat) : Int) from hxk) ?_
      refine wr_str (R := flE z.S d) (k := x.1.toNat) rfl rfl (by omega) (by rw [flE_len]; omega) ?_
      exact hK (z.nx hok hx hn) [0, 1, 2, 3, 4, 5, 6, 7, 8, 9, 10, 11, 12, 13, 14, 15] _ (by have := (z.lt hok hx hn).2; show _ = m.L.length - (z.S ++ [x]).length + 1; rw [List.length_append]; simp only [List.length_cons, List.length_nil]; omega) ⟨⟨rfl, rfl, rfl, True.intro⟩, ⟨.inl rfl, .inl rfl, .inl rfl, oS rfl, oS rfl, oS rfl, .inl (by rw [renO_str]; exact congrArg (fun d => some (AObj.row (d.map str))) (flE_snoc z.S x d).symm), oS rfl, oS rfl, oM rfl, oM rfl, oM rfl, oM rfl, oM rfl, oM rfl, .inl (by rw [renO_it _ _ rfl]; exact congrArg (fun S => some (itX 12 m.c S)) (seen_snoc z.S x)), True.intro⟩, rfl, rfl, rfl⟩
  · cases hd; cases hm
    refine acalls_of_awp hT mixed Tryd.func41 rfl (by kernel_rfl) (by kernel_rfl) (Nat.le_of_ble_eq_true rfl) ?_
    refine callW (cs := [bo false, i64 (sec : Nat), .slc 1 0 6 1, .slc 2 0 6 1]) (rest := [i64 4, i64 0]) hp rfl rfl rfl ?_
    refine Ob.intro (show (0 : Int) ≤ 4 ∧ (4 : Int) < ((6 : Nat) : Int) from ⟨by omega, by omega⟩) ?_
    refine loopI (α := Fl m) (fun z => [(0, .ptr 0 0), (1, i64 4), (21, .ptr 15 0)]) (fun z => (Wd.mk false sec [d0, d1, d2, d3, flE z.S d, d5] [m0, m1, m2, m3, m, m5]).H ++ [itE 13 m.c z.S]) (fun z => m.L.length - z.S.length) ⟨[], List.nodup_nil, fun _ h => by cases h⟩ [0, 1, 2, 3, 4, 5, 6, 7, 8, 9, 10, 11, 12, 13, 14, 15] ⟨⟨rfl, rfl, rfl, True.intro⟩, ⟨.inl rfl, .inl rfl, .inl rfl, oS rfl, oS rfl, oS rfl, oS rfl, oS rfl, oS rfl, oM rfl, oM rfl, oM rfl, oM rfl, oM rfl, oM rfl, .inl rfl, True.intro⟩, rfl, rfl, rfl⟩ ?_
    intro z K hK
    refine nextK_of hok z.sub (fun hall => ?_) (fun x hx hn => ?_)
    · refine Ob.intro (show (0 : Int) ≤ 4 ∧ (4 : Int) < ((6 : Nat) : Int) from ⟨by omega, by omega⟩) ?_
      have hfl := z.all hok (fun e he => (hks e he).1) hall d
      exact endH rfl rfl rfl ⟨.inl rfl, .inl rfl, .inl rfl, .inl rfl, .inl rfl, .inl rfl, .inl rfl, .inl (by rw [hfl]), .inl rfl, .inl rfl, .inl rfl, .inl rfl, .inl rfl, .inl rfl, .inl rfl, True.intro⟩ (Nat.le_refl 15) (Wd.below _) rfl
    · have hxk := hks x hx
      refine Ob.intro rfl ?_
      refine optK_intro (entM_ent hok (S := z.S) hx) ?_
      refine Ob.intro (show (0 : Int) ≤ 4 ∧ (4 : Int) < ((6 : Nat) : Int) from ⟨by omega, by omega⟩) ?_
      refine Ob.intro (show (0 : Int) ≤ x.1 ∧ (x.1 : Int) < ((sec : Nat) : Int) from hxk) ?_
      refine wr_str (R := flE z.S d) (k := x.1.toNat) rfl rfl (by omega) (by rw [flE_len]; omega) ?_
      exact hK (z.nx hok hx hn) [0, 1, 2, 3, 4, 5, 6, 7, 8, 9, 10, 11, 12, 13, 14, 15] _ (by have := (z.lt hok hx hn).2; show _ = m.L.length - (z.S ++ [x]).length + 1; rw [List.length_append]; simp only [List.length_cons, List.length_nil]; omega) ⟨⟨rfl, rfl, rfl, True.intro⟩, ⟨.inl rfl, .inl rfl, .inl rfl, oS rfl, oS rfl, oS rfl, oS rfl, .inl (by rw [renO_str]; exact congrArg (fun d => some (AObj.row (d.map str))) (flE_snoc z.S x d).symm), oS rfl, oM rfl, oM rfl, oM rfl, oM rfl, oM rfl, oM rfl, .inl (by rw [renO_it _ _ rfl]; exact congrArg (fun S => some (itX 13 m.c S)) (seen_snoc z.S x)), True.intro⟩, rfl, rfl, rfl⟩
  · cases hd; cases hm
    refine acalls_of_awp hT mixed Tryd.func41 rfl (by kernel_rfl) (by kernel_rfl) (Nat.le_of_ble_eq_true rfl) ?_
    refine callW (cs := [bo false, i64 (sec : Nat), .slc 1 0 6 1, .slc 2 0 6 1]) (rest := [i64 5, i64 0]) hp rfl rfl rfl ?_
    refine Ob.intro (show (0 : Int) ≤ 5 ∧ (5 : Int) < ((6 : Nat) : Int) from ⟨by omega, by omega⟩) ?_
    refine loopI (α := Fl m) (fun z => [(0, .ptr 0 0), (1, i64 5), (21, .ptr 15 0)]) (fun z => (Wd.mk false sec [d0, d1, d2, d3, d4, flE z.S d] [m0, m1, m2, m3, m4, m]).H ++ [itE 14 m.c z.S]) (fun z => m.L.length - z.S.length) ⟨[], List.nodup_nil, fun _ h => by cases h⟩ [0, 1, 2, 3, 4, 5, 6, 7, 8, 9, 10, 11, 12, 13, 14, 15] ⟨⟨rfl, rfl, rfl, True.intro⟩, ⟨.inl rfl, .inl rfl, .inl rfl, oS rfl, oS rfl, oS rfl, oS rfl, oS rfl, oS rfl, oM rfl, oM rfl, oM rfl, oM rfl, oM rfl, oM rfl, .inl rfl, True.intro⟩, rfl, rfl, rfl⟩ ?_
    intro z K hK
    refine nextK_of hok z.sub (fun hall => ?_) (fun x hx hn => ?_)
    · refine Ob.intro (show (0 : Int) ≤ 5 ∧ (5 : Int) < ((6 : Nat) : Int) from ⟨by omega, by omega⟩) ?_
      have hfl := z.all hok (fun e he => (hks e he).1) hall d
      exact endH rfl rfl rfl ⟨.inl rfl, .inl rfl, .inl rfl, .inl rfl, .inl rfl, .inl rfl, .inl rfl, .inl rfl, .inl (by rw [hfl]), .inl rfl, .inl rfl, .inl rfl, .inl rfl, .inl rfl, .inl rfl, True.intro⟩ (Nat.le_refl 15) (Wd.below _) rfl
    · have hxk := hks x hx
      refine Ob.intro rfl ?_
      refine optK_intro (entM_ent hok (S := z.S) hx) ?_
      refine Ob.intro (show (0 : Int) ≤ 5 ∧ (5 : Int) < ((6 : Nat) : Int) from ⟨by omega, by omega⟩) ?_
      refine Ob.intro (show (0 : Int) ≤ x.1 ∧ (x.1 : Int) < ((sec : Nat) : Int) from hxk) ?_
      refine wr_str (R := flE z.S d) (k := x.1.toNat) rfl rfl (by omega) (by rw [flE_len]; omega) ?_
      exact hK (z.nx hok hx hn) [0, 1, 2, 3, 4, 5, 6, 7, 8, 9, 10, 11, 12, 13, 14, 15] _ (by have := (z.lt hok hx hn).2; show _ = m.L.length - (z.S ++ [x]).length + 1; rw [List.length_append]; simp only [List.length_cons, List.length_nil]; omega) ⟨⟨rfl, rfl, rfl, True.intro⟩, ⟨.inl rfl, .inl rfl, .inl rfl, oS rfl, oS rfl, oS rfl, oS rfl, oS rfl, .inl (by rw [renO_str]; exact congrArg (fun d => some (AObj.row (d.map str))) (flE_snoc z.S x d).symm), oM rfl, oM rfl, oM rfl, oM rfl, oM rfl, oM rfl, .inl (by rw [renO_it _ _ rfl]; exact congrArg (fun S => some (itX 14 m.c S)) (seen_snoc z.S x)), True.intro⟩, rfl, rfl, rfl⟩
theorem flush_7 (sec : Nat) (D : List (List ByteArray)) (M : List Mp) (hD : D.length = 7) (hM : M.length = 7) (e : Int) (d : List ByteArray) (m : Mp) (hd : D[e.toNat]? = some d) (hm : M[e.toNat]? = some m) (hin : inS sec 7 e 0) (hok : m.ok) (hks : ∀ x ∈ m.L, 0 ≤ x.1 ∧ x.1 < sec) (hl : d.length = sec) :
    ACalls Tryd.prog 41 [.ptr 0 0, i64 e] (Wd.mk false sec D M).H (RetH (i64 0) (Wd.mk false sec (D.set e.toNat (dryM m d)) (M.set e.toNat m.clr)).H) := by
  match D, hD, M, hM with
  | [d0, d1, d2, d3, d4, d5, d6], _, [m0, m1, m2, m3, m4, m5, m6], _ =>
  have hp := power_ok false (sec : Nat) 7 e 0
  rw [if_neg (by decide), if_pos hin] at hp
  obtain ⟨⟨h1, h2⟩, h3, h4⟩ := hin
  have he : e = 0 ∨ e = 1 ∨ e = 2 ∨ e = 3 ∨ e = 4 ∨ e = 5 ∨ e = 6 := by omega
  rcases he with rfl | rfl | rfl | rfl | rfl | rfl | rfl
  · cases hd; cases hm
    refine acalls_of_awp hT mixed Tryd.func41 rfl (by kernel_rfl) (by kernel_rfl) (Nat.le_of_ble_eq_true rfl) ?_
    refine callW (cs := [bo false, i64 (sec : Nat), .slc 1 0 7 1, .slc 2 0 7 1]) (rest := [i64 0, i64 0]) hp rfl rfl rfl ?_
    refine Ob.intro (show (0 : Int) ≤ 0 ∧ (0 : Int) < ((7 : Nat) : Int) from ⟨by omega, by omega⟩) ?_
    refine loopI (α := Fl m) (fun z => [(0, .ptr 0 0), (1, i64 0), (21, .ptr 17 0)]) (fun z => (Wd.mk false sec [flE z.S d, d1, d2, d3, d4, d5, d6] [m, m1, m2, m3, m4, m5, m6]).H ++ [itE 10 m.c z.S]) (fun z => m.L.length - z.S.length) ⟨[], List.nodup_nil, fun _ h => by cases h⟩ [0, 1, 2, 3, 4, 5, 6, 7, 8, 9, 10, 11, 12, 13, 14, 15, 16, 17] ⟨⟨rfl, rfl, rfl, True.intro⟩, ⟨.inl rfl, .inl rfl, .inl rfl, oS rfl, oS rfl, oS rfl, oS rfl, oS rfl, oS rfl, oS rfl, oM rfl, oM rfl, oM rfl, oM rfl, oM rfl, oM rfl, oM rfl, .inl rfl, True.intro⟩, rfl, rfl, rfl⟩ ?_
    intro z K hK
    refine nextK_of hok z.sub (fun hall => ?_) (fun x hx hn => ?_)
    · refine Ob.intro (show (0 : Int) ≤ 0 ∧ (0 : Int) < ((7 : Nat) : Int) from ⟨by omega, by omega⟩) ?_
      have hfl := z.all hok (fun e he => (hks e he).1) hall d
      exact endH rfl rfl rfl ⟨.inl rfl, .inl rfl, .inl rfl, .inl (by rw [hfl]), .inl rfl, .inl rfl, .inl rfl, .inl rfl, .inl rfl, .inl rfl, .inl rfl, .inl rfl, .inl rfl, .inl rfl, .inl rfl, .inl rfl, .inl rfl, True.intro⟩ (Nat.le_refl 17) (Wd.below _) rfl
    · have hxk := hks x hx
      refine Ob.intro rfl ?_
      refine optK_intro (entM_ent hok (S := z.S) hx) ?_
      refine Ob.intro (show (0 : Int) ≤ 0 ∧ (0 : Int) < ((7 : Nat) : Int) from ⟨by omega, by omega⟩) ?_
      refine Ob.intro (show (0 : Int) ≤ x.1 ∧ (x.1 : Int) < ((sec : Nat) : Int) from hxk) ?_
      refine wr_str (R := flE z.S d) (k := x.1.toNat) rfl rfl (by omega) (by rw [flE_len]; omega) ?_
      exact hK (z.nx hok hx hn) [0, 1, 2, 3, 4, 5, 6, 7, 8, 9, 10, 11, 12, 13, 14, 15, 16, 17] _ (by have := (z.lt hok hx hn).2; show _ = m.L.length - (z.S ++ [x]).length + 1; rw [List.length_append]; simp only [List.length_cons, List.length_nil]; omega) ⟨⟨rfl, rfl, rfl, True.intro⟩, ⟨.inl rfl, .inl rfl, .inl rfl, .inl (by rw [renO_str]; exact congrArg (fun d => some (AObj.row (d.map str))) (flE_snoc z.S x d).symm), oS rfl, oS rfl, oS rfl, oS rfl, oS rfl, oS rfl, oM rfl, oM rfl, oM rfl, oM rfl, oM rfl, oM rfl, oM rfl, .inl (by rw [renO_it _ _ rfl]; exact congrArg (fun S => some (itX 10 m.c S)) (seen_snoc z.S x)), True.intro⟩, rfl, rfl, rfl⟩
  · cases hd; cases hm
    refine acalls_of_awp hT mixed Tryd.func41 rfl (by kernel_rfl) (by kernel_rfl) (Nat.le_of_ble_eq_true rfl) ?_
    refine callW (cs := [bo false, i64 (sec : Nat), .slc 1 0 7 1, .slc 2 0 7 1]) (rest := [i64 1, i64 0]) hp rfl rfl rfl ?_
    refine Ob.intro (show (0 : Int) ≤ 1 ∧ (1 : Int) < ((7 : Nat) : Int) from ⟨by omega, by omega⟩) ?_
    refine loopI (α := Fl m) (fun z => [(0, .ptr 0 0), (1, i64 1), (21, .ptr 17 0)]) (fun z => (Wd.mk false sec [d0, flE z.S d, d2, d3, d4, d5, d6] [m0, m, m2, m3, m4, m5, m6]).H ++ [itE 11 m.c z.S]) (fun z => m.L.length - z.S.length) ⟨[], List.nodup_nil, fun _ h => by cases h⟩ [0, 1, 2, 3, 4, 5, 6, 7, 8, 9, 10, 11, 12, 13, 14, 15, 16, 17] ⟨⟨rfl, rfl, rfl, True.intro⟩, ⟨.inl rfl, .inl rfl, .inl rfl, oS rfl, oS rfl, oS rfl, oS rfl, oS rfl, oS rfl, oS rfl, oM rfl, oM rfl, oM rfl, oM rfl, oM rfl, oM rfl, oM rfl, .inl rfl, True.intro⟩, rfl, rfl, rfl⟩ ?_
    intro z K hK
    refine nextK_of hok z.sub (fun hall => ?_) (fun x hx hn => ?_)
    · refine Ob.intro (show (0 : Int) ≤ 1 ∧ (1 : Int) < ((7 : Nat) : Int) from ⟨by omega, by omega⟩) ?_
      have hfl := z.all hok (fun e he => (hks e he).1) hall d
      exact endH rfl rfl rfl ⟨.inl rfl, .inl rfl, .inl rfl, .inl rfl, .inl (by rw [hfl]), .inl rfl, .inl rfl, .inl rfl, .inl rfl, .inl rfl, .inl rfl, .inl rfl, .inl rfl, .inl rfl, .inl rfl, .inl rfl, .inl rfl, True.intro⟩ (Nat.le_refl 17) (Wd.below _) rfl
    · have hxk := hks x hx
      refine Ob.intro rfl ?_
      refine optK_intro (entM_ent hok (S := z.S) hx) ?_
      refine Ob.intro (show (0 : Int) ≤ 1 ∧ (1 : Int) < ((7 : Nat) : Int) from ⟨by omega, by omega⟩) ?_
      refine Ob.intro (show (0 : Int) ≤ x.1 ∧ (x.1 : Int) < ((sec : Nat) : Int) from hxk) ?_
      refine wr_str (R := flE z.S d) (k := x.1.toNat) rfl rfl (by omega) (by rw [flE_len]; omega) ?_
      exact hK (z.nx hok hx hn) [0, 1, 2, 3, 4, 5, 6, 7, 8, 9, 10, 11, 12, 13, 14, 15, 16, 17] _ (by have := (z.lt hok hx hn).2; show _ = m.L.length - (z.S ++ [x]).length + 1; rw [List.length_append]; simp only [List.length_cons, List.length_nil]; omega) ⟨⟨rfl, rfl, rfl, True.intro⟩, ⟨.inl rfl, .inl rfl, .inl rfl, oS rfl, .inl (by rw [renO_str]; exact congrArg (fun d => some (AObj.row (d.map str))) (flE_snoc z.S x d).symm), oS rfl, oS rfl, oS rfl, oS rfl, oS rfl, oM rfl, oM rfl, oM rfl, oM rfl, oM rfl, oM rfl, oM rfl, .inl (by rw [renO_it _ _ rfl]; exact congrArg (fun S => some (itX 11 m.c S)) (seen_snoc z.S x)), True.intro⟩, rfl, rfl, rfl⟩
  · cases hd; cases hm
    refine acalls_of_awp hT mixed Tryd.func41 rfl (by kernel_rfl) (by kernel_rfl) (Nat.le_of_ble_eq_true rfl) ?_
    refine callW (cs := [bo false, i64 (sec : Nat), .slc 1 0 7 1, .slc 2 0 7 1]) (rest := [i64 2, i64 0]) hp rfl rfl rfl ?_
    refine Ob.intro (show (0 : Int) ≤ 2 ∧ (2 : Int) < ((7 : Nat) : Int) from ⟨by omega, by omega⟩) ?_
    refine loopI (α := Fl m) (fun z => [(0, .ptr 0 0), (1, i64 2), (21, .ptr 17 0)]) (fun z => (Wd.mk false sec [d0, d1, flE z.S d, d3, d4, d5, d6] [m0, m1, m, m3, m4, m5, m6]).H ++ [itE 12 m.c z.S]) (fun z => m.L.length - z.S.length) ⟨[], List.nodup_nil, fun _ h => by cases h⟩ [0, 1, 2, 3, 4, 5, 6, 7, 8, 9, 10, 11, 12, 13, 14, 15, 16, 17] ⟨⟨rfl, rfl, rfl, True.intro⟩, ⟨.inl rfl, .inl rfl, .inl rfl, oS rfl, oS rfl, oS rfl, oS rfl, oS rfl, oS rfl, oS rfl, oM rfl, oM rfl, oM rfl, oM rfl, oM rfl, oM rfl, oM rfl, .inl rfl, True.intro⟩, rfl, rfl, rfl⟩ ?_
    intro z K hK
    refine nextK_of hok z.sub (fun hall => ?_) (fun x hx hn => ?_)
    · refine Ob.intro (show (0 : Int) ≤ 2 ∧ (2 : Int) < ((7 : Nat) : Int) from ⟨by omega, by omega⟩) ?_
      have hfl := z.all hok (fun e he => (hks e he).1) hall d
      exact endH rfl rfl rfl ⟨.inl rfl, .inl rfl, .inl rfl, .inl rfl, .inl rfl, .inl (by rw [hfl]), .inl rfl, .inl rfl, .inl rfl, .inl rfl, .inl rfl, .inl rfl, .inl rfl, .inl rfl, .inl rfl, .inl rfl, .inl rfl, True.intro⟩ (Nat.le_refl 17) (Wd.below _) rfl
    · have hxk := hks x hx
      refine Ob.intro rfl ?_
      refine optK_intro (entM_ent hok (S := z.S) hx) ?_
      refine Ob.intro (show (0 : Int) ≤ 2 ∧ (2 : Int) < ((7 : Nat) : Int) from ⟨by omega, by omega⟩) ?_
      refine Ob.intro (show (0 : Int) ≤ x.1 ∧ (x.1 : Int) < ((sec : Nat) : Int) from hxk) ?_
      refine wr_str (R := flE z.S d) (k := x.1.toNat) rfl rfl (by omega) (by rw [flE_len]; omega) ?_
      exact hK (z.nx hok hx hn) [0, 1, 2, 3, 4, 5, 6, 7, 8, 9, 10, 11, 12, 13, 14, 15, 16, 17] _ (by have := (z.lt hok hx hn).2; show _ = m.L.length - (z.S ++ [x]).length + 1; rw [List.length_append]; simp only [List.length_cons, List.length_nil]; omega) ⟨⟨rfl, rfl, rfl, True.intro⟩, ⟨.inl rfl, .inl rfl, .inl rfl, oS rfl, oS rfl, .inl (by rw [renO_str]; exact congrArg (fun d => some (AObj.row (d.map str))) (flE_snoc z.S x d).symm), oS rfl, oS rfl, oS rfl, oS rfl, oM rfl, oM rfl, oM rfl, oM rfl, oM rfl, oM rfl, oM rfl, .inl (by rw [renO_it _ _ rfl]; exact congrArg (fun S => some (itX 12 m.c S)) (seen_snoc z.S x)), True.intro⟩, rfl, rfl, rfl⟩
  · cases hd; cases hm
    refine acalls_of_awp hT mixed Tryd.func41 rfl (by kernel_rfl) (by kernel_rfl) (Nat.le_of_ble_eq_true rfl) ?_
    refine callW (cs := [bo false, i64 (sec : Nat), .slc 1 0 7 1, .slc 2 0 7 1]) (rest := [i64 3, i64 0]) hp rfl rfl rfl ?_
    refine Ob.intro (show (0 : Int) ≤ 3 ∧ (3 : Int) < ((7 : Nat) : Int) from ⟨by omega, by omega⟩) ?_
    refine loopI (α := Fl m) (fun z => [(0, .ptr 0 0), (1, i64 3), (21, .ptr 17 0)]) (fun z => (Wd.mk false sec [d0, d1, d2, flE z.S d, d4, d5, d6] [m0, m1, m2, m, m4, m5, m6]).H ++ [itE 13 m.c z.S]) (fun z => m.L.length - z.S.length) ⟨[], List.nodup_nil, fun _ h => by cases h⟩ [0, 1, 2, 3, 4, 5, 6, 7, 8, 9, 10, 11, 12, 13, 14, 15, 16, 17] ⟨⟨rfl, rfl, rfl, True.intro⟩, ⟨.inl rfl, .inl rfl, .inl rfl, oS rfl, oS rfl, oS rfl, oS rfl, oS rfl, oS rfl, oS rfl, oM rfl, oM rfl, oM rfl, oM rfl, oM rfl, oM rfl, oM rfl, .inl rfl, True.intro⟩, rfl, rfl, rfl⟩ ?_
    intro z K hK
    refine nextK_of hok z.sub (fun hall => ?_) (fun x hx hn => ?_)
    · refine Ob.intro (show (0 : Int) ≤ 3 ∧ (3 : Int) < ((7 : Nat) : Int) from ⟨by omega, by omega⟩) ?_
      have hfl := z.all hok (fun e he => (hks e he).1) hall d
      exact endH rfl rfl rfl ⟨.inl rfl, .inl rfl, .inl rfl, .inl rfl, .inl rfl, .inl rfl, .inl (by rw [hfl]), .inl rfl, .inl rfl, .inl rfl, .inl rfl, .inl rfl, .inl rfl, .inl rfl, .inl rfl, .inl rfl, .inl rfl, True.intro⟩ (Nat.le_refl 17) (Wd.below _) rfl
    · have hxk := hks x hx
      refine Ob.intro rfl ?_
      refine optK_intro (entM_ent hok (S := z.S) hx) ?_
      refine Ob.intro (show (0 : Int) ≤ 3 ∧ (3 : Int) < ((7 : Nat) : Int) from ⟨by omega, by omega⟩) ?_
      refine Ob.intro (show (0 : Int) ≤ x.1 ∧ (x.1 : Int) < ((sec : Nat) : Int) from hxk) ?_
      refine wr_str (R := flE z.S d) (k := x.1.toNat) rfl rfl (by omega) (by rw [flE_len]; omega) ?_
      exact hK (z.nx hok hx hn) [0, 1, 2, 3, 4, 5, 6, 7, 8, 9, 10, 11, 12, 13, 14, 15, 16, 17] _ (by have := (z.lt hok hx hn).2; show _ = m.L.length - (z.S ++ [x]).length + 1; rw [List.length_append]; simp only [List.length_cons, List.length_nil]; omega) ⟨⟨rfl, rfl, rfl, True.intro⟩, ⟨.inl rfl, .inl rfl, .inl rfl, oS rfl, oS rfl, oS rfl, .inl (by rw [renO_str]; exact congrArg (fun d => some (AObj.row (d.map str))) (flE_snoc z.S x d).symm), oS rfl, oS rfl, oS rfl, oM rfl, oM rfl, oM rfl, oM rfl, oM rfl, oM rfl, oM rfl, .inl (by rw [renO_it _ _ rfl]; exact congrArg (fun S => some (itX 13 m.c S)) (seen_snoc z.S x)), True.intro⟩, rfl, rfl, rfl⟩
  · cases hd; cases hm
    refine acalls_of_awp hT mixed Tryd.func41 rfl (by kernel_rfl) (by kernel_rfl) (Nat.le_of_ble_eq_true rfl) ?_
    refine callW (cs := [bo false, i64 (sec : Nat), .slc 1 0 7 1, .slc 2 0 7 1]) (rest := [i64 4, i64 0]) hp rfl rfl rfl ?_
    refine Ob.intro (show (0 : Int) ≤ 4 ∧ (4 : Int) < ((7 : Nat) : Int) from ⟨by omega, by omega⟩) ?_
    refine loopI (α := Fl m) (fun z => [(0, .ptr 0 0), (1, i64 4), (21, .ptr 17 0)]) (fun z => (Wd.mk false sec [d0, d1, d2, d3, flE z.S d, d5, d6] [m0, m1, m2, m3, m, m5, m6]).H ++ [itE 14 m.c z.S]) (fun z => m.L.length - z.S.length) ⟨[], List.nodup_nil, fun _ h => by cases h⟩ [0, 1, 2, 3, 4, 5, 6, 7, 8, 9, 10, 11, 12, 13, 14, 15, 16, 17] ⟨⟨rfl, rfl, rfl, True.intro⟩, ⟨.inl rfl, .inl rfl, .inl rfl, oS rfl, oS rfl, oS rfl, oS rfl, oS rfl, oS rfl, oS rfl, oM rfl, oM rfl, oM rfl, oM rfl, oM rfl, oM rfl, oM rfl, .inl rfl, True.intro⟩, rfl, rfl, rfl⟩ ?_
    intro z K hK
    refine nextK_of hok z.sub (fun hall => ?_) (fun x hx hn => ?_)
    · refine Ob.intro (show (0 : Int) ≤ 4 ∧ (4 : Int) < ((7 : Nat) : Int) from ⟨by omega, by omega⟩) ?_
      have hfl := z.all hok (fun e he => (hks e he).1) hall d
      exact endH rfl rfl rfl ⟨.inl rfl, .inl rfl, .inl rfl, .inl rfl, .inl rfl, .inl rfl, .inl rfl, .inl (by rw [hfl]), .inl rfl, .inl rfl, .inl rfl, .inl rfl, .inl rfl, .inl rfl, .inl rfl, .inl rfl, .inl rfl, True.intro⟩ (Nat.le_refl 17) (Wd.below _) rfl
    · have hxk := hks x hx
      refine Ob.intro rfl ?_
      refine optK_intro (entM_ent hok (S := z.S) hx) ?_
      refine Ob.intro (show (0 : Int) ≤ 4 ∧ (4 : Int) < ((7 : Nat) : Int) from ⟨by omega, by omega⟩) ?_
      refine Ob.intro (show (0 : Int) ≤ x.1 ∧ (x.1 : Int) < ((sec : Nat) : Int) from hxk) ?_
      refine wr_str (R := flE z.S d) (k := x.1.toNat) rfl rfl (by omega) (by rw [flE_len]; omega) ?_
      exact hK (z.nx hok hx hn) [0, 1, 2, 3, 4, 5, 6, 7, 8, 9, 10, 11, 12, 13, 14, 15, 16, 17] _ (by have := (z.lt hok hx hn).2; show _ = m.L.length - (z.S ++ [x]).length + 1; rw [List.length_append]; simp only [List.length_cons, List.length_nil]; omega) ⟨⟨rfl, rfl, rfl, True.intro⟩, ⟨.inl rfl, .inl rfl, .inl rfl, oS rfl, oS rfl, oS rfl, oS rfl, .inl (by rw [renO_str]; exact congrArg (fun d => some (AObj.row (d.map str))) (flE_snoc z.S x d).symm), oS rfl, oS rfl, oM rfl, oM rfl, oM rfl, oM rfl, oM rfl, oM rfl, oM rfl, .inl (by rw [renO_it _ _ rfl]; exact congrArg (fun S => some (itX 14 m.c S)) (seen_snoc z.S x)), True.intro⟩, rfl, rfl, rfl⟩
  · cases hd; cases hm
    refine acalls_of_awp hT mixed Tryd.func41 rfl (by kernel_rfl) (by kernel_rfl) (Nat.le_of_ble_eq_true rfl) ?_
    refine callW (cs := [bo false, i64 (sec : Nat), .slc 1 0 7 1, .slc 2 0 7 1]) (rest := [i64 5, i64 0]) hp rfl rfl rfl ?_
    refine Ob.intro (show (0 : Int) ≤ 5 ∧ (5 : Int) < ((7 : Nat) : Int) from ⟨by omega, by omega⟩) ?_
    refine loopI (α := Fl m) (fun z => [(0, .ptr 0 0), (1, i64 5), (21, .ptr 17 0)]) (fun z => (Wd.mk false sec [d0, d1, d2, d3, d4, flE z.S d, d6] [m0, m1, m2, m3, m4, m, m6]).H ++ [itE 15 m.c z.S]) (fun z => m.L.length - z.S.length) ⟨[], List.nodup_nil, fun _ h => by cases h⟩ [0, 1, 2, 3, 4, 5, 6, 7, 8, 9, 10, 11, 12, 13, 14, 15, 16, 17] ⟨⟨rfl, rfl, rfl, True.intro⟩, ⟨.inl rfl, .inl rfl, .inl rfl, oS rfl, oS rfl, oS rfl, oS rfl, oS rfl, oS rfl, oS rfl, oM rfl, oM rfl, oM rfl, oM rfl, oM rfl, oM rfl, oM rfl, .inl rfl, True.intro⟩, rfl, rfl, rfl⟩ ?_
    intro z K hK
    refine nextK_of hok z.sub (fun hall => ?_) (fun x hx hn => ?_)
    · refine Ob.intro (show (0 : Int) ≤ 5 ∧ (5 : Int) < ((7 : Nat) : Int) from ⟨by omega, by omega⟩) ?_
      have hfl := z.all hok (fun e he => (hks e he).1) hall d
      exact endH rfl rfl rfl ⟨.inl rfl, .inl rfl, .inl rfl, .inl rfl, .inl rfl, .inl rfl, .inl rfl, .inl rfl, .inl (by rw [hfl]), .inl rfl, .inl rfl, .inl rfl, .inl rfl, .inl rfl, .inl rfl, .inl rfl, .inl rfl, True.intro⟩ (Nat.le_refl 17) (Wd.below _) rfl
    · have hxk := hks x hx
      refine Ob.intro rfl ?_
      refine optK_intro (entM_ent hok (S := z.S) hx) ?_
      refine Ob.intro (show (0 : Int) ≤ 5 ∧ (5 : Int) < ((7 : Nat) : Int) from ⟨by omega, by omega⟩) ?_
      refine Ob.intro (show (0 : Int) ≤ x.1 ∧ (x.1 : Int) < ((sec : Nat) : Int) from hxk) ?_
      refine wr_str (R := flE z.S d) (k := x.1.toNat) rfl rfl (by omega) (by rw [flE_len]; omega) ?_
      exact hK (z.nx hok hx hn) [0, 1, 2, 3, 4, 5, 6, 7, 8, 9, 10, 11, 12, 13, 14, 15, 16, 17] _ (by have := (z.lt hok hx hn).2; show _ = m.L.length - (z.S ++ [x]).length + 1; rw [List.length_append]; simp only [List.length_cons, List.length_nil]; omega) ⟨⟨rfl, rfl, rfl, True.intro⟩, ⟨.inl rfl, .inl rfl, .inl rfl, oS rfl, oS rfl, oS rfl, oS rfl, oS rfl, .inl (by rw [renO_str]; exact congrArg (fun d => some (AObj.row (d.map str))) (flE_snoc z.S x d).symm), oS rfl, oM rfl, oM rfl, oM rfl, oM rfl, oM rfl, oM rfl, oM rfl, .inl (by rw [renO_it _ _ rfl]; exact congrArg (fun S => some (itX 15 m.c S)) (seen_snoc z.S x)), True.intro⟩, rfl, rfl, rfl⟩
  · cases hd; cases hm
    refine acalls_of_awp hT mixed Tryd.func41 rfl (by kernel_rfl) (by kernel_rfl) (Nat.le_of_ble_eq_true rfl) ?_
    refine callW (cs := [bo false, i64 (sec : Nat), .slc 1 0 7 1, .slc 2 0 7 1]) (rest := [i64 6, i64 0]) hp rfl rfl rfl ?_
    refine Ob.intro (show (0 : Int) ≤ 6 ∧ (6 : Int) < ((7 : Nat) : Int) from ⟨by omega, by omega⟩) ?_
    refine loopI (α := Fl m) (fun z => [(0, .ptr 0 0), (1, i64 6), (21, .ptr 17 0)]) (fun z => (Wd.mk false sec [d0, d1, d2, d3, d4, d5, flE z.S d] [m0, m1, m2, m3, m4, m5, m]).H ++ [itE 16 m.c z.S]) (fun z => m.L.length - z.S.length) ⟨[], List.nodup_nil, fun _ h => by cases h⟩ [0, 1, 2, 3, 4, 5, 6, 7, 8, 9, 10, 11, 12, 13, 14, 15, 16, 17] ⟨⟨rfl, rfl, rfl, True.intro⟩, ⟨.inl rfl, .inl rfl, .inl rfl, oS rfl, oS rfl, oS rfl, oS rfl, oS rfl, oS rfl, oS rfl, oM rfl, oM rfl, oM rfl, oM rfl, oM rfl, oM rfl, oM rfl, .inl rfl, True.intro⟩, rfl, rfl, rfl⟩ ?_
    intro z K hK
    refine nextK_of hok z.sub (fun hall => ?_) (fun x hx hn => ?_)
    · refine Ob.intro (show (0 : Int) ≤ 6 ∧ (6 : Int) < ((7 : Nat) : Int) from ⟨by omega, by omega⟩) ?_
      have hfl := z.all hok (fun e he => (hks e he).1) hall d
      exact endH rfl rfl rfl ⟨.inl rfl, .inl rfl, .inl rfl, .inl rfl, .inl rfl, .inl rfl, .inl rfl, .inl rfl, .inl rfl, .inl (by rw [hfl]), .inl rfl, .inl rfl, .inl rfl, .inl rfl, .inl rfl, .inl rfl, .inl rfl, True.intro⟩ (Nat.le_refl 17) (Wd.below _) rfl
    · have hxk := hks x hx
      refine Ob.intro rfl ?_
      refine optK_intro (entM_ent hok (S := z.S) hx) ?_
      refine Ob.intro (show (0 : Int) ≤ 6 ∧ (6 : Int) < ((7 : Nat) : Int) from ⟨by omega, by omega⟩) ?_
      refine Ob.intro (show (0 : Int) ≤ x.1 ∧ (x.1 : Int) < ((sec : Nat) : Int) from hxk) ?_
      refine wr_str (R := flE z.S d) (k := x.1.toNat) rfl rfl (by omega) (by rw [flE_len]; omega) ?_
      exact hK (z.nx hok hx hn) [0, 1, 2, 3, 4, 5, 6, 7, 8, 9, 10, 11, 12, 13, 14, 15, 16, 17] _ (by have := (z.lt hok hx hn).2; show _ = m.L.length - (z.S ++ [x]).length + 1; rw [List.length_append]; simp only [List.length_cons, List.length_nil]; omega) ⟨⟨rfl, rfl, rfl, True.intro⟩, ⟨.inl rfl, .inl rfl, .inl rfl, oS rfl, oS rfl, oS rfl, oS rfl, oS rfl, oS rfl, .inl (by rw [renO_str]; exact congrArg (fun d => some (AObj.row (d.map str))) (flE_snoc z.S x d).symm), oM rfl, oM rfl, oM rfl, oM rfl, oM rfl, oM rfl, oM rfl, .inl (by rw [renO_it _ _ rfl]; exact congrArg (fun S => some (itX 16 m.c S)) (seen_snoc z.S x)), True.intro⟩, rfl, rfl, rfl⟩
theorem flush_8 (sec : Nat) (D : List (List ByteArray)) (M : List Mp) (hD : D.length = 8) (hM : M.length = 8) (e : Int) (d : List ByteArray) (m : Mp) (hd : D[e.toNat]? = some d) (hm : M[e.toNat]? = some m) (hin : inS sec 8 e 0) (hok : m.ok) (hks : ∀ x ∈ m.L, 0 ≤ x.1 ∧ x.1 < sec) (hl : d.length = sec) :
    ACalls Tryd.prog 41 [.ptr 0 0, i64 e] (Wd.mk false sec D M).H (RetH (i64 0) (Wd.mk false sec (D.set e.toNat (dryM m d)) (M.set e.toNat m.clr)).H) := by
  match D, hD, M, hM with
  | [d0, d1, d2, d3, d4, d5, d6, d7], _, [m0, m1, m2, m3, m4, m5, m6, m7], _ =>
  have hp := power_ok false (sec : Nat) 8 e 0
  rw [if_neg (by decide), if_pos hin] at hp
  obtain ⟨⟨h1, h2⟩, h3, h4⟩ := hin
  have he : e = 0 ∨ e = 1 ∨ e = 2 ∨ e = 3 ∨ e = 4 ∨ e = 5 ∨ e = 6 ∨ e = 7 := by omega
  rcases he with rfl | rfl | rfl | rfl | rfl | rfl | rfl | rfl
  · cases hd; cases hm
    refine acalls_of_awp hT mixed Tryd.func41 rfl (by kernel_rfl) (by kernel_rfl) (Nat.le_of_ble_eq_true rfl) ?_
    refine callW (cs := [bo false, i64 (sec : Nat), .slc 1 0 8 1, .slc 2 0 8 1]) (rest := [i64 0, i64 0]) hp rfl rfl rfl ?_
    refine Ob.intro (show (0 : Int) ≤ 0 ∧ (0 : Int) < ((8 : Nat) : Int) from ⟨by omega, by omega⟩) ?_
    refine loopI (α := Fl m) (fun z => [(0, .ptr 0 0), (1, i64 0), (21, .ptr 19 0)]) (fun z => (Wd.mk false sec [flE z.S d, d1, d2, d3, d4, d5, d6, d7] [m, m1, m2, m3, m4, m5, m6, m7]).H ++ [itE 11 m.c z.S]) (fun z => m.L.length - z.S.length) ⟨[], List.nodup_nil, fun _ h => by cases h⟩ [0, 1, 2, 3, 4, 5, 6, 7, 8, 9, 10, 11, 12, 13, 14, 15, 16, 17, 18, 19] ⟨⟨rfl, rfl, rfl, True.intro⟩, ⟨.inl rfl, .inl rfl, .inl rfl, oS rfl, oS rfl, oS rfl, oS rfl, oS rfl, oS rfl, oS rfl, oS rfl, oM rfl, oM rfl, oM rfl, oM rfl, oM rfl, oM rfl, oM rfl, oM rfl, .inl rfl, True.intro⟩, rfl, rfl, rfl⟩ ?_
    intro z K hK
    refine nextK_of hok z.sub (fun hall => ?_) (fun x hx hn => ?_)
    · refine Ob.intro (show (0 : Int) ≤ 0 ∧ (0 : Int) < ((8 : Nat) : Int) from ⟨by omega, by omega⟩) ?_
      have hfl := z.all hok (fun e he => (hks e he).1) hall d
      exact endH rfl rfl rfl ⟨.inl rfl, .inl rfl, .inl rfl, .inl (by rw [hfl]), .inl rfl, .inl rfl, .inl rfl, .inl rfl, .inl rfl, .inl rfl, .inl rfl, .inl rfl, .inl rfl, .inl rfl, .inl rfl, .inl rfl, .inl rfl, .inl rfl, .inl rfl, True.intro⟩ (Nat.le_refl 19) (Wd.below _) rfl
    · have hxk := hks x hx
      refine Ob.intro rfl ?_
      refine optK_intro (entM_ent hok (S := z.S) hx) ?_
      refine Ob.intro (show (0 : Int) ≤ 0 ∧ (0 : Int) < ((8 : Nat) : Int) from ⟨by omega, by omega⟩) ?_
      refine Ob.intro (show (0 : Int) ≤ x.1 ∧ (x.1 : Int) < ((sec : Nat) : Int) from hxk) ?_
      refine wr_str (R := flE z.S d) (k := x.1.toNat) rfl rfl (by omega) (by rw [flE_len]; omega) ?_
      exact hK (z.nx hok hx hn) [0, 1, 2, 3, 4, 5, 6, 7, 8, 9, 10, 11, 12, 13, 14, 15, 16, 17, 18, 19] _ (by have := (z.lt hok hx hn).2; show _ = m.L.length - (z.S ++ [x]).length + 1; rw [List.length_append]; simp only [List.length_cons, List.length_nil]; omega) ⟨⟨rfl, rfl, rfl, True.intro⟩, ⟨.inl rfl, .inl rfl, .inl rfl, .inl (by rw [renO_str]; exact congrArg (fun d => some (AObj.row (d.map str))) (flE_snoc z.S x d).symm), oS rfl, oS rfl, oS rfl, oS rfl, oS rfl, oS rfl, oS rfl, oM rfl, oM rfl, oM rfl, oM rfl, oM rfl, oM rfl, oM rfl, oM rfl, .inl (by rw [renO_it _ _ rfl]; exact congrArg (fun S => some (itX 11 m.c S)) (seen_snoc z.S x)), True.intro⟩, rfl, rfl, rfl⟩
  · cases hd; cases hm
    refine acalls_of_awp hT mixed Tryd.func41 rfl (by kernel_rfl) (by kernel_rfl) (Nat.le_of_ble_eq_true rfl) ?_
    refine callW (cs := [bo false, i64 (sec : Nat), .slc 1 0 8 1, .slc 2 0 8 1]) (rest := [i64 1, i64 0]) hp rfl rfl rfl ?_
    refine Ob.intro (show (0 : Int) ≤ 1 ∧ (1 : Int) < ((8 : Nat) : Int) from ⟨by omega, by omega⟩) ?_
    refine loopI (α := Fl m) (fun z => [(0, .ptr 0 0), (1, i64 1), (21, .ptr 19 0)]) (fun z => (Wd.mk false sec [d0, flE z.S d, d2, d3, d4, d5, d6, d7] [m0, m, m2, m3, m4, m5, m6, m7]).H ++ [itE 12 m.c z.S]) (fun z => m.L.length - z.S.length) ⟨[], List.nodup_nil, fun _ h => by cases h⟩ [0, 1, 2, 3, 4, 5, 6, 7, 8, 9, 10, 11, 12, 13, 14, 15, 16, 17, 18, 19] ⟨⟨rfl, rfl, rfl, True.intro⟩, ⟨.inl rfl, .inl rfl, .inl rfl, oS rfl, oS rfl, oS rfl, oS rfl, oS rfl, oS rfl, oS rfl, oS rfl, oM rfl, oM rfl, oM rfl, oM rfl, oM rfl, oM rfl, oM rfl, oM rfl, .inl rfl, True.intro⟩, rfl, rfl, rfl⟩ ?_
    intro z K hK
    refine nextK_of hok z.sub (fun hall => ?_) (fun x hx hn => ?_)
    · refine Ob.intro (show (0 : Int) ≤ 1 ∧ (1 : Int) < ((8 : Nat) : Int) from ⟨by omega, by omega⟩) ?_
      have hfl := z.all hok (fun e he => (hks e he).1) hall d
      exact endH rfl rfl rfl ⟨.inl rfl, .inl rfl, .inl rfl, .inl rfl, .inl (by rw [hfl]), .inl rfl, .inl rfl, .inl rfl, .inl rfl, .inl rfl, .inl rfl, .inl rfl, .inl rfl, .inl rfl, .inl rfl, .inl rfl, .inl rfl, .inl rfl, .inl rfl, True.intro⟩ (Nat.le_refl 19) (Wd.below _) rfl
    · have hxk := hks x hx
      refine Ob.intro rfl ?_
      refine optK_intro (entM_ent hok (S := z.S) hx) ?_
      refine Ob.intro (show (0 : Int) ≤ 1 ∧ (1 : Int) < ((8 : Nat) : Int) from ⟨by omega, by omega⟩) ?_
      refine Ob.intro (show (0 : Int) ≤ x.1 ∧ (x.1 : Int) < ((sec : Nat) : Int) from hxk) ?_
      refine wr_str (R := flE z.S d) (k := x.1.toNat) rfl rfl (by omega) (by rw [flE_len]; omega) ?_
      exact hK (z.nx hok hx hn) [0, 1, 2, 3, 4, 5, 6, 7, 8, 9, 10, 11, 12, 13, 14, 15, 16, 17, 18, 19] _ (by have := (z.lt hok hx hn).2; show _ = m.L.length - (z.S ++ [x]).length + 1; rw [List.length_append]; simp only [List.length_cons, List.length_nil]; omega) ⟨⟨rfl, rfl, rfl, True.intro⟩, ⟨.inl rfl, .inl rfl, .inl rfl, oS rfl, .inl (by rw [renO_str]; exact congrArg (fun d => some (AObj.row (d.map str))) (flE_snoc z.S x d).symm), oS rfl, oS rfl, oS rfl, oS rfl, oS rfl, oS rfl, oM rfl, oM rfl, oM rfl, oM rfl, oM rfl, oM rfl, oM rfl, oM rfl, .inl (by rw [renO_it _ _ rfl]; exact congrArg (fun S => some (itX 12 m.c S)) (seen_snoc z.S x)), True.intro⟩, rfl, rfl, rfl⟩
  · cases hd; cases hm
    refine acalls_of_awp hT mixed Tryd.func41 rfl (by kernel_rfl) (by kernel_rfl) (Nat.le_of_ble_eq_true rfl) ?_
    refine callW (cs := [bo false, i64 (sec : Nat), .slc 1 0 8 1, .slc 2 0 8 1]) (rest := [i64 2, i64 0]) hp rfl rfl rfl ?_
    refine Ob.intro (show (0 : Int) ≤ 2 ∧ (2 : Int) < ((8 : Nat) : Int) from ⟨by omega, by omega⟩) ?_
    refine loopI (α := Fl m) (fun z => [(0, .ptr 0 0), (1, i64 2), (21, .ptr 19 0)]) (fun z => (Wd.mk false sec [d0, d1, flE z.S d, d3, d4, d5, d6, d7] [m0, m1, m, m3, m4, m5, m6, m7]).H ++ [itE 13 m.c z.S]) (fun z => m.L.length - z.S.length) ⟨[], List.nodup_nil, fun _ h => by cases h⟩ [0, 1, 2, 3, 4, 5, 6, 7, 8, 9, 10, 11, 12, 13, 14, 15, 16, 17, 18, 19] ⟨⟨rfl, rfl, rfl, True.intro⟩, ⟨.inl rfl, .inl rfl, .inl rfl, oS rfl, oS rfl, oS rfl, oS rfl, oS rfl, oS rfl, oS rfl, oS rfl, oM rfl, oM rfl, oM rfl, oM rfl, oM rfl, oM rfl, oM rfl, oM rfl, .inl rfl, True.intro⟩, rfl, rfl, rfl⟩ ?_
    intro z K hK
    refine nextK_of hok z.sub (fun hall => ?_) (fun x hx hn => ?_)
    · refine Ob.intro (show (0 : Int) ≤ 2 ∧ (2 : Int) < ((8 : Nat) : Int) from ⟨by omega, by omega⟩) ?_
      have hfl := z.all hok (fun e he => (hks e he).1) hall d
      exact endH rfl rfl rfl ⟨.inl rfl, .inl rfl, .inl rfl, .inl rfl, .inl rfl, .inl (by rw [hfl]), .inl rfl, .inl rfl, .inl rfl, .inl rfl, .inl rfl, .inl rfl, .inl rfl, .inl rfl, .inl rfl, .inl rfl, .inl rfl, .inl rfl, .inl rfl, True.intro⟩ (Nat.le_refl 19) (Wd.below _) rfl
    · have hxk := hks x hx
      refine Ob.intro rfl ?_
      refine optK_intro (entM_ent hok (S := z.S) hx) ?_
      refine Ob.intro (show (0 : Int) ≤ 2 ∧ (2 : Int) < ((8 : Nat) : Int) from ⟨by omega, by omega⟩) ?_
      refine Ob.intro (show (0 : Int) ≤ x.1 ∧ (x.1 : Int) < ((sec : Nat) : Int) from hxk) ?_
      refine wr_str (R := flE z.S d) (k := x.1.toNat) rfl rfl (by omega) (by rw [flE_len]; omega) ?_
      exact hK (z.nx hok hx hn) [0, 1, 2, 3, 4, 5, 6, 7, 8, 9, 10, 11, 12, 13, 14, 15, 16, 17, 18, 19] _ (by have := (z.lt hok hx hn).2; show _ = m.L.length - (z.S ++ [x]).length + 1; rw [List.length_append]; simp only [List.length_cons, List.length_nil]; omega) ⟨⟨rfl, rfl, rfl, True.intro⟩, ⟨.inl rfl, .inl rfl, .inl rfl, oS rfl, oS rfl, .inl (by rw [renO_str]; exact congrArg (fun d => some (AObj.row (d.map str))) (flE_snoc z.S x d).symm), oS rfl, oS rfl, oS rfl, oS rfl, oS rfl, oM rfl, oM rfl, oM rfl, oM rfl, oM rfl, oM rfl, oM rfl, oM rfl, .inl (by rw [renO_it _ _ rfl]; exact congrArg (fun S => some (itX 13 m.c S)) (seen_snoc z.S x)), True.intro⟩, rfl, rfl, rfl⟩
  · cases hd; cases hm
    refine acalls_of_awp hT mixed Tryd.func41 rfl (by kernel_rfl) (by kernel_rfl) (Nat.le_of_ble_eq_true rfl) ?_
    refine callW (cs := [bo false, i64 (sec : Nat), .slc 1 0 8 1, .slc 2 0 8 1]) (rest := [i64 3, i64 0]) hp rfl rfl rfl ?_
    refine Ob.intro (show (0 : Int) ≤ 3 ∧ (3 : Int) < ((8 : Nat) : Int) from ⟨by omega, by omega⟩) ?_
    refine loopI (α := Fl m) (fun z => [(0, .ptr 0 0), (1, i64 3), (21, .ptr 19 0)]) (fun z => (Wd.mk false sec [d0, d1, d2, flE z.S d, d4, d5, d6, d7] [m0, m1, m2, m, m4, m5, m6, m7]).H ++ [itE 14 m.c z.S]) (fun z => m.L.length - z.S.length) ⟨[], List.nodup_nil, fun _ h => by cases h⟩ [0, 1, 2, 3, 4, 5, 6, 7, 8, 9, 10, 11, 12, 13, 14, 15, 16, 17, 18, 19] ⟨⟨rfl, rfl, rfl, True.intro⟩, ⟨.inl rfl, .inl rfl, .inl rfl, oS rfl, oS rfl, oS rfl, oS rfl, oS rfl, oS rfl, oS rfl, oS rfl, oM rfl, oM rfl, oM rfl, oM rfl, oM rfl, oM rfl, oM rfl, oM rfl, .inl rfl, True.intro⟩, rfl, rfl, rfl⟩ ?_
    intro z K hK
    refine nextK_of hok z.sub (fun hall => ?_) (fun x hx hn => ?_)
    · refine Ob.intro (show (0 : Int) ≤ 3 ∧ (3 : Int) < ((8 : Nat) : Int) from ⟨by omega, by omega⟩) ?_
      have hfl := z.all hok (fun e he => (hks e he).1) hall d
      exact endH rfl rfl rfl ⟨.inl rfl, .inl rfl, .inl rfl, .inl rfl, .inl rfl, .inl rfl, .inl (by rw [hfl]), .inl rfl, .inl rfl, .inl rfl, .inl rfl, .inl rfl, .inl rfl, .inl rfl, .inl rfl, .inl rfl, .inl rfl, .inl rfl, .inl rfl, True.intro⟩ (Nat.le_refl 19) (Wd.below _) rfl
    · have hxk := hks x hx
      refine Ob.intro rfl ?_
      refine optK_intro (entM_ent hok (S := z.S) hx) ?_
      refine Ob.intro (show (0 : Int) ≤ 3 ∧ (3 : Int) < ((8 : Nat) : Int) from ⟨by omega, by omega⟩) ?_
      refine Ob.intro (show (0 : Int) ≤ x.1 ∧ (x.1 : Int) < ((sec : Nat) : Int) from hxk) ?_
      refine wr_str (R := flE z.S d) (k := x.1.toNat) rfl rfl (by omega) (by rw [flE_len]; omega) ?_
      exact hK (z.nx hok hx hn) [0, 1, 2, 3, 4, 5, 6, 7, 8, 9, 10, 11, 12, 13, 14, 15, 16, 17, 18, 19] _ (by have := (z.lt hok hx hn).2; show _ = m.L.length - (z.S ++ [x]).length + 1; rw [List.length_append]; simp only [List.length_cons, List.length_nil]; omega) ⟨⟨rfl, rfl, rfl, True.intro⟩, ⟨.inl rfl, .inl rfl, .inl rfl, oS rfl, oS rfl, oS rfl, .inl (by rw [renO_str]; exact congrArg (fun d => some (AObj.row (d.map str))) (flE_snoc z.S x d).symm), oS rfl, oS rfl, oS rfl, oS rfl, oM rfl, oM rfl, oM rfl, oM rfl, oM rfl, oM rfl, oM rfl, oM rfl, .inl (by rw [renO_it _ _ rfl]; exact congrArg (fun S => some (itX 14 m.c S)) (seen_snoc z.S x)), True.intro⟩, rfl, rfl, rfl⟩
  · cases hd; cases hm
    refine acalls_of_awp hT mixed Tryd.func41 rfl (by kernel_rfl) (by kernel_rfl) (Nat.le_of_ble_eq_true rfl) ?_
    refine callW (cs := [bo false, i64 (sec : Nat), .slc 1 0 8 1, .slc 2 0 8 1]) (rest := [i64 4, i64 0]) hp rfl rfl rfl ?_
    refine Ob.intro (show (0 : Int) ≤ 4 ∧ (4 : Int) < ((8 : Nat) : Int) from ⟨by omega, by omega⟩) ?_
    refine loopI (α := Fl m) (fun z => [(0, .ptr 0 0), (1, i64 4), (21, .ptr 19 0)]) (fun z => (Wd.mk false sec [d0, d1, d2, d3, flE z.S d, d5, d6, d7] [m0, m1, m2, m3, m, m5, m6, m7]).H ++ [itE 15 m.c z.S]) (fun z => m.L.length - z.S.length) ⟨[], List.nodup_nil, fun _ h => by cases h⟩ [0, 1, 2, 3, 4, 5, 6, 7, 8, 9, 10, 11, 12, 13, 14, 15, 16, 17, 18, 19] ⟨⟨rfl, rfl, rfl, True.intro⟩, ⟨.inl rfl, .inl rfl, .inl rfl, oS rfl, oS rfl, oS rfl, oS rfl, oS rfl, oS rfl, oS rfl, oS rfl, oM rfl, oM rfl, oM rfl, oM rfl, oM rfl, oM rfl, oM rfl, oM rfl, .inl rfl, True.intro⟩, rfl, rfl, rfl⟩ ?_
    intro z K hK
    refine nextK_of hok z.sub (fun hall => ?_) (fun x hx hn => ?_)
    · refine Ob.intro (show (0 : Int) ≤ 4 ∧ (4 : Int) < ((8 : Nat) : Int) from ⟨by omega, by omega⟩) ?_
      have hfl := z.all hok (fun e he => (hks e he).1) hall d
      exact endH rfl rfl rfl ⟨.inl rfl, .inl rfl, .inl rfl, .inl rfl, .inl rfl, .inl rfl, .inl rfl, .inl (by rw [hfl]), .inl rfl, .inl rfl, .inl rfl, .inl rfl, .inl rfl, .inl rfl, .inl rfl, .inl rfl, .inl rfl, .inl rfl, .inl rfl, True.intro⟩ (Nat.le_refl 19) (Wd.below _) rfl
    · have hxk := hks x hx
      refine Ob.intro rfl ?_
      refine optK_intro (entM_ent hok (S := z.S) hx) ?_
      refine Ob.intro (show (0 : Int) ≤ 4 ∧ (4 : Int) < ((8 : Nat) : Int) from ⟨by omega, by omega⟩) ?_
      refine Ob.intro (show (0 : Int) ≤ x.1 ∧ (x.1 : Int) < ((sec : Nat) : Int) from hxk) ?_
      refine wr_str (R := flE z.S d) (k := x.1.toNat) rfl rfl (by omega) (by rw [flE_len]; omega) ?_
      exact hK (z.nx hok hx hn) [0, 1, 2, 3, 4, 5, 6, 7, 8, 9, 10, 11, 12, 13, 14, 15, 16, 17, 18, 19] _ (by have := (z.lt hok hx hn).2; show _ = m.L.length - (z.S ++ [x]).length + 1; rw [List.length_append]; simp only [List.length_cons, List.length_nil]; omega) ⟨⟨rfl, rfl, rfl, True.intro⟩, ⟨.inl rfl, .inl rfl, .inl rfl, oS rfl, oS rfl, oS rfl, oS rfl, .inl (by rw [renO_str]; exact congrArg (fun d => some (AObj.row (d.map str))) (flE_snoc z.S x d).symm), oS rfl, oS rfl, oS rfl, oM rfl, oM rfl, oM rfl, oM rfl, oM rfl, oM rfl, oM rfl, oM rfl, .inl (by rw [renO_it _ _ rfl]; exact congrArg (fun S => some (itX 15 m.c S)) (seen_snoc z.S x)), True.intro⟩, rfl, rfl, rfl⟩
  · cases hd; cases hm
    refine acalls_of_awp hT mixed Tryd.func41 rfl (by kernel_rfl) (by kernel_rfl) (Nat.le_of_ble_eq_true rfl) ?_
    refine callW (cs := [bo false, i64 (sec : Nat), .slc 1 0 8 1, .slc 2 0 8 1]) (rest := [i64 5, i64 0]) hp rfl rfl rfl ?_
    refine Ob.intro (show (0 : Int) ≤ 5 ∧ (5 : Int) < ((8 : Nat) : Int) from ⟨by omega, by omega⟩) ?_
    refine loopI (α := Fl m) (fun z => [(0, .ptr 0 0), (1, i64 5), (21, .ptr 19 0)]) (fun z => (Wd.mk false sec [d0, d1, d2, d3, d4, flE z.S d, d6, d7] [m0, m1, m2, m3, m4, m, m6, m7]).H ++ [itE 16 m.c z.S]) (fun z => m.L.length - z.S.length) ⟨[], List.nodup_nil, fun _ h => by cases h⟩ [0, 1, 2, 3, 4, 5, 6, 7, 8, 9, 10, 11, 12, 13, 14, 15, 16, 17, 18, 19] ⟨⟨rfl, rfl, rfl, True.intro⟩, ⟨.inl rfl, .inl rfl, .inl rfl, oS rfl, oS rfl, oS rfl, oS rfl, oS rfl, oS rfl, oS rfl, oS rfl, oM rfl, oM rfl, oM rfl, oM rfl, oM rfl, oM rfl, oM rfl, oM rfl, .inl rfl, True.intro⟩, rfl, rfl, rfl⟩ ?_
    intro z K hK
    refine nextK_of hok z.sub (fun hall => ?_) (fun x hx hn => ?_)
    · refine Ob.intro (show (0 : Int) ≤ 5 ∧ (5 : Int) < ((8 : Nat) : Int) from ⟨by omega, by omega⟩) ?_
      have hfl := z.all hok (fun e he => (hks e he).1) hall d
      exact endH rfl rfl rfl ⟨.inl rfl, .inl rfl, .inl rfl, .inl rfl, .inl rfl, .inl rfl, .inl rfl, .inl rfl, .inl (by rw [hfl]), .inl rfl, .inl rfl, .inl rfl, .inl rfl, .inl rfl, .inl rfl, .inl rfl, .inl rfl, .inl rfl, .inl rfl, True.intro⟩ (Nat.le_refl 19) (Wd.below _) rfl
    · have hxk := hks x hx
      refine Ob.intro rfl ?_
      refine optK_intro (entM_ent hok (S := z.S) hx) ?_
      refine Ob.intro (show (0 : Int) ≤ 5 ∧ (5 : Int) < ((8 : Nat) : Int) from ⟨by omega, by omega⟩) ?_
      refine Ob.intro (show (0 : Int) ≤ x.1 ∧ (x.1 : Int) < ((sec : Nat) : Int) from hxk) ?_
      refine wr_str (R := flE z.S d) (k := x.1.toNat) rfl rfl (by omega) (by rw [flE_len]; omega) ?_
      exact hK (z.nx hok hx hn) [0, 1, 2, 3, 4, 5, 6, 7, 8, 9, 10, 11, 12, 13, 14, 15, 16, 17, 18, 19] _ (by have := (z.lt hok hx hn).2; show _ = m.L.length - (z.S ++ [x]).length + 1; rw [List.length_append]; simp only [List.length_cons, List.length_nil]; omega) ⟨⟨rfl, rfl, rfl, True.intro⟩, ⟨.inl rfl, .inl rfl, .inl rfl, oS rfl, oS rfl, oS rfl, oS rfl, oS rfl, .inl (by rw [renO_str]; exact congrArg (fun d => some (AObj.row (d.map str))) (flE_snoc z.S x d).symm), oS rfl, oS rfl, oM rfl, oM rfl, oM rfl, oM rfl, oM rfl, oM rfl, oM rfl, oM rfl, .inl (by rw [renO_it _ _ rfl]; exact congrArg (fun S => some (itX 16 m.c S)) (seen_snoc z.S x)), True.intro⟩, rfl, rfl, rfl⟩
  · cases hd; cases hm
    refine acalls_of_awp hT mixed Tryd.func41 rfl (by kernel_rfl) (by kernel_rfl) (Nat.le_of_ble_eq_true rfl) ?_
    refine callW (cs := [bo false, i64 (sec : Nat), .slc 1 0 8 1, .slc 2 0 8 1]) (rest := [i64 6, i64 0]) hp rfl rfl rfl ?_
    refine Ob.intro (show (0 : Int) ≤ 6 ∧ (6 : Int) < ((8 : Nat) : Int) from ⟨by omega, by omega⟩) ?_
    refine loopI (α := Fl m) (fun z => [(0, .ptr 0 0), (1, i64 6), (21, .ptr 19 0)]) (fun z => (Wd.mk false sec [d0, d1, d2, d3, d4, d5, flE z.S d, d7] [m0, m1, m2, m3, m4, m5, m, m7]).H ++ [itE 17 m.c z.S]) (fun z => m.L.length - z.S.length) ⟨[], List.nodup_nil, fun _ h => by cases h⟩ [0, 1, 2, 3, 4, 5, 6, 7, 8, 9, 10, 11, 12, 13, 14, 15, 16, 17, 18, 19] ⟨⟨rfl, rfl, rfl, True.intro⟩, ⟨.inl rfl, .inl rfl, .inl rfl, oS rfl, oS rfl, oS rfl, oS rfl, oS rfl, oS rfl, oS rfl, oS rfl, oM rfl, oM rfl, oM rfl, oM rfl, oM rfl, oM rfl, oM rfl, oM rfl, .inl rfl, True.intro⟩, rfl, rfl, rfl⟩ ?_
    intro z K hK
    refine nextK_of hok z.sub (fun hall => ?_) (fun x hx hn => ?_)
    · refine Ob.intro (show (0 : Int) ≤ 6 ∧ (6 : Int) < ((8 : Nat) : Int) from ⟨by omega, by omega⟩) ?_
      have hfl := z.all hok (fun e he => (hks e he).1) hall d
      exact endH rfl rfl rfl ⟨.inl rfl, .inl rfl, .inl rfl, .inl rfl, .inl rfl, .inl rfl, .inl rfl, .inl rfl, .inl rfl, .inl (by rw [hfl]), .inl rfl, .inl rfl, .inl rfl, .inl rfl, .inl rfl, .inl rfl, .inl rfl, .inl rfl, .inl rfl, True.intro⟩ (Nat.le_refl 19) (Wd.below _) rfl
    · have hxk := hks x hx
      refine Ob.intro rfl ?_
      refine optK_intro (entM_ent hok (S := z.S) hx) ?_
      refine Ob.intro (show (0 : Int) ≤ 6 ∧ (6 : Int) < ((8 : Nat) : Int) from ⟨by omega, by omega⟩) ?_
      refine Ob.intro (show (0 : Int) ≤ x.1 ∧ (x.1 : Int) < ((sec : Nat) : Int) from hxk) ?_
      refine wr_str (R := flE z.S d) (k := x.1.toNat) rfl rfl (by omega) (by rw [flE_len]; omega) ?_
      exact hK (z.nx hok hx hn) [0, 1, 2, 3, 4, 5, 6, 7, 8, 9, 10, 11, 12, 13, 14, 15, 16, 17, 18, 19] _ (by have := (z.lt hok hx hn).2; show _ = m.L.length - (z.S ++ [x]).length + 1; rw [List.length_append]; simp only [List.length_cons, List.length_nil]; omega) ⟨⟨rfl, rfl, rfl, True.intro⟩, ⟨.inl rfl, .inl rfl, .inl rfl, oS rfl, oS rfl, oS rfl, oS rfl, oS rfl, oS rfl, .inl (by rw [renO_str]; exact congrArg (fun d => some (AObj.row (d.map str))) (flE_snoc z.S x d).symm), oS rfl, oM rfl, oM rfl, oM rfl, oM rfl, oM rfl, oM rfl, oM rfl, oM rfl, .inl (by rw [renO_it _ _ rfl]; exact congrArg (fun S => some (itX 17 m.c S)) (seen_snoc z.S x)), True.intro⟩, rfl, rfl, rfl⟩
  · cases hd; cases hm
    refine acalls_of_awp hT mixed Tryd.func41 rfl (by kernel_rfl) (by kernel_rfl) (Nat.le_of_ble_eq_true rfl) ?_
    refine callW (cs := [bo false, i64 (sec : Nat), .slc 1 0 8 1, .slc 2 0 8 1]) (rest := [i64 7, i64 0]) hp rfl rfl rfl ?_
    refine Ob.intro (show (0 : Int) ≤ 7 ∧ (7 : Int) < ((8 : Nat) : Int) from ⟨by omega, by omega⟩) ?_
    refine loopI (α := Fl m) (fun z => [(0, .ptr 0 0), (1, i64 7), (21, .ptr 19 0)]) (fun z => (Wd.mk false sec [d0, d1, d2, d3, d4, d5, d6, flE z.S d] [m0, m1, m2, m3, m4, m5, m6, m]).H ++ [itE 18 m.c z.S]) (fun z => m.L.length - z.S.length) ⟨[], List.nodup_nil, fun _ h => by cases h⟩ [0, 1, 2, 3, 4, 5, 6, 7, 8, 9, 10, 11, 12, 13, 14, 15, 16, 17, 18, 19] ⟨⟨rfl, rfl, rfl, True.intro⟩, ⟨.inl rfl, .inl rfl, .inl rfl, oS rfl, oS rfl, oS rfl, oS rfl, oS rfl, oS rfl, oS rfl, oS rfl, oM rfl, oM rfl, oM rfl, oM rfl, oM rfl, oM rfl, oM rfl, oM rfl, .inl rfl, True.intro⟩, rfl, rfl, rfl⟩ ?_
    intro z K hK
    refine nextK_of hok z.sub (fun hall => ?_) (fun x hx hn => ?_)
    · refine Ob.intro (show (0 : Int) ≤ 7 ∧ (7 : Int) < ((8 : Nat) : Int) from ⟨by omega, by omega⟩) ?_
      have hfl := z.all hok (fun e he => (hks e he).1) hall d
      exact endH rfl rfl rfl ⟨.inl rfl, .inl rfl, .inl rfl, .inl rfl, .inl rfl, .inl rfl, .inl rfl, .inl rfl, .inl rfl, .inl rfl, .inl (by rw [hfl]), .inl rfl, .inl rfl, .inl rfl, .inl rfl, .inl rfl, .inl rfl, .inl rfl, .inl rfl, True.intro⟩ (Nat.le_refl 19) (Wd.below _) rfl
    · have hxk := hks x hx
      refine Ob.intro rfl ?_
      refine optK_intro (entM_ent hok (S := z.S) hx) ?_
      refine Ob.intro (show (0 : Int) ≤ 7 ∧ (7 : Int) < ((8 : Nat) : Int) from ⟨by omega, by omega⟩) ?_
      refine Ob.intro (show (0 : Int) ≤ x.1 ∧ (x.1 : Int) < ((sec : Nat) : Int) from hxk) ?_
      refine wr_str (R := flE z.S d) (k := x.1.toNat) rfl rfl (by omega) (by rw [flE_len]; omega) ?_
      exact hK (z.nx hok hx hn) [0, 1, 2, 3, 4, 5, 6, 7, 8, 9, 10, 11, 12, 13, 14, 15, 16, 17, 18, 19] _ (by have := (z.lt hok hx hn).2; show _ = m.L.length - (z.S ++ [x]).length + 1; rw [List.length_append]; simp only [List.length_cons, List.length_nil]; omega) ⟨⟨rfl, rfl, rfl, True.intro⟩, ⟨.inl rfl, .inl rfl, .inl rfl, oS rfl, oS rfl, oS rfl, oS rfl, oS rfl, oS rfl, oS rfl, .inl (by rw [renO_str]; exact congrArg (fun d => some (AObj.row (d.map str))) (flE_snoc z.S x d).symm), oM rfl, oM rfl, oM rfl, oM rfl, oM rfl, oM rfl, oM rfl, oM rfl, .inl (by rw [renO_it _ _ rfl]; exact congrArg (fun S => some (itX 18 m.c S)) (seen_snoc z.S x)), True.intro⟩, rfl, rfl, rfl⟩
end Go.Proofs.YthbncljlclcecaaDoor.A
