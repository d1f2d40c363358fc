/- extent: what a world's methods keep, and what is where behind them. Plain. -/
import Derived.Test.YtpkbdlocmjgmbaaXq
namespace Go.Proofs.Ytpkbdlocmjgmbaa.A
open Go
set_option linter.unusedVariables false
set_option linter.unusedSimpArgs false
set_option maxRecDepth 100000

theorem mput_keys {m : Mp} {n : Int} {s : ByteArray} {x : En} (h : x ∈ (m.put n s).L) : x.1 = n ∨ ∃ y ∈ m.L, y.1 = x.1 := by
  unfold Mp.put at h
  cases hp : posE m.L n with
  | none =>
    rw [hp] at h
    rcases List.mem_append.1 h with h | h
    · exact .inr ⟨x, h, rfl⟩
    · rw [List.mem_singleton] at h
      exact .inl (by rw [h])
  | some i =>
    rw [hp] at h
    have h1 : x.1 ∈ (m.L.modify i fun e => (e.1, s, e.2.2)).map (·.1) := List.mem_map_of_mem h
    rw [mod_map (·.1) s (fun _ => rfl)] at h1
    obtain ⟨y, hy, he⟩ := List.mem_map.1 h1
    exact .inr ⟨y, hy, he⟩
theorem mdel_keys {m : Mp} {n : Int} {x : En} (h : x ∈ (m.del n).L) : x ∈ m.L := by
  unfold Mp.del at h
  split at h
  · exact (List.eraseIdx_sublist ..).subset h
  · exact h
theorem mem_modify {α : Type} {f : α → α} {y : α} : ∀ {l : List α} {i : Nat}, y ∈ l.modify i f → y ∈ l ∨ ∃ x ∈ l, y = f x
  | [], i, h => by simp at h
  | x :: l, 0, h => by
    rw [List.modify_zero_cons] at h
    rcases List.mem_cons.1 h with h | h
    · exact .inr ⟨x, List.mem_cons_self .., h⟩
    · exact .inl (List.mem_cons_of_mem _ h)
  | x :: l, i + 1, h => by
    rw [List.modify_succ_cons] at h
    rcases List.mem_cons.1 h with h | h
    · exact .inl (by rw [h]; exact List.mem_cons_self ..)
    · rcases mem_modify h with h | ⟨z, hz, h⟩
      · exact .inl (List.mem_cons_of_mem _ h)
      · exact .inr ⟨z, List.mem_cons_of_mem _ hz, h⟩
theorem mem_setL {α : Type} {a y : α} {l : List α} {i : Nat} (h : y ∈ l.set i a) : y ∈ l ∨ y = a := (List.mem_or_eq_of_mem_set h)
theorem dryM_len (m : Mp) (d : List ByteArray) : (dryM m d).length = d.length := by unfold dryM; rw [List.length_mapIdx]
theorem dryM_get (m : Mp) (d : List ByteArray) (k : Nat) : (dryM m d)[k]? = d[k]?.map fun x => (m.get (k : Nat)).getD x := by unfold dryM; rw [List.getElem?_mapIdx]
theorem pick1_len {sec : Nat} {M : List Mp} {D : List (List ByteArray)} {p : Int × Int} : (pick1 sec M D p).length = D.length := by
  unfold pick1
  split
  · split
    · rw [List.length_modify]
    · rfl
  · rfl
theorem pick1_all {sec : Nat} {M : List Mp} {D : List (List ByteArray)} {p : Int × Int} (h : ∀ d ∈ D, d.length = sec) : ∀ d ∈ pick1 sec M D p, d.length = sec := by
  unfold pick1
  split
  · split
    · intro d hd
      rcases mem_modify hd with hd | ⟨x, hx, rfl⟩
      · exact h d hd
      · rw [List.length_set]
        exact h x hx
    · exact h
  · exact h
theorem picksD_len {sec : Nat} {M : List Mp} : ∀ (ps : List (Int × Int)) (D : List (List ByteArray)), (picksD sec M D ps).length = D.length
  | [], _ => rfl
  | p :: ps, D => by
    show (picksD sec M (pick1 sec M D p) ps).length = _
    rw [picksD_len ps, pick1_len]
theorem picksD_all {sec : Nat} {M : List Mp} : ∀ (ps : List (Int × Int)) (D : List (List ByteArray)), (∀ d ∈ D, d.length = sec) → ∀ d ∈ picksD sec M D ps, d.length = sec
  | [], _, h => h
  | p :: ps, D, h => picksD_all ps (pick1 sec M D p) (pick1_all h)
/-- A world of so many extents of so many sectors. -/
structure Wd.is (w : Wd) (n sec : Nat) : Prop where
  ok : w.ok
  n : w.D.length = n
  s : w.sec = sec
theorem write_is {w : Wd} {n sec : Nat} (h : w.is n sec) (e k : Int) (s : ByteArray) : (w.write e k s).2.is n sec := by
  unfold Wd.write
  rcases w.err_cases e k with ⟨h1, h2, h3⟩ | ⟨h1, h2⟩ | ⟨h1, h2, h3⟩
  · rw [h1, if_pos rfl]
    split
    · refine ⟨⟨by show (w.M.modify _ _).length = _; rw [List.length_modify]; exact h.ok.len, h.ok.le, h.ok.sec, h.ok.secle, fun m hm => ?_, fun m hm x hx => ?_⟩, h.n, h.s⟩
      · rcases mem_modify hm with hm | ⟨y, hy, rfl⟩
        · exact h.ok.mp m hm
        · exact mput_ok y (h.ok.mp y hy) k s
      · rcases mem_modify hm with hm | ⟨y, hy, rfl⟩
        · exact h.ok.ks m hm x hx
        · rcases mput_keys hx with hx | ⟨z, hz, hzx⟩
          · rw [hx]
            exact h3.2
          · rw [← hzx]
            exact h.ok.ks y hy z hz
    · exact h
  · rw [h1]
    exact h
  · rw [h1]
    exact h
theorem lay_is {w : Wd} {n sec : Nat} (h : w.is n sec) (e k : Int) (s : ByteArray) : (w.lay e k s).2.is n sec := by
  unfold Wd.lay
  rcases w.may_cases e k with ⟨h1, h3⟩ | ⟨h1, h3⟩
  · rw [h1, if_pos rfl]
    split
    · refine ⟨⟨?_, ?_, fun d hd => ?_, h.ok.secle, fun m hm => ?_, fun m hm x hx => ?_⟩, ?_, h.s⟩
      · show (w.M.modify _ _).length = (w.D.modify _ _).length
        rw [List.length_modify, List.length_modify]
        exact h.ok.len
      · show (w.D.modify _ _).length ≤ 8
        rw [List.length_modify]
        exact h.ok.le
      · rcases mem_modify hd with hd | ⟨y, hy, rfl⟩
        · exact h.ok.sec d hd
        · rw [List.length_set]
          exact h.ok.sec y hy
      · rcases mem_modify hm with hm | ⟨y, hy, rfl⟩
        · exact h.ok.mp m hm
        · exact mdel_ok y (h.ok.mp y hy) k
      · rcases mem_modify hm with hm | ⟨y, hy, rfl⟩
        · exact h.ok.ks m hm x hx
        · exact h.ok.ks y hy x (mdel_keys hx)
      · show (w.D.modify _ _).length = n
        rw [List.length_modify]
        exact h.n
    · exact h
  · rw [h1]
    exact h
theorem flush_is {w : Wd} {n sec : Nat} (h : w.is n sec) (e : Int) : (w.flush e).2.is n sec := by
  unfold Wd.flush
  rcases w.err_cases e 0 with ⟨h1, h2, h3⟩ | ⟨h1, h2⟩ | ⟨h1, h2, h3⟩
  · rw [h1, if_pos rfl]
    obtain ⟨d, m, x, hd, hm, hx, e1, e2⟩ := Wd.at_ h.ok h3
    rw [hd, hm]
    refine ⟨⟨?_, ?_, fun d' hd' => ?_, h.ok.secle, fun m' hm' => ?_, fun m' hm' x hx => ?_⟩, ?_, h.s⟩
    · show (w.M.set _ _).length = (w.D.set _ _).length
      rw [List.length_set, List.length_set]
      exact h.ok.len
    · show (w.D.set _ _).length ≤ 8
      rw [List.length_set]
      exact h.ok.le
    · rcases mem_setL hd' with hd' | rfl
      · exact h.ok.sec d' hd'
      · rw [dryM_len]
        exact h.ok.sec d (List.mem_of_getElem? hd)
    · rcases mem_setL hm' with hm' | rfl
      · exact h.ok.mp m' hm'
      · exact mclr_ok m
    · rcases mem_setL hm' with hm' | rfl
      · exact h.ok.ks m' hm' x hx
      · cases hx
    · show (w.D.set _ _).length = n
      rw [List.length_set]
      exact h.n
  · rw [h1]
    exact h
  · rw [h1]
    exact h
theorem start_is {w : Wd} {n sec : Nat} (h : w.is n sec) : w.start.2.is n sec := ⟨⟨h.ok.len, h.ok.le, h.ok.sec, h.ok.secle, h.ok.mp, h.ok.ks⟩, h.n, h.s⟩
theorem crash_is {w : Wd} {n sec : Nat} (h : w.is n sec) (ps : List (Int × Int)) : (w.crash ps).2.is n sec := by
  unfold Wd.crash
  split
  · exact h
  · refine ⟨⟨?_, ?_, picksD_all ps w.D h.ok.sec, h.ok.secle, fun m hm => ?_, fun m hm x hx => ?_⟩, ?_, h.s⟩
    · show (w.M.map _).length = (picksD _ _ _ _).length
      rw [List.length_map, picksD_len]
      exact h.ok.len
    · show (picksD _ _ _ _).length ≤ 8
      rw [picksD_len]
      exact h.ok.le
    · obtain ⟨y, hy, rfl⟩ := List.mem_map.1 hm
      exact mclr_ok y
    · obtain ⟨y, hy, rfl⟩ := List.mem_map.1 hm
      cases hx
    · show (picksD _ _ _ _).length = n
      rw [picksD_len]
      exact h.n
theorem new_is {n sec : Nat} (h8 : n ≤ 8) (hs : sec ≤ 128) : (newW n sec).is n sec := by
  refine ⟨⟨?_, ?_, fun d hd => ?_, hs, fun m hm => ?_, fun m hm x hx => ?_⟩, ?_, rfl⟩
  · show (List.replicate _ _).length = (List.replicate _ _).length
    rw [List.length_replicate, List.length_replicate]
  · show (List.replicate _ _).length ≤ 8
    rw [List.length_replicate]
    exact h8
  · rw [List.eq_of_mem_replicate hd, List.length_replicate]
    rfl
  · rw [List.eq_of_mem_replicate hm]
    exact ⟨(fun e he => by cases he), List.nodup_nil, List.nodup_nil⟩
  · rw [List.eq_of_mem_replicate hm] at hx
    cases hx
  · show (List.replicate _ _).length = n
    rw [List.length_replicate]
/-! ### What is where -/
section
variable {w : Wd} {n sec : Nat} {e k e' k' : Int} {s : ByteArray}
/-- In range. -/
def inW (n sec : Nat) (e k : Int) : Prop := inS (sec : Nat) n e k
theorem Wd.is.inS (h : w.is n sec) : inW n sec e k ↔ A.inS (w.sec : Nat) w.D.length e k := by unfold inW; rw [h.n, h.s]
theorem Wd.is.may0 (h : w.is n sec) : w.may e k = 0 ↔ inW n sec e k := by
  rw [h.inS]
  unfold Wd.may
  by_cases hi : A.inS (w.sec : Nat) w.D.length e k
  · rw [if_pos hi]; exact ⟨fun _ => hi, fun _ => rfl⟩
  · rw [if_neg hi]; exact ⟨fun h => by omega, fun h => absurd h hi⟩
theorem Wd.is.err0 (h : w.is n sec) : w.err e k = 0 ↔ w.off = false ∧ inW n sec e k := by
  unfold Wd.err
  cases hf : w.off
  · rw [if_neg (by decide), h.may0]
    exact ⟨fun h => ⟨rfl, h⟩, fun h => h.2⟩
  · rw [if_pos rfl]
    exact ⟨fun h => by omega, fun h => by cases h.1⟩
theorem write_m (h : w.is n sec) (h0 : w.err e k = 0) (hs : s.size ≤ 64) (hi : inW n sec e' k') : (w.write e k s).2.m e' k' = if e' = e ∧ k' = k then some s else w.m e' k' := by
  unfold Wd.write
  rw [if_pos h0, if_pos hs]
  have hi0 := (h.err0.1 h0).2
  obtain ⟨d, m, x, hd, hm, hx, e1, e2⟩ := Wd.at_ h.ok (h.inS.1 hi)
  unfold Wd.m
  show ((w.M.modify _ _)[e'.toNat]?.bind _) = _
  rw [List.getElem?_modify, hm]
  show (if e.toNat = e'.toNat then m.put k s else m).get k' = _
  have h1 := hi0.1.1
  have h2 := hi.1.1
  by_cases he : e' = e
  · rw [if_pos (show e.toNat = e'.toNat by rw [he])]
    rw [mput_get]
    by_cases hk : k' = k
    · rw [if_pos hk, if_pos ⟨he, hk⟩]
    · rw [if_neg hk, if_neg (fun h => hk h.2)]
      rfl
  · rw [if_neg (show ¬ e.toNat = e'.toNat by omega), if_neg (fun h => he h.1)]
    rfl
theorem write_d : (w.write e k s).2.d e' k' = w.d e' k' := by
  unfold Wd.write
  split
  · split <;> rfl
  · rfl
theorem lay_m (h : w.is n sec) (h0 : w.may e k = 0) (hs : s.size ≤ 64) (hi : inW n sec e' k') : (w.lay e k s).2.m e' k' = if e' = e ∧ k' = k then none else w.m e' k' := by
  unfold Wd.lay
  rw [if_pos h0, if_pos hs]
  have hi0 := h.may0.1 h0
  obtain ⟨d, m, x, hd, hm, hx, e1, e2⟩ := Wd.at_ h.ok (h.inS.1 hi)
  unfold Wd.m
  show ((w.M.modify _ _)[e'.toNat]?.bind _) = _
  rw [List.getElem?_modify, hm]
  show (if e.toNat = e'.toNat then m.del k else m).get k' = _
  have h1 := hi0.1.1
  have h2 := hi.1.1
  by_cases he : e' = e
  · rw [if_pos (show e.toNat = e'.toNat by rw [he])]
    rw [mdel_get m (h.ok.mp m (List.mem_of_getElem? hm))]
    by_cases hk : k' = k
    · rw [if_pos hk, if_pos ⟨he, hk⟩]
    · rw [if_neg hk, if_neg (fun h => hk h.2)]
      rfl
  · rw [if_neg (show ¬ e.toNat = e'.toNat by omega), if_neg (fun h => he h.1)]
    rfl
theorem lay_d (h : w.is n sec) (h0 : w.may e k = 0) (hs : s.size ≤ 64) (hi : inW n sec e' k') : (w.lay e k s).2.d e' k' = if e' = e ∧ k' = k then s else w.d e' k' := by
  unfold Wd.lay
  rw [if_pos h0, if_pos hs]
  have hi0 := h.may0.1 h0
  obtain ⟨d, m, x, hd, hm, hx, e1, e2⟩ := Wd.at_ h.ok (h.inS.1 hi)
  unfold Wd.d
  show (((w.D.modify _ _)[e'.toNat]?.bind _).getD _) = _
  rw [List.getElem?_modify, hd]
  show ((if e.toNat = e'.toNat then d.set k.toNat s else d)[k'.toNat]?).getD _ = _
  have h1 := hi0.1.1
  have h2 := hi.1.1
  have h3 := hi0.2.1
  have h4 := hi.2.1
  by_cases he : e' = e
  · rw [if_pos (show e.toNat = e'.toNat by rw [he])]
    by_cases hk : k' = k
    · rw [if_pos ⟨he, hk⟩, hk, List.getElem?_set_self (by rw [hk] at hx; exact (List.getElem?_eq_some_iff.1 hx).1)]
      rfl
    · rw [if_neg (fun h => hk h.2), List.getElem?_set_ne (by omega)]
      rfl
  · rw [if_neg (show ¬ e.toNat = e'.toNat by omega), if_neg (fun h => he h.1)]
    rfl
theorem flush_m (h : w.is n sec) (h0 : w.err e 0 = 0) (hi : inW n sec e' k') : (w.flush e).2.m e' k' = if e' = e then none else w.m e' k' := by
  unfold Wd.flush
  rw [if_pos h0]
  have hi0 := (h.err0.1 h0).2
  obtain ⟨d0, m0, x0, hd0, hm0, hx0, e10, e20⟩ := Wd.at_ h.ok (h.inS.1 hi0)
  rw [hd0, hm0]
  obtain ⟨d, m, x, hd, hm, hx, e1, e2⟩ := Wd.at_ h.ok (h.inS.1 hi)
  unfold Wd.m
  show ((w.M.set _ _)[e'.toNat]?.bind _) = _
  have h1 := hi0.1.1
  have h2 := hi.1.1
  by_cases he : e' = e
  · rw [if_pos he, he, List.getElem?_set_self (List.getElem?_eq_some_iff.1 hm0).1]
    rfl
  · rw [if_neg he, List.getElem?_set_ne (by omega)]
theorem flush_d (h : w.is n sec) (h0 : w.err e 0 = 0) (hi : inW n sec e' k') : (w.flush e).2.d e' k' = if e' = e then (w.m e' k').getD (w.d e' k') else w.d e' k' := by
  unfold Wd.flush
  rw [if_pos h0]
  have hi0 := (h.err0.1 h0).2
  obtain ⟨d0, m0, x0, hd0, hm0, hx0, e10, e20⟩ := Wd.at_ h.ok (h.inS.1 hi0)
  rw [hd0, hm0]
  obtain ⟨d, m, x, hd, hm, hx, e1, e2⟩ := Wd.at_ h.ok (h.inS.1 hi)
  rw [e2, e1]
  unfold Wd.d
  show (((w.D.set _ _)[e'.toNat]?.bind _).getD _) = _
  have h1 := hi0.1.1
  have h2 := hi.1.1
  have h4 := hi.2.1
  by_cases he : e' = e
  · rw [if_pos he, he, List.getElem?_set_self (List.getElem?_eq_some_iff.1 hd0).1]
    subst he
    rw [hd0] at hd
    rw [hm0] at hm
    cases hd
    cases hm
    show ((dryM m0 d0)[k'.toNat]?).getD _ = _
    rw [dryM_get, hx, Int.toNat_of_nonneg h4]
    rfl
  · rw [if_neg he, List.getElem?_set_ne (by omega), hd]
    show (d[k'.toNat]?).getD _ = _
    rw [hx]
    rfl
theorem picks_at {sec : Nat} {M : List Mp} {e k : Nat} {m : Mp} (hm : M[e]? = some m) (hk : inS (sec : Nat) M.length (e : Nat) (k : Nat)) : ∀ (ps : List (Int × Int)) (D : List (List ByteArray)) (x : ByteArray), (D[e]?.bind fun d => d[k]?) = some x →
    ((picksD sec M D ps)[e]?.bind fun d => d[k]?) = some (if ((e : Int), (k : Int)) ∈ ps then (m.get (k : Nat)).getD x else x)
  | [], D, x, h => by rw [if_neg (by simp)]; exact h
  | p :: ps, D, x, h => by
    show ((picksD sec M (pick1 sec M D p) ps)[e]?.bind fun d => d[k]?) = _
    by_cases hp : p = ((e : Int), (k : Int))
    · subst hp
      rw [if_pos (List.mem_cons_self ..)]
      cases hg : getE m.L (k : Nat) with
      | none =>
        have h2 : m.get (k : Nat) = none := hg
        rw [pick1_none (p := ((e : Int), (k : Int))) (m := m) (by exact hm) hg, picks_at hm hk ps D x h, h2]
        split <;> rfl
      | some s =>
        have h2 : m.get (k : Nat) = some s := hg
        rw [pick1_some (p := ((e : Int), (k : Int))) (m := m) hk (by exact hm) hg, picks_at hm hk ps _ s ?_, h2]
        · split <;> rfl
        · rw [Int.toNat_natCast, Int.toNat_natCast, List.getElem?_modify]
          cases hD : D[e]? with
          | none => rw [hD] at h; cases h
          | some d =>
            rw [hD] at h
            show (if e = e then d.set k s else d)[k]? = _
            rw [if_pos rfl]
            exact List.getElem?_set_self (List.getElem?_eq_some_iff.1 (show d[k]? = some x from h)).1
    · have h1 : ((pick1 sec M D p)[e]?.bind fun d => d[k]?) = some x := by
        unfold pick1
        split
        · rename_i hin
          split
          · rename_i s _
            have h3 := hin.1.1
            have h4 := hin.2.1
            rw [List.getElem?_modify]
            cases hD : D[e]? with
            | none => rw [hD] at h; cases h
            | some d =>
              rw [hD] at h
              show (if p.1.toNat = e then d.set p.2.toNat s else d)[k]? = _
              by_cases he : p.1.toNat = e
              · rw [if_pos he, List.getElem?_set_ne (fun h' => hp (Prod.ext (by show p.1 = (e : Int); omega) (by show p.2 = (k : Int); omega)))]
                exact h
              · rw [if_neg he]
                exact h
          · exact h
        · exact h
      rw [picks_at hm hk ps _ x h1]
      simp only [List.mem_cons]
      by_cases hq : ((e : Int), (k : Int)) ∈ ps
      · rw [if_pos hq, if_pos (.inr hq)]
      · rw [if_neg hq, if_neg (fun h => h.elim (fun h => hp h.symm) hq)]
theorem crash_m (ps : List (Int × Int)) (h0 : w.off = false) : (w.crash ps).2.m e' k' = none := by
  unfold Wd.crash
  rw [if_neg (by rw [h0]; decide)]
  unfold Wd.m
  show ((w.M.map _)[e'.toNat]?.bind _) = _
  rw [List.getElem?_map]
  cases w.M[e'.toNat]? <;> rfl
theorem crash_d (h : w.is n sec) (h0 : w.off = false) (ps : List (Int × Int)) (hi : inW n sec e' k') : (w.crash ps).2.d e' k' = if (e', k') ∈ ps then (w.m e' k').getD (w.d e' k') else w.d e' k' := by
  unfold Wd.crash
  rw [if_neg (by rw [h0]; decide)]
  obtain ⟨d, m, x, hd, hm, hx, e1, e2⟩ := Wd.at_ h.ok (h.inS.1 hi)
  have h2 := hi.1.1
  have h4 := hi.2.1
  have h5 := picks_at (sec := w.sec) (k := k'.toNat) hm (by
    have := h.inS.1 hi
    rw [Int.toNat_of_nonneg h2, Int.toNat_of_nonneg h4, h.ok.len]
    exact this) ps w.D x (by rw [hd]; exact hx)
  rw [Int.toNat_of_nonneg h2, Int.toNat_of_nonneg h4] at h5
  rw [e1, e2]
  show (((picksD _ _ _ _)[e'.toNat]?.bind _).getD _) = _
  rw [h5]
  rfl
end
end Go.Proofs.Ytpkbdlocmjgmbaa.A
