/- extent: a world's methods, each whole. No condition. -/
import Derived.Test.YthbncljlclcecaaDoorXn
import Derived.Test.YthbncljlclcecaaDoorXo
namespace Go.Proofs.YthbncljlclcecaaDoor.A
open Go
set_option linter.unusedVariables false
set_option linter.unusedSimpArgs false
set_option maxRecDepth 100000
set_option pp.maxSteps 600

/-! ### Refusals -/
theorem write_ref (off : Bool) (sec : Int) (n : Nat) (e k : Int) (s : ByteArray) (h : off = true ∨ ¬ inS sec n e k ∨ 64 < s.size) :
    ACalls Tryd.prog 56 [.vp [bo off, i64 sec, .view n [], .view n []], i64 e, i64 k, str s] [] (Ret (i64 (if off = true then 6 else if inS sec n e k then 5 else 1))) := by
  have hp := power_ok off sec n e k
  cases off
  · rw [if_neg (by decide)] at hp ⊢
    by_cases hin : inS sec n e k
    · rw [if_pos hin] at hp ⊢
      refine acalls_of_awp hT mixed Tryd.func56 rfl (by kernel_rfl) (by kernel_rfl) (Nat.le_of_ble_eq_true rfl) ?_
      refine callP hp rfl rfl ?_
      refine forkD (fun _ => end0 rfl rfl rfl rfl) (fun h1 => ?_)
      refine absurd h (fun h => ?_)
      rcases h with h | h | h
      · cases h
      · exact h hin
      · exact h1 (show (64 : Int) < (s.size : Int) by omega)
    · rw [if_neg hin] at hp ⊢
      refine acalls_of_awp hT mixed Tryd.func56 rfl (by kernel_rfl) (by kernel_rfl) (Nat.le_of_ble_eq_true rfl) ?_
      refine callP hp rfl rfl ?_
      exact end0 rfl rfl rfl rfl
  · rw [if_pos rfl] at hp ⊢
    refine acalls_of_awp hT mixed Tryd.func56 rfl (by kernel_rfl) (by kernel_rfl) (Nat.le_of_ble_eq_true rfl) ?_
    refine callP hp rfl rfl ?_
    exact end0 rfl rfl rfl rfl
theorem read_ref (off : Bool) (sec : Int) (n : Nat) (e k : Int) (h : off = true ∨ ¬ inS sec n e k) :
    ACalls Tryd.prog 27 [.vp [bo off, i64 sec, .view n [], .view n []], i64 e, i64 k] [] (Ret (.tup [str ByteArray.empty, i64 (if off = true then 6 else 1)])) := by
  have hp := power_ok off sec n e k
  cases off
  · rw [if_neg (by decide), if_neg (h.resolve_left (by decide))] at hp
    refine acalls_of_awp hT mixed Tryd.func27 rfl (by kernel_rfl) (by kernel_rfl) (Nat.le_of_ble_eq_true rfl) ?_
    refine callP hp rfl rfl ?_
    exact end0 rfl rfl rfl rfl
  · rw [if_pos rfl] at hp ⊢
    refine acalls_of_awp hT mixed Tryd.func27 rfl (by kernel_rfl) (by kernel_rfl) (Nat.le_of_ble_eq_true rfl) ?_
    refine callP hp rfl rfl ?_
    exact end0 rfl rfl rfl rfl
theorem flush_ref (off : Bool) (sec : Int) (n : Nat) (e : Int) (h : off = true ∨ ¬ inS sec n e 0) :
    ACalls Tryd.prog 41 [.vp [bo off, i64 sec, .view n [], .view n []], i64 e] [] (Ret (i64 (if off = true then 6 else 1))) := by
  have hp := power_ok off sec n e 0
  cases off
  · rw [if_neg (by decide), if_neg (h.resolve_left (by decide))] at hp
    refine acalls_of_awp hT mixed Tryd.func41 rfl (by kernel_rfl) (by kernel_rfl) (Nat.le_of_ble_eq_true rfl) ?_
    refine callP hp rfl rfl ?_
    exact end0 rfl rfl rfl rfl
  · rw [if_pos rfl] at hp ⊢
    refine acalls_of_awp hT mixed Tryd.func41 rfl (by kernel_rfl) (by kernel_rfl) (Nat.le_of_ble_eq_true rfl) ?_
    refine callP hp rfl rfl ?_
    exact end0 rfl rfl rfl rfl
theorem crash_ref (sec : Int) (n : Nat) (ps : List (Int × Int)) :
    ACalls Tryd.prog 21 [.vp [bo true, i64 sec, .view n [], .view n []], .view ps.length (flat pkC ps)] [] (Ret (i64 6)) := by
  refine acalls_of_awp hT mixed Tryd.func21 rfl (by kernel_rfl) (by kernel_rfl) (Nat.le_of_ble_eq_true rfl) ?_
  exact end0 rfl rfl rfl rfl
/-! ### A world that is not there -/
end Go.Proofs.YthbncljlclcecaaDoor.A

namespace Go.Proofs.YthbncljlclcecaaDoor.A
open Go
set_option linter.unusedVariables false
set_option linter.unusedSimpArgs false
set_option maxRecDepth 100000
set_option pp.maxSteps 600

theorem liftW {P : Program} {g : FuncId} {rest : List AV} {v : AV} (w : Wd) (h : ACalls P g (.vp [bo w.off, i64 (w.sec : Nat), .view w.D.length [], .view w.M.length []] :: rest) [] (Ret v)) (hr : belowL 0 rest = true) (hc : closedV v = true) :
    ACalls P g (.ptr 0 0 :: rest) w.H (RetH v w.H) := by
  refine (callW (cs := w.row) (K := fun u G => u = v ∧ G = w.H) (Kp := fun _ _ => False) h rfl hr hc ⟨rfl, rfl⟩).mono fun E G hE => ?_
  cases E with
  | ret u => exact ⟨by rw [hE.1], hE.2⟩
  | pan u => exact hE.elim
def Wd.may (w : Wd) (e k : Int) : Int := if inS (w.sec : Nat) w.D.length e k then 0 else 1
def Wd.err (w : Wd) (e k : Int) : Int := if w.off = true then 6 else w.may e k
/-- What is dry at a sector. -/
def Wd.d (w : Wd) (e k : Int) : ByteArray := (w.D[e.toNat]?.bind fun d => d[k.toNat]?).getD ByteArray.empty
/-- What is wet. -/
def Wd.m (w : Wd) (e k : Int) : Option ByteArray := w.M[e.toNat]?.bind fun m => m.get k
def Wd.write (w : Wd) (e k : Int) (s : ByteArray) : Int × Wd :=
  if w.err e k = 0 then if s.size ≤ 64 then (0, ⟨w.off, w.sec, w.D, w.M.modify e.toNat fun m => m.put k s⟩) else (5, w) else (w.err e k, w)
def Wd.read (w : Wd) (e k : Int) : ByteArray × Int := if w.err e k = 0 then ((w.m e k).getD (w.d e k), 0) else (ByteArray.empty, w.err e k)
def Wd.flush (w : Wd) (e : Int) : Int × Wd :=
  if w.err e 0 = 0 then (0, match w.D[e.toNat]?, w.M[e.toNat]? with
    | some d, some m => ⟨w.off, w.sec, w.D.set e.toNat (dryM m d), w.M.set e.toNat m.clr⟩
    | _, _ => w) else (w.err e 0, w)
def Wd.crash (w : Wd) (ps : List (Int × Int)) : Int × Wd := if w.off = true then (6, w) else (0, ⟨true, w.sec, picksD w.sec w.M w.D ps, w.M.map Mp.clr⟩)
theorem Wd.may_cases (w : Wd) (e k : Int) : (w.may e k = 0 ∧ inS (w.sec : Nat) w.D.length e k) ∨ (w.may e k = 1 ∧ ¬ inS (w.sec : Nat) w.D.length e k) := by
  unfold Wd.may
  by_cases h : inS (w.sec : Nat) w.D.length e k
  · exact .inl ⟨if_pos h, h⟩
  · exact .inr ⟨if_neg h, h⟩
theorem Wd.err_cases (w : Wd) (e k : Int) : (w.err e k = 0 ∧ w.off = false ∧ inS (w.sec : Nat) w.D.length e k) ∨ (w.err e k = 6 ∧ w.off = true) ∨ (w.err e k = 1 ∧ w.off = false ∧ ¬ inS (w.sec : Nat) w.D.length e k) := by
  unfold Wd.err
  cases h : w.off
  · rw [if_neg (by decide)]
    rcases w.may_cases e k with ⟨h1, h2⟩ | ⟨h1, h2⟩
    · exact .inl ⟨h1, rfl, h2⟩
    · exact .inr (.inr ⟨h1, rfl, h2⟩)
  · exact .inr (.inl ⟨if_pos rfl, rfl⟩)
theorem Wd.at_ {w : Wd} (h : w.ok) {e k : Int} (hin : inS (w.sec : Nat) w.D.length e k) : ∃ d m x, w.D[e.toNat]? = some d ∧ w.M[e.toNat]? = some m ∧ d[k.toNat]? = some x ∧ w.d e k = x ∧ w.m e k = m.get k := by
  obtain ⟨⟨h1, h2⟩, h3, h4⟩ := hin
  have hd : e.toNat < w.D.length := by omega
  have hm : e.toNat < w.M.length := by have := h.len; omega
  have hs := h.sec _ (List.getElem_mem hd)
  have hx : k.toNat < (w.D[e.toNat]).length := by omega
  refine ⟨_, _, _, List.getElem?_eq_getElem hd, List.getElem?_eq_getElem hm, List.getElem?_eq_getElem hx, ?_, ?_⟩
  · unfold Wd.d
    rw [List.getElem?_eq_getElem hd, Option.bind_some, List.getElem?_eq_getElem hx]
    rfl
  · unfold Wd.m
    rw [List.getElem?_eq_getElem hm]
    rfl
theorem Wd.pos {w : Wd} {e k : Int} (hin : inS (w.sec : Nat) w.D.length e k) : 1 ≤ w.D.length := by
  obtain ⟨⟨h1, h2⟩, h3, h4⟩ := hin
  omega
theorem writeW (w : Wd) (h : w.ok) (e k : Int) (s : ByteArray) : ACalls Tryd.prog 56 [.ptr 0 0, i64 e, i64 k, str s] w.H (RetH (i64 (w.write e k s).1) (w.write e k s).2.H) := by
  unfold Wd.write
  rcases w.err_cases e k with ⟨h1, h2, h3⟩ | ⟨h1, h2⟩ | ⟨h1, h2, h3⟩
  · rw [h1, if_pos rfl]
    by_cases hs : s.size ≤ 64
    · rw [if_pos hs]
      have hp := w.pos h3
      have hle := h.le
      have hlen := h.len
      obtain ⟨off, sec, D, M⟩ := w
      dsimp only at *
      subst h2
      match hD : D.length, hp, hle, hlen, h3 with
      | 1, _, _, hl, h3 => exact write_1 sec D M hD (by omega) e k s h3 hs
      | 2, _, _, hl, h3 => exact write_2 sec D M hD (by omega) e k s h3 hs
      | 3, _, _, hl, h3 => exact write_3 sec D M hD (by omega) e k s h3 hs
      | 4, _, _, hl, h3 => exact write_4 sec D M hD (by omega) e k s h3 hs
      | 5, _, _, hl, h3 => exact write_5 sec D M hD (by omega) e k s h3 hs
      | 6, _, _, hl, h3 => exact write_6 sec D M hD (by omega) e k s h3 hs
      | 7, _, _, hl, h3 => exact write_7 sec D M hD (by omega) e k s h3 hs
      | 8, _, _, hl, h3 => exact write_8 sec D M hD (by omega) e k s h3 hs
      | 0, hp, _, _, _ => exact absurd hp (by omega)
      | n + 9, _, hle, _, _ => exact absurd hle (by omega)
    · rw [if_neg hs]
      have hr := write_ref w.off (w.sec : Nat) w.D.length e k s (.inr (.inr (by omega)))
      rw [if_neg (by rw [h2]; decide), if_pos h3] at hr
      exact liftW w (by rw [h.len]; exact hr) rfl rfl
  · have hr := write_ref w.off (w.sec : Nat) w.D.length e k s (.inl h2)
    rw [if_pos h2] at hr
    rw [h1, if_neg (by decide)]
    exact liftW w (by rw [h.len]; exact hr) rfl rfl
  · have hr := write_ref w.off (w.sec : Nat) w.D.length e k s (.inr (.inl h3))
    rw [if_neg (by rw [h2]; decide), if_neg h3] at hr
    rw [h1, if_neg (by decide)]
    exact liftW w (by rw [h.len]; exact hr) rfl rfl
theorem readW (w : Wd) (h : w.ok) (e k : Int) : ACalls Tryd.prog 27 [.ptr 0 0, i64 e, i64 k] w.H (RetH (.tup [str (w.read e k).1, i64 (w.read e k).2]) w.H) := by
  unfold Wd.read
  rcases w.err_cases e k with ⟨h1, h2, h3⟩ | ⟨h1, h2⟩ | ⟨h1, h2, h3⟩
  · rw [h1, if_pos rfl]
    obtain ⟨d, m, x, hd, hm, hx, e1, e2⟩ := Wd.at_ h h3
    rw [e1, e2]
    have hp := w.pos h3
    have hle := h.le
    have hlen := h.len
    obtain ⟨off, sec, D, M⟩ := w
    dsimp only at *
    subst h2
    match hD : D.length, hp, hle, hlen, h3 with
    | 1, _, _, hl, h3 => exact read_1 sec D M hD (by omega) e k d m hd hm x hx h3
    | 2, _, _, hl, h3 => exact read_2 sec D M hD (by omega) e k d m hd hm x hx h3
    | 3, _, _, hl, h3 => exact read_3 sec D M hD (by omega) e k d m hd hm x hx h3
    | 4, _, _, hl, h3 => exact read_4 sec D M hD (by omega) e k d m hd hm x hx h3
    | 5, _, _, hl, h3 => exact read_5 sec D M hD (by omega) e k d m hd hm x hx h3
    | 6, _, _, hl, h3 => exact read_6 sec D M hD (by omega) e k d m hd hm x hx h3
    | 7, _, _, hl, h3 => exact read_7 sec D M hD (by omega) e k d m hd hm x hx h3
    | 8, _, _, hl, h3 => exact read_8 sec D M hD (by omega) e k d m hd hm x hx h3
    | 0, hp, _, _, _ => exact absurd hp (by omega)
    | n + 9, _, hle, _, _ => exact absurd hle (by omega)
  · have hr := read_ref w.off (w.sec : Nat) w.D.length e k (.inl h2)
    rw [if_pos h2] at hr
    rw [h1, if_neg (by decide)]
    exact liftW w (by rw [h.len]; exact hr) rfl rfl
  · have hr := read_ref w.off (w.sec : Nat) w.D.length e k (.inr h3)
    rw [if_neg (by rw [h2]; decide)] at hr
    rw [h1, if_neg (by decide)]
    exact liftW w (by rw [h.len]; exact hr) rfl rfl
theorem flushW (w : Wd) (h : w.ok) (e : Int) : ACalls Tryd.prog 41 [.ptr 0 0, i64 e] w.H (RetH (i64 (w.flush e).1) (w.flush e).2.H) := by
  unfold Wd.flush
  rcases w.err_cases e 0 with ⟨h1, h2, h3⟩ | ⟨h1, h2⟩ | ⟨h1, h2, h3⟩
  · rw [h1, if_pos rfl]
    obtain ⟨d, m, x, hd, hm, hx, e1, e2⟩ := Wd.at_ h h3
    rw [hd, hm]
    have hp := w.pos h3
    have hle := h.le
    have hlen := h.len
    have hok := h.mp m (List.mem_of_getElem? hm)
    have hks := h.ks m (List.mem_of_getElem? hm)
    have hsl := h.sec d (List.mem_of_getElem? hd)
    obtain ⟨off, sec, D, M⟩ := w
    dsimp only at *
    subst h2
    match hD : D.length, hp, hle, hlen, h3 with
    | 1, _, _, hl, h3 => exact flush_1 sec D M hD (by omega) e d m hd hm h3 hok hks hsl
    | 2, _, _, hl, h3 => exact flush_2 sec D M hD (by omega) e d m hd hm h3 hok hks hsl
    | 3, _, _, hl, h3 => exact flush_3 sec D M hD (by omega) e d m hd hm h3 hok hks hsl
    | 4, _, _, hl, h3 => exact flush_4 sec D M hD (by omega) e d m hd hm h3 hok hks hsl
    | 5, _, _, hl, h3 => exact flush_5 sec D M hD (by omega) e d m hd hm h3 hok hks hsl
    | 6, _, _, hl, h3 => exact flush_6 sec D M hD (by omega) e d m hd hm h3 hok hks hsl
    | 7, _, _, hl, h3 => exact flush_7 sec D M hD (by omega) e d m hd hm h3 hok hks hsl
    | 8, _, _, hl, h3 => exact flush_8 sec D M hD (by omega) e d m hd hm h3 hok hks hsl
    | 0, hp, _, _, _ => exact absurd hp (by omega)
    | n + 9, _, hle, _, _ => exact absurd hle (by omega)
  · have hr := flush_ref w.off (w.sec : Nat) w.D.length e (.inl h2)
    rw [if_pos h2] at hr
    rw [h1, if_neg (by decide)]
    exact liftW w (by rw [h.len]; exact hr) rfl rfl
  · have hr := flush_ref w.off (w.sec : Nat) w.D.length e (.inr h3)
    rw [if_neg (by rw [h2]; decide)] at hr
    rw [h1, if_neg (by decide)]
    exact liftW w (by rw [h.len]; exact hr) rfl rfl
theorem crashW (w : Wd) (h : w.ok) (hp : 1 ≤ w.D.length) (ps : List (Int × Int)) (hps : ps.length ≤ 100000) : ACalls Tryd.prog 21 [.ptr 0 0, .view ps.length (flat pkC ps)] w.H (RetH (i64 (w.crash ps).1) (w.crash ps).2.H) := by
  unfold Wd.crash
  by_cases ho : w.off = true
  · rw [if_pos ho]
    have hr := crash_ref (w.sec : Nat) w.D.length ps
    exact liftW w (by rw [h.len, ho]; exact hr) rfl rfl
  · rw [if_neg ho]
    have hle := h.le
    have hlen := h.len
    have hsec := h.sec
    obtain ⟨off, sec, D, M⟩ := w
    dsimp only at *
    obtain rfl : off = false := by cases off <;> simp_all
    match hD : D.length, hp, hle, hlen with
    | 1, _, _, hl => exact crash_1 sec D M ps hD (by omega) hps hsec
    | 2, _, _, hl => exact crash_2 sec D M ps hD (by omega) hps hsec
    | 3, _, _, hl => exact crash_3 sec D M ps hD (by omega) hps hsec
    | 4, _, _, hl => exact crash_4 sec D M ps hD (by omega) hps hsec
    | 5, _, _, hl => exact crash_5 sec D M ps hD (by omega) hps hsec
    | 6, _, _, hl => exact crash_6 sec D M ps hD (by omega) hps hsec
    | 7, _, _, hl => exact crash_7 sec D M ps hD (by omega) hps hsec
    | 8, _, _, hl => exact crash_8 sec D M ps hD (by omega) hps hsec
    | 0, hp, _, _ => exact absurd hp (by omega)
    | n + 9, _, hle, _ => exact absurd hle (by omega)
end Go.Proofs.YthbncljlclcecaaDoor.A

/- extent: what a world's methods keep, and what is where behind them. Plain. -/
namespace Go.Proofs.YthbncljlclcecaaDoor.A
open Go
set_option linter.unusedVariables false
set_option linter.unusedSimpArgs false
set_option maxRecDepth 100000

theorem mput_keys {m : Mp} {n : Int} {s : ByteArray} {x : En} (h : x ∈ (m.put n s).L) : x.1 = n ∨ ∃ y ∈ m.L, y.1 = x.1 := by
  unfold Mp.put at h
  cases hp : posE m.L n with
  | none =>
    rw [hp] at h
    rcases List.mem_append.1 h with h | h
    · exact .inr ⟨x, h, rfl⟩
    · rw [List.mem_singleton] at h
      exact .inl (by rw [h])
  | some i =>
    rw [hp] at h
    have h1 : x.1 ∈ (m.L.modify i fun e => (e.1, s, e.2.2)).map (·.1) := List.mem_map_of_mem h
    rw [mod_map (·.1) s (fun _ => rfl)] at h1
    obtain ⟨y, hy, he⟩ := List.mem_map.1 h1
    exact .inr ⟨y, hy, he⟩
theorem mem_modify {α : Type} {f : α → α} {y : α} : ∀ {l : List α} {i : Nat}, y ∈ l.modify i f → y ∈ l ∨ ∃ x ∈ l, y = f x
  | [], i, h => by simp at h
  | x :: l, 0, h => by
    rw [List.modify_zero_cons] at h
    rcases List.mem_cons.1 h with h | h
    · exact .inr ⟨x, List.mem_cons_self .., h⟩
    · exact .inl (List.mem_cons_of_mem _ h)
  | x :: l, i + 1, h => by
    rw [List.modify_succ_cons] at h
    rcases List.mem_cons.1 h with h | h
    · exact .inl (by rw [h]; exact List.mem_cons_self ..)
    · rcases mem_modify h with h | ⟨z, hz, h⟩
      · exact .inl (List.mem_cons_of_mem _ h)
      · exact .inr ⟨z, List.mem_cons_of_mem _ hz, h⟩
theorem mem_setL {α : Type} {a y : α} {l : List α} {i : Nat} (h : y ∈ l.set i a) : y ∈ l ∨ y = a := (List.mem_or_eq_of_mem_set h)
theorem dryM_len (m : Mp) (d : List ByteArray) : (dryM m d).length = d.length := by unfold dryM; rw [List.length_mapIdx]
theorem pick1_len {sec : Nat} {M : List Mp} {D : List (List ByteArray)} {p : Int × Int} : (pick1 sec M D p).length = D.length := by
  unfold pick1
  split
  · split
    · rw [List.length_modify]
    · rfl
  · rfl
theorem pick1_all {sec : Nat} {M : List Mp} {D : List (List ByteArray)} {p : Int × Int} (h : ∀ d ∈ D, d.length = sec) : ∀ d ∈ pick1 sec M D p, d.length = sec := by
  unfold pick1
  split
  · split
    · intro d hd
      rcases mem_modify hd with hd | ⟨x, hx, rfl⟩
      · exact h d hd
      · rw [List.length_set]
        exact h x hx
    · exact h
  · exact h
theorem picksD_len {sec : Nat} {M : List Mp} : ∀ (ps : List (Int × Int)) (D : List (List ByteArray)), (picksD sec M D ps).length = D.length
  | [], _ => rfl
  | p :: ps, D => by
    show (picksD sec M (pick1 sec M D p) ps).length = _
    rw [picksD_len ps, pick1_len]
theorem picksD_all {sec : Nat} {M : List Mp} : ∀ (ps : List (Int × Int)) (D : List (List ByteArray)), (∀ d ∈ D, d.length = sec) → ∀ d ∈ picksD sec M D ps, d.length = sec
  | [], _, h => h
  | p :: ps, D, h => picksD_all ps (pick1 sec M D p) (pick1_all h)
/-- A world of so many extents of so many sectors. -/
structure Wd.is (w : Wd) (n sec : Nat) : Prop where
  ok : w.ok
  n : w.D.length = n
  s : w.sec = sec
theorem write_is {w : Wd} {n sec : Nat} (h : w.is n sec) (e k : Int) (s : ByteArray) : (w.write e k s).2.is n sec := by
  unfold Wd.write
  rcases w.err_cases e k with ⟨h1, h2, h3⟩ | ⟨h1, h2⟩ | ⟨h1, h2, h3⟩
  · rw [h1, if_pos rfl]
    split
    · refine ⟨⟨by show (w.M.modify _ _).length = _; rw [List.length_modify]; exact h.ok.len, h.ok.le, h.ok.sec, h.ok.secle, fun m hm => ?_, fun m hm x hx => ?_⟩, h.n, h.s⟩
      · rcases mem_modify hm with hm | ⟨y, hy, rfl⟩
        · exact h.ok.mp m hm
        · exact mput_ok y (h.ok.mp y hy) k s
      · rcases mem_modify hm with hm | ⟨y, hy, rfl⟩
        · exact h.ok.ks m hm x hx
        · rcases mput_keys hx with hx | ⟨z, hz, hzx⟩
          · rw [hx]
            exact h3.2
          · rw [← hzx]
            exact h.ok.ks y hy z hz
    · exact h
  · rw [h1]
    exact h
  · rw [h1]
    exact h
theorem flush_is {w : Wd} {n sec : Nat} (h : w.is n sec) (e : Int) : (w.flush e).2.is n sec := by
  unfold Wd.flush
  rcases w.err_cases e 0 with ⟨h1, h2, h3⟩ | ⟨h1, h2⟩ | ⟨h1, h2, h3⟩
  · rw [h1, if_pos rfl]
    obtain ⟨d, m, x, hd, hm, hx, e1, e2⟩ := Wd.at_ h.ok h3
    rw [hd, hm]
    refine ⟨⟨?_, ?_, fun d' hd' => ?_, h.ok.secle, fun m' hm' => ?_, fun m' hm' x hx => ?_⟩, ?_, h.s⟩
    · show (w.M.set _ _).length = (w.D.set _ _).length
      rw [List.length_set, List.length_set]
      exact h.ok.len
    · show (w.D.set _ _).length ≤ 8
      rw [List.length_set]
      exact h.ok.le
    · rcases mem_setL hd' with hd' | rfl
      · exact h.ok.sec d' hd'
      · rw [dryM_len]
        exact h.ok.sec d (List.mem_of_getElem? hd)
    · rcases mem_setL hm' with hm' | rfl
      · exact h.ok.mp m' hm'
      · exact mclr_ok m
    · rcases mem_setL hm' with hm' | rfl
      · exact h.ok.ks m' hm' x hx
      · cases hx
    · show (w.D.set _ _).length = n
      rw [List.length_set]
      exact h.n
  · rw [h1]
    exact h
  · rw [h1]
    exact h
theorem crash_is {w : Wd} {n sec : Nat} (h : w.is n sec) (ps : List (Int × Int)) : (w.crash ps).2.is n sec := by
  unfold Wd.crash
  split
  · exact h
  · refine ⟨⟨?_, ?_, picksD_all ps w.D h.ok.sec, h.ok.secle, fun m hm => ?_, fun m hm x hx => ?_⟩, ?_, h.s⟩
    · show (w.M.map _).length = (picksD _ _ _ _).length
      rw [List.length_map, picksD_len]
      exact h.ok.len
    · show (picksD _ _ _ _).length ≤ 8
      rw [picksD_len]
      exact h.ok.le
    · obtain ⟨y, hy, rfl⟩ := List.mem_map.1 hm
      exact mclr_ok y
    · obtain ⟨y, hy, rfl⟩ := List.mem_map.1 hm
      cases hx
    · show (picksD _ _ _ _).length = n
      rw [picksD_len]
      exact h.n
theorem new_is {n sec : Nat} (h8 : n ≤ 8) (hs : sec ≤ 128) : (newW n sec).is n sec := by
  refine ⟨⟨?_, ?_, fun d hd => ?_, hs, fun m hm => ?_, fun m hm x hx => ?_⟩, ?_, rfl⟩
  · show (List.replicate _ _).length = (List.replicate _ _).length
    rw [List.length_replicate, List.length_replicate]
  · show (List.replicate _ _).length ≤ 8
    rw [List.length_replicate]
    exact h8
  · rw [List.eq_of_mem_replicate hd, List.length_replicate]
    rfl
  · rw [List.eq_of_mem_replicate hm]
    exact ⟨(fun e he => by cases he), List.nodup_nil, List.nodup_nil⟩
  · rw [List.eq_of_mem_replicate hm] at hx
    cases hx
  · show (List.replicate _ _).length = n
    rw [List.length_replicate]
/-! ### What is where -/
section
variable {w : Wd} {n sec : Nat} {e k e' k' : Int} {s : ByteArray}
/-- In range. -/
def inW (n sec : Nat) (e k : Int) : Prop := inS (sec : Nat) n e k
theorem Wd.is.inS (h : w.is n sec) : inW n sec e k ↔ A.inS (w.sec : Nat) w.D.length e k := by unfold inW; rw [h.n, h.s]
theorem Wd.is.may0 (h : w.is n sec) : w.may e k = 0 ↔ inW n sec e k := by
  rw [h.inS]
  unfold Wd.may
  by_cases hi : A.inS (w.sec : Nat) w.D.length e k
  · rw [if_pos hi]; exact ⟨fun _ => hi, fun _ => rfl⟩
  · rw [if_neg hi]; exact ⟨fun h => by omega, fun h => absurd h hi⟩
theorem Wd.is.err0 (h : w.is n sec) : w.err e k = 0 ↔ w.off = false ∧ inW n sec e k := by
  unfold Wd.err
  cases hf : w.off
  · rw [if_neg (by decide), h.may0]
    exact ⟨fun h => ⟨rfl, h⟩, fun h => h.2⟩
  · rw [if_pos rfl]
    exact ⟨fun h => by omega, fun h => by cases h.1⟩
end
end Go.Proofs.YthbncljlclcecaaDoor.A
