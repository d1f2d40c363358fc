/- extent: a world's methods, each whole (printed by genexq.py). No condition. -/
import Derived.Test.YtpkbdlocmjgmbaaXp
namespace Go.Proofs.Ytpkbdlocmjgmbaa.A
open Go
set_option linter.unusedVariables false
set_option linter.unusedSimpArgs false
set_option maxRecDepth 100000
set_option pp.maxSteps 600

theorem liftW {P : Program} {g : FuncId} {rest : List AV} {v : AV} (w : Wd) (h : ACalls P g (.vp [bo w.off, i64 (w.sec : Nat), .view w.D.length [], .view w.M.length []] :: rest) [] (Ret v)) (hr : belowL 0 rest = true) (hc : closedV v = true) :
    ACalls P g (.ptr 0 0 :: rest) w.H (RetH v w.H) := by
  refine (callW (cs := w.row) (K := fun u G => u = v ∧ G = w.H) (Kp := fun _ _ => False) h rfl hr hc ⟨rfl, rfl⟩).mono fun E G hE => ?_
  cases E with
  | ret u => exact ⟨by rw [hE.1], hE.2⟩
  | pan u => exact hE.elim
theorem len_keys {m : Mp} (hok : m.ok) {n : Nat} (h : ∀ x ∈ m.L, 0 ≤ x.1 ∧ x.1 < (n : Nat)) : m.L.length ≤ n := by
  have h1 : ((m.L.map fun x => x.1.toNat)).Nodup := nodup_of (·.1) (fun x => x.1.toNat) (L := m.L) (fun x hx y hy hxy => by have := h x hx; have := h y hy; omega) (fun e he => he) hok.ky
  have h2 := len_subN (L := List.range n) h1 (fun a ha => by
    obtain ⟨x, hx, rfl⟩ := List.mem_map.1 ha
    have := h x hx
    exact List.mem_range.2 (by omega))
  rw [List.length_map, List.length_range] at h2
  exact h2
theorem wf_small {n : Int} (h1 : -9223372036854775808 ≤ n) (h2 : n ≤ 9223372036854775807) : (Lit.int .i64 n).wf = true := by
  show (decide ((-9223372036854775808 : Int) ≤ n) && decide (n ≤ (9223372036854775807 : Int))) = true
  rw [decide_eq_true h1, decide_eq_true h2]
  rfl
def Wd.may (w : Wd) (e k : Int) : Int := if inS (w.sec : Nat) w.D.length e k then 0 else 1
def Wd.err (w : Wd) (e k : Int) : Int := if w.off = true then 6 else w.may e k
/-- What is dry at a sector. -/
def Wd.d (w : Wd) (e k : Int) : ByteArray := (w.D[e.toNat]?.bind fun d => d[k.toNat]?).getD ByteArray.empty
/-- What is wet. -/
def Wd.m (w : Wd) (e k : Int) : Option ByteArray := w.M[e.toNat]?.bind fun m => m.get k
def Wd.write (w : Wd) (e k : Int) (s : ByteArray) : Int × Wd :=
  if w.err e k = 0 then if s.size ≤ 64 then (0, ⟨w.off, w.sec, w.D, w.M.modify e.toNat fun m => m.put k s⟩) else (5, w) else (w.err e k, w)
def Wd.read (w : Wd) (e k : Int) : ByteArray × Int := if w.err e k = 0 then ((w.m e k).getD (w.d e k), 0) else (ByteArray.empty, w.err e k)
def Wd.dry (w : Wd) (e k : Int) : ByteArray × Int := if w.may e k = 0 then (w.d e k, 0) else (ByteArray.empty, w.may e k)
def Wd.flush (w : Wd) (e : Int) : Int × Wd :=
  if w.err e 0 = 0 then (0, match w.D[e.toNat]?, w.M[e.toNat]? with
    | some d, some m => ⟨w.off, w.sec, w.D.set e.toNat (dryM m d), w.M.set e.toNat m.clr⟩
    | _, _ => w) else (w.err e 0, w)
def Wd.crash (w : Wd) (ps : List (Int × Int)) : Int × Wd := if w.off = true then (6, w) else (0, ⟨true, w.sec, picksD w.sec w.M w.D ps, w.M.map Mp.clr⟩)
def Wd.start (w : Wd) : Int × Wd := (if w.off = true then 0 else 8, ⟨false, w.sec, w.D, w.M⟩)
def Wd.lay (w : Wd) (e k : Int) (s : ByteArray) : Int × Wd :=
  if w.may e k = 0 then if s.size ≤ 64 then (0, ⟨w.off, w.sec, w.D.modify e.toNat fun d => d.set k.toNat s, w.M.modify e.toNat fun m => m.del k⟩) else (5, w) else (w.may e k, w)
def Wd.wet (w : Wd) (e : Int) : List Int := match w.M[e.toNat]? with | some m => if 0 ≤ e then ksE m.L else [] | none => []
theorem Wd.may_cases (w : Wd) (e k : Int) : (w.may e k = 0 ∧ inS (w.sec : Nat) w.D.length e k) ∨ (w.may e k = 1 ∧ ¬ inS (w.sec : Nat) w.D.length e k) := by
  unfold Wd.may
  by_cases h : inS (w.sec : Nat) w.D.length e k
  · exact .inl ⟨if_pos h, h⟩
  · exact .inr ⟨if_neg h, h⟩
theorem Wd.err_cases (w : Wd) (e k : Int) : (w.err e k = 0 ∧ w.off = false ∧ inS (w.sec : Nat) w.D.length e k) ∨ (w.err e k = 6 ∧ w.off = true) ∨ (w.err e k = 1 ∧ w.off = false ∧ ¬ inS (w.sec : Nat) w.D.length e k) := by
  unfold Wd.err
  cases h : w.off
  · rw [if_neg (by decide)]
    rcases w.may_cases e k with ⟨h1, h2⟩ | ⟨h1, h2⟩
    · exact .inl ⟨h1, rfl, h2⟩
    · exact .inr (.inr ⟨h1, rfl, h2⟩)
  · exact .inr (.inl ⟨if_pos rfl, rfl⟩)
theorem Wd.at_ {w : Wd} (h : w.ok) {e k : Int} (hin : inS (w.sec : Nat) w.D.length e k) : ∃ d m x, w.D[e.toNat]? = some d ∧ w.M[e.toNat]? = some m ∧ d[k.toNat]? = some x ∧ w.d e k = x ∧ w.m e k = m.get k := by
  obtain ⟨⟨h1, h2⟩, h3, h4⟩ := hin
  have hd : e.toNat < w.D.length := by omega
  have hm : e.toNat < w.M.length := by have := h.len; omega
  have hs := h.sec _ (List.getElem_mem hd)
  have hx : k.toNat < (w.D[e.toNat]).length := by omega
  refine ⟨_, _, _, List.getElem?_eq_getElem hd, List.getElem?_eq_getElem hm, List.getElem?_eq_getElem hx, ?_, ?_⟩
  · unfold Wd.d
    rw [List.getElem?_eq_getElem hd, Option.bind_some, List.getElem?_eq_getElem hx]
    rfl
  · unfold Wd.m
    rw [List.getElem?_eq_getElem hm]
    rfl
theorem Wd.pos {w : Wd} {e k : Int} (hin : inS (w.sec : Nat) w.D.length e k) : 1 ≤ w.D.length := by
  obtain ⟨⟨h1, h2⟩, h3, h4⟩ := hin
  omega
theorem writeW (w : Wd) (h : w.ok) (e k : Int) (s : ByteArray) : ACalls Try.prog 24 [.ptr 0 0, i64 e, i64 k, str s] w.H (RetH (i64 (w.write e k s).1) (w.write e k s).2.H) := by
  unfold Wd.write
  rcases w.err_cases e k with ⟨h1, h2, h3⟩ | ⟨h1, h2⟩ | ⟨h1, h2, h3⟩
  · rw [h1, if_pos rfl]
    by_cases hs : s.size ≤ 64
    · rw [if_pos hs]
      have hp := w.pos h3
      have hle := h.le
      have hlen := h.len
      obtain ⟨off, sec, D, M⟩ := w
      dsimp only at *
      subst h2
      match hD : D.length, hp, hle, hlen, h3 with
      | 1, _, _, hl, h3 => exact write_1 sec D M hD (by omega) e k s h3 hs
      | 2, _, _, hl, h3 => exact write_2 sec D M hD (by omega) e k s h3 hs
      | 3, _, _, hl, h3 => exact write_3 sec D M hD (by omega) e k s h3 hs
      | 4, _, _, hl, h3 => exact write_4 sec D M hD (by omega) e k s h3 hs
      | 5, _, _, hl, h3 => exact write_5 sec D M hD (by omega) e k s h3 hs
      | 6, _, _, hl, h3 => exact write_6 sec D M hD (by omega) e k s h3 hs
      | 7, _, _, hl, h3 => exact write_7 sec D M hD (by omega) e k s h3 hs
      | 8, _, _, hl, h3 => exact write_8 sec D M hD (by omega) e k s h3 hs
      | 0, hp, _, _, _ => exact absurd hp (by omega)
      | n + 9, _, hle, _, _ => exact absurd hle (by omega)
    · rw [if_neg hs]
      have hr := write_ref w.off (w.sec : Nat) w.D.length e k s (.inr (.inr (by omega)))
      rw [if_neg (by rw [h2]; decide), if_pos h3] at hr
      exact liftW w (by rw [h.len]; exact hr) rfl rfl
  · have hr := write_ref w.off (w.sec : Nat) w.D.length e k s (.inl h2)
    rw [if_pos h2] at hr
    rw [h1, if_neg (by decide)]
    exact liftW w (by rw [h.len]; exact hr) rfl rfl
  · have hr := write_ref w.off (w.sec : Nat) w.D.length e k s (.inr (.inl h3))
    rw [if_neg (by rw [h2]; decide), if_neg h3] at hr
    rw [h1, if_neg (by decide)]
    exact liftW w (by rw [h.len]; exact hr) rfl rfl
theorem layW (w : Wd) (h : w.ok) (e k : Int) (s : ByteArray) : ACalls Try.prog 25 [.ptr 0 0, i64 e, i64 k, str s] w.H (RetH (i64 (w.lay e k s).1) (w.lay e k s).2.H) := by
  unfold Wd.lay
  rcases w.may_cases e k with ⟨h1, h3⟩ | ⟨h1, h3⟩
  · rw [h1, if_pos rfl]
    by_cases hs : s.size ≤ 64
    · rw [if_pos hs]
      have hp := w.pos h3
      have hle := h.le
      have hlen := h.len
      have hx : ∀ d ∈ w.D, k.toNat < d.length := fun d hd => by
        have h4 := h3.2
        rw [h.sec d hd]
        omega
      obtain ⟨off, sec, D, M⟩ := w
      dsimp only at *
      match hD : D.length, hp, hle, hlen, h3 with
      | 1, _, _, hl, h3 => exact lay_1 off sec D M hD (by omega) e k s hs hx h3
      | 2, _, _, hl, h3 => exact lay_2 off sec D M hD (by omega) e k s hs hx h3
      | 3, _, _, hl, h3 => exact lay_3 off sec D M hD (by omega) e k s hs hx h3
      | 4, _, _, hl, h3 => exact lay_4 off sec D M hD (by omega) e k s hs hx h3
      | 5, _, _, hl, h3 => exact lay_5 off sec D M hD (by omega) e k s hs hx h3
      | 6, _, _, hl, h3 => exact lay_6 off sec D M hD (by omega) e k s hs hx h3
      | 7, _, _, hl, h3 => exact lay_7 off sec D M hD (by omega) e k s hs hx h3
      | 8, _, _, hl, h3 => exact lay_8 off sec D M hD (by omega) e k s hs hx h3
      | 0, hp, _, _, _ => exact absurd hp (by omega)
      | n + 9, _, hle, _, _ => exact absurd hle (by omega)
    · rw [if_neg hs]
      have hr := lay_ref w.off (w.sec : Nat) w.D.length e k s (.inr (by omega))
      rw [if_pos h3] at hr
      exact liftW w (by rw [h.len]; exact hr) rfl rfl
  · have hr := lay_ref w.off (w.sec : Nat) w.D.length e k s (.inl h3)
    rw [if_neg h3] at hr
    rw [h1, if_neg (by decide)]
    exact liftW w (by rw [h.len]; exact hr) rfl rfl
theorem readW (w : Wd) (h : w.ok) (e k : Int) : ACalls Try.prog 12 [.ptr 0 0, i64 e, i64 k] w.H (RetH (.tup [str (w.read e k).1, i64 (w.read e k).2]) w.H) := by
  unfold Wd.read
  rcases w.err_cases e k with ⟨h1, h2, h3⟩ | ⟨h1, h2⟩ | ⟨h1, h2, h3⟩
  · rw [h1, if_pos rfl]
    obtain ⟨d, m, x, hd, hm, hx, e1, e2⟩ := Wd.at_ h h3
    rw [e1, e2]
    have hp := w.pos h3
    have hle := h.le
    have hlen := h.len
    obtain ⟨off, sec, D, M⟩ := w
    dsimp only at *
    subst h2
    match hD : D.length, hp, hle, hlen, h3 with
    | 1, _, _, hl, h3 => exact read_1 sec D M hD (by omega) e k d m hd hm x hx h3
    | 2, _, _, hl, h3 => exact read_2 sec D M hD (by omega) e k d m hd hm x hx h3
    | 3, _, _, hl, h3 => exact read_3 sec D M hD (by omega) e k d m hd hm x hx h3
    | 4, _, _, hl, h3 => exact read_4 sec D M hD (by omega) e k d m hd hm x hx h3
    | 5, _, _, hl, h3 => exact read_5 sec D M hD (by omega) e k d m hd hm x hx h3
    | 6, _, _, hl, h3 => exact read_6 sec D M hD (by omega) e k d m hd hm x hx h3
    | 7, _, _, hl, h3 => exact read_7 sec D M hD (by omega) e k d m hd hm x hx h3
    | 8, _, _, hl, h3 => exact read_8 sec D M hD (by omega) e k d m hd hm x hx h3
    | 0, hp, _, _, _ => exact absurd hp (by omega)
    | n + 9, _, hle, _, _ => exact absurd hle (by omega)
  · have hr := read_ref w.off (w.sec : Nat) w.D.length e k (.inl h2)
    rw [if_pos h2] at hr
    rw [h1, if_neg (by decide)]
    exact liftW w (by rw [h.len]; exact hr) rfl rfl
  · have hr := read_ref w.off (w.sec : Nat) w.D.length e k (.inr h3)
    rw [if_neg (by rw [h2]; decide)] at hr
    rw [h1, if_neg (by decide)]
    exact liftW w (by rw [h.len]; exact hr) rfl rfl
theorem dryW (w : Wd) (h : w.ok) (e k : Int) : ACalls Try.prog 14 [.ptr 0 0, i64 e, i64 k] w.H (RetH (.tup [str (w.dry e k).1, i64 (w.dry e k).2]) w.H) := by
  unfold Wd.dry
  rcases w.may_cases e k with ⟨h1, h3⟩ | ⟨h1, h3⟩
  · rw [h1, if_pos rfl]
    obtain ⟨d, m, x, hd, hm, hx, e1, e2⟩ := Wd.at_ h h3
    rw [e1]
    have hp := w.pos h3
    have hle := h.le
    have hlen := h.len
    obtain ⟨off, sec, D, M⟩ := w
    dsimp only at *
    match hD : D.length, hp, hle, hlen, h3 with
    | 1, _, _, hl, h3 => exact dry_1 off sec D M hD (by omega) e k d hd x hx h3
    | 2, _, _, hl, h3 => exact dry_2 off sec D M hD (by omega) e k d hd x hx h3
    | 3, _, _, hl, h3 => exact dry_3 off sec D M hD (by omega) e k d hd x hx h3
    | 4, _, _, hl, h3 => exact dry_4 off sec D M hD (by omega) e k d hd x hx h3
    | 5, _, _, hl, h3 => exact dry_5 off sec D M hD (by omega) e k d hd x hx h3
    | 6, _, _, hl, h3 => exact dry_6 off sec D M hD (by omega) e k d hd x hx h3
    | 7, _, _, hl, h3 => exact dry_7 off sec D M hD (by omega) e k d hd x hx h3
    | 8, _, _, hl, h3 => exact dry_8 off sec D M hD (by omega) e k d hd x hx h3
    | 0, hp, _, _, _ => exact absurd hp (by omega)
    | n + 9, _, hle, _, _ => exact absurd hle (by omega)
  · have hr := dry_ref w.off (w.sec : Nat) w.D.length e k h3
    rw [h1, if_neg (by decide)]
    exact liftW w (by rw [h.len]; exact hr) rfl rfl
theorem flushW (w : Wd) (h : w.ok) (e : Int) : ACalls Try.prog 11 [.ptr 0 0, i64 e] w.H (RetH (i64 (w.flush e).1) (w.flush e).2.H) := by
  unfold Wd.flush
  rcases w.err_cases e 0 with ⟨h1, h2, h3⟩ | ⟨h1, h2⟩ | ⟨h1, h2, h3⟩
  · rw [h1, if_pos rfl]
    obtain ⟨d, m, x, hd, hm, hx, e1, e2⟩ := Wd.at_ h h3
    rw [hd, hm]
    have hp := w.pos h3
    have hle := h.le
    have hlen := h.len
    have hok := h.mp m (List.mem_of_getElem? hm)
    have hks := h.ks m (List.mem_of_getElem? hm)
    have hsl := h.sec d (List.mem_of_getElem? hd)
    obtain ⟨off, sec, D, M⟩ := w
    dsimp only at *
    subst h2
    match hD : D.length, hp, hle, hlen, h3 with
    | 1, _, _, hl, h3 => exact flush_1 sec D M hD (by omega) e d m hd hm h3 hok hks hsl
    | 2, _, _, hl, h3 => exact flush_2 sec D M hD (by omega) e d m hd hm h3 hok hks hsl
    | 3, _, _, hl, h3 => exact flush_3 sec D M hD (by omega) e d m hd hm h3 hok hks hsl
    | 4, _, _, hl, h3 => exact flush_4 sec D M hD (by omega) e d m hd hm h3 hok hks hsl
    | 5, _, _, hl, h3 => exact flush_5 sec D M hD (by omega) e d m hd hm h3 hok hks hsl
    | 6, _, _, hl, h3 => exact flush_6 sec D M hD (by omega) e d m hd hm h3 hok hks hsl
    | 7, _, _, hl, h3 => exact flush_7 sec D M hD (by omega) e d m hd hm h3 hok hks hsl
    | 8, _, _, hl, h3 => exact flush_8 sec D M hD (by omega) e d m hd hm h3 hok hks hsl
    | 0, hp, _, _, _ => exact absurd hp (by omega)
    | n + 9, _, hle, _, _ => exact absurd hle (by omega)
  · have hr := flush_ref w.off (w.sec : Nat) w.D.length e (.inl h2)
    rw [if_pos h2] at hr
    rw [h1, if_neg (by decide)]
    exact liftW w (by rw [h.len]; exact hr) rfl rfl
  · have hr := flush_ref w.off (w.sec : Nat) w.D.length e (.inr h3)
    rw [if_neg (by rw [h2]; decide)] at hr
    rw [h1, if_neg (by decide)]
    exact liftW w (by rw [h.len]; exact hr) rfl rfl
theorem startW (w : Wd) (h : w.ok) (hp : 1 ≤ w.D.length) : ACalls Try.prog 10 [.ptr 0 0] w.H (RetH (i64 w.start.1) w.start.2.H) := by
  unfold Wd.start
  have hle := h.le
  have hlen := h.len
  obtain ⟨off, sec, D, M⟩ := w
  dsimp only at *
  match hD : D.length, hp, hle, hlen with
  | 1, _, _, hl => exact start_1 off sec D M hD (by omega)
  | 2, _, _, hl => exact start_2 off sec D M hD (by omega)
  | 3, _, _, hl => exact start_3 off sec D M hD (by omega)
  | 4, _, _, hl => exact start_4 off sec D M hD (by omega)
  | 5, _, _, hl => exact start_5 off sec D M hD (by omega)
  | 6, _, _, hl => exact start_6 off sec D M hD (by omega)
  | 7, _, _, hl => exact start_7 off sec D M hD (by omega)
  | 8, _, _, hl => exact start_8 off sec D M hD (by omega)
  | 0, hp, _, _ => exact absurd hp (by omega)
  | n + 9, _, hle, _ => exact absurd hle (by omega)
theorem crashW (w : Wd) (h : w.ok) (hp : 1 ≤ w.D.length) (ps : List (Int × Int)) (hps : ps.length ≤ 100000) : ACalls Try.prog 13 [.ptr 0 0, .view ps.length (flat pkC ps)] w.H (RetH (i64 (w.crash ps).1) (w.crash ps).2.H) := by
  unfold Wd.crash
  by_cases ho : w.off = true
  · rw [if_pos ho]
    have hr := crash_ref (w.sec : Nat) w.D.length ps
    exact liftW w (by rw [h.len, ho]; exact hr) rfl rfl
  · rw [if_neg ho]
    have hle := h.le
    have hlen := h.len
    have hsec := h.sec
    obtain ⟨off, sec, D, M⟩ := w
    dsimp only at *
    obtain rfl : off = false := by cases off <;> simp_all
    match hD : D.length, hp, hle, hlen with
    | 1, _, _, hl => exact crash_1 sec D M ps hD (by omega) hps hsec
    | 2, _, _, hl => exact crash_2 sec D M ps hD (by omega) hps hsec
    | 3, _, _, hl => exact crash_3 sec D M ps hD (by omega) hps hsec
    | 4, _, _, hl => exact crash_4 sec D M ps hD (by omega) hps hsec
    | 5, _, _, hl => exact crash_5 sec D M ps hD (by omega) hps hsec
    | 6, _, _, hl => exact crash_6 sec D M ps hD (by omega) hps hsec
    | 7, _, _, hl => exact crash_7 sec D M ps hD (by omega) hps hsec
    | 8, _, _, hl => exact crash_8 sec D M ps hD (by omega) hps hsec
    | 0, hp, _, _ => exact absurd hp (by omega)
    | n + 9, _, hle, _ => exact absurd hle (by omega)
theorem wetW (w : Wd) (h : w.ok) (e : Int) (he : 0 ≤ e ∧ e < w.D.length) : ACalls Try.prog 15 [.ptr 0 0, i64 e] w.H (RetH (iV (w.wet e)) w.H) := by
  have hm' : e.toNat < w.M.length := by have := h.len; omega
  unfold Wd.wet
  rw [List.getElem?_eq_getElem hm']
  dsimp only
  rw [if_pos he.1]
  have hle := h.le
  have hlen := h.len
  have hok := h.mp
  have hks := h.ks
  have hsl := h.secle
  have hm := List.getElem?_eq_getElem hm'
  generalize w.M[e.toNat] = m at hm ⊢
  have hl1 : ∀ m ∈ w.M, m.L.length ≤ 1000 := fun m hm => by
    have := len_keys (hok m hm) (fun x hx => hks m hm x hx)
    omega
  have hwf : ∀ m ∈ w.M, ∀ e ∈ m.L, (Lit.int .i64 e.1).wf = true := fun m hm x hx => by
    have := hks m hm x hx
    exact wf_small (by omega) (by omega)
  obtain ⟨off, sec, D, M⟩ := w
  dsimp only at *
  match hD : D.length, he, hle, hlen with
  | 1, he, _, hl => exact wet_1 off sec D M hD (by omega) e m hm he hok hl1 hwf
  | 2, he, _, hl => exact wet_2 off sec D M hD (by omega) e m hm he hok hl1 hwf
  | 3, he, _, hl => exact wet_3 off sec D M hD (by omega) e m hm he hok hl1 hwf
  | 4, he, _, hl => exact wet_4 off sec D M hD (by omega) e m hm he hok hl1 hwf
  | 5, he, _, hl => exact wet_5 off sec D M hD (by omega) e m hm he hok hl1 hwf
  | 6, he, _, hl => exact wet_6 off sec D M hD (by omega) e m hm he hok hl1 hwf
  | 7, he, _, hl => exact wet_7 off sec D M hD (by omega) e m hm he hok hl1 hwf
  | 8, he, _, hl => exact wet_8 off sec D M hD (by omega) e m hm he hok hl1 hwf
  | 0, he, _, _ => exact absurd he.2 (by omega)
  | n + 9, _, hle, _ => exact absurd hle (by omega)
end Go.Proofs.Ytpkbdlocmjgmbaa.A
