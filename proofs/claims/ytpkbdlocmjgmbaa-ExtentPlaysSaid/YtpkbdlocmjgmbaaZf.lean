/- extent: the reference's methods, told by a world. No condition. -/
import Derived.Test.YtpkbdlocmjgmbaaZe
namespace Go.Proofs.Ytpkbdlocmjgmbaa.A
open Go
set_option linter.unusedVariables false
set_option linter.unusedSimpArgs false
set_option maxRecDepth 100000
set_option pp.maxSteps 600
def refH (w : Wd) (n sec : Nat) : Heap := rH w.off n sec (n * sec) (secsOf w n sec)
section
variable {w : Wd} {n sec : Nat} {e k : Int} {s : ByteArray}
theorem refWriteW (hi : w.is n sec) (hn : n ≤ 1000) (hs : sec ≤ 1000) : ACalls Try.prog 31 [.ptr 1 0, i64 e, i64 k, str s] (refH w n sec) (RetH (i64 (w.write e k s).1) (refH (w.write e k s).2 n sec)) := by
  unfold refH
  rw [write_off]
  have hr := w.err_cases e k
  rw [hi.n, hi.s] at hr
  rcases hr with ⟨h1, h2, h3⟩ | ⟨h1, h2⟩ | ⟨h1, h2, h3⟩
  · by_cases hl : s.size ≤ 64
    · rw [write_0 h1 hl, ← secs_write hi h1 hl, h2]
      exact refWrite_ok hn hs rfl h3 hl (secs_at w h3)
    · have e1 : w.write e k s = (5, w) := by unfold Wd.write; rw [if_pos h1, if_neg hl]
      rw [e1, h2]
      exact refWrite_long hn hs h3 (by omega)
  · have e1 : w.write e k s = (6, w) := by unfold Wd.write; rw [h1]; rfl
    rw [e1, h2]
    exact refWrite_off
  · have e1 : w.write e k s = (1, w) := by unfold Wd.write; rw [h1]; rfl
    rw [e1, h2]
    exact refWrite_no hn hs h3
theorem refLayW (hi : w.is n sec) (hn : n ≤ 1000) (hs : sec ≤ 1000) : ACalls Try.prog 35 [.ptr 1 0, i64 e, i64 k, str s] (refH w n sec) (RetH (i64 (w.lay e k s).1) (refH (w.lay e k s).2 n sec)) := by
  unfold refH
  rw [lay_off]
  have hr := w.may_cases e k
  rw [hi.n, hi.s] at hr
  rcases hr with ⟨h1, h3⟩ | ⟨h1, h3⟩
  · by_cases hl : s.size ≤ 64
    · rw [lay_0 h1 hl, ← secs_lay hi h1 hl]
      exact refLay_ok hn hs rfl h3 hl (secs_at w h3)
    · have e1 : w.lay e k s = (5, w) := by unfold Wd.lay; rw [if_pos h1, if_neg hl]
      rw [e1]
      exact refLay_long hn hs h3 (by omega)
  · have e1 : w.lay e k s = (1, w) := by unfold Wd.lay; rw [h1]; rfl
    rw [e1]
    exact refLay_no hn hs h3
theorem refReadW (hi : w.is n sec) (hn : n ≤ 1000) (hs : sec ≤ 1000) : ACalls Try.prog 36 [.ptr 1 0, i64 e, i64 k] (refH w n sec) (RetH (.tup [str (w.read e k).1, i64 (w.read e k).2]) (refH w n sec)) := by
  unfold refH
  have hr := w.err_cases e k
  rw [hi.n, hi.s] at hr
  rcases hr with ⟨h1, h2, h3⟩ | ⟨h1, h2⟩ | ⟨h1, h2, h3⟩
  · rw [read_0 h1, h2]
    exact refRead_ok hn hs rfl h3 (secs_at w h3)
  · rw [show w.read e k = (ByteArray.empty, 6) by unfold Wd.read; rw [h1]; rfl, h2]
    exact refRead_off
  · rw [show w.read e k = (ByteArray.empty, 1) by unfold Wd.read; rw [h1]; rfl, h2]
    exact refRead_no hn hs h3
theorem refFlushW (hi : w.is n sec) (hn : n ≤ 1000) (hs : sec ≤ 1000) : ACalls Try.prog 32 [.ptr 1 0, i64 e] (refH w n sec) (RetH (i64 (w.flush e).1) (refH (w.flush e).2 n sec)) := by
  unfold refH
  rw [flush_off]
  have hr := w.err_cases e 0
  rw [hi.n, hi.s] at hr
  rcases hr with ⟨h1, h2, h3⟩ | ⟨h1, h2⟩ | ⟨h1, h2, h3⟩
  · rw [flush_0 h1, ← secs_flush hi h1, h2]
    exact refFlush_ok hn hs rfl (secs_len ..) h3
  · have e1 : w.flush e = (6, w) := by unfold Wd.flush; rw [h1]; rfl
    rw [e1, h2]
    exact refFlush_off
  · have e1 : w.flush e = (1, w) := by unfold Wd.flush; rw [h1]; rfl
    rw [e1, h2]
    exact refFlush_no hn hs h3
theorem refCrashW (hi : w.is n sec) (hn : n ≤ 1000) (hs : sec ≤ 1000) (ps : List (Int × Int)) (hps : ps.length ≤ 100000) : ACalls Try.prog 33 [.ptr 1 0, pkV ps] (refH w n sec) (RetH (i64 (w.crash ps).1) (refH (w.crash ps).2 n sec)) := by
  unfold refH
  rw [crash_off]
  cases h2 : w.off
  · rw [crash_0 ps h2, ← secs_crash hi h2 ps]
    exact refCrash_ok hn hs rfl (secs_len ..) ps hps
  · have e1 : w.crash ps = (6, w) := by unfold Wd.crash; rw [if_pos h2]
    rw [e1]
    exact refCrash_off ps
theorem refStartW (hi : w.is n sec) : ACalls Try.prog 34 [.ptr 1 0] (refH w n sec) (RetH (i64 w.start.1) (refH w.start.2 n sec)) := refStart_ok
theorem refWetW (hi : w.is n sec) (hn : n ≤ 1000) (hs : sec ≤ 1000) : ACalls Try.prog 21 [.ptr 1 0, i64 e] (refH w n sec) (RetH (iV (if 0 ≤ e ∧ e < n then w.wet e else [])) (refH w n sec)) := by
  have h := refWet_ok (off := w.off) (e := e) hn hs (rfl : n * sec = n * sec) (secs_len w n sec)
  by_cases he : 0 ≤ e ∧ e < n
  · rw [if_pos he, ← secs_wet hi he]
    exact h
  · rw [if_neg he]
    rw [secs_dry he] at h
    exact h
theorem refNewW (h1 : 1 ≤ n) (h8 : n ≤ 32) (h2 : 1 ≤ sec) (h3 : sec ≤ 128) : ACalls Try.prog 16 [i64 (n : Nat), i64 (sec : Nat)] [] (RetH (.tup [.ptr 1 0, i64 0]) (refH (newW n sec) n sec)) := by
  unfold refH
  rw [← secs_new]
  exact refNew_ok h1 h8 h2 h3 rfl
end
/-! ### Both worlds -/
/-- The reference's objects from the place q on. -/
def rE (q : Nat) (off : Bool) (n sec N : Nat) (S : List Sx) : Heap := [.row (flat sxC S), .row [bo off, i64 (n : Nat), i64 (sec : Nat), .slc q 0 N 3]]
def rEw (q : Nat) (w : Wd) (n sec : Nat) : Heap := rE q w.off n sec (n * sec) (secsOf w n sec)
theorem Wd.belowN (w : Wd) (N : Nat) (hN : 3 + w.D.length + w.M.length ≤ N) : belowH N w.H = true := by
  unfold Wd.H
  have h1 := belowH_map N (fun d : List ByteArray => AObj.row (d.map str)) (fun d => by rw [belowO]; exact belowL_str _ d) w.D
  have h2 := belowH_map N (fun m : Mp => AObj.mp m.E) (fun m => belowO_mp _ m) w.M
  rw [belowH, belowH, belowH, belowH_app _ _ _ h1 h2]
  rw [belowO, belowO, belowO, belowL_slcs _ _ _ _ (by omega), belowL_mprs _ _ _ (by omega)]
  unfold Wd.row
  simp only [belowL, A.below, Bool.and_true, Bool.and_eq_true]
  exact ⟨rfl, rfl, blt_of (by omega), blt_of (by omega)⟩
theorem Wd.H_len (w : Wd) : w.H.length = 3 + w.D.length + w.M.length := by
  unfold Wd.H
  simp only [List.length_cons, List.length_append, List.length_map]
  omega
theorem both_below (w : Wd) (q : Nat) (off : Bool) (n sec N : Nat) (S : List Sx) (hq : q ≤ w.H.length) : belowH (w.H ++ rE q off n sec N S).length (w.H ++ rE q off n sec N S) = true := by
  have hl : (w.H ++ rE q off n sec N S).length = w.H.length + 2 := by rw [List.length_append]; rfl
  rw [hl]
  refine belowH_app _ _ _ (w.belowN _ (by rw [w.H_len]; omega)) ?_
  unfold rE
  rw [belowH, belowO, belowL_flat (fun _ => rfl)]
  show (true && (belowL _ [_, _, _, _] && true)) = true
  simp only [belowL, A.below, Bool.and_true, Bool.true_and, Bool.and_eq_true]
  exact ⟨rfl, rfl, rfl, blt_of (by omega)⟩
end Go.Proofs.Ytpkbdlocmjgmbaa.A
