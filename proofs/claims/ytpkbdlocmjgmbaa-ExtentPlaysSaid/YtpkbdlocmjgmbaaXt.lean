/- extent: awake. No condition. -/
import Derived.Test.YtpkbdlocmjgmbaaXs
namespace Go.Proofs.Ytpkbdlocmjgmbaa.A
open Go
set_option linter.unusedVariables false
set_option linter.unusedSimpArgs false
set_option maxRecDepth 100000
set_option pp.maxSteps 600
section
variable {w : Wd} {n sec : Nat} {e k : Int} {s : ByteArray}
theorem write_0 (h0 : w.err e k = 0) (hs : s.size ≤ 64) : (w.write e k s).1 = 0 := by unfold Wd.write; rw [if_pos h0, if_pos hs]
theorem flush_0 (h0 : w.err e 0 = 0) : (w.flush e).1 = 0 := by unfold Wd.flush; rw [if_pos h0]
theorem lay_0 (h0 : w.may e k = 0) (hs : s.size ≤ 64) : (w.lay e k s).1 = 0 := by unfold Wd.lay; rw [if_pos h0, if_pos hs]
theorem read_0 (h0 : w.err e k = 0) : w.read e k = ((w.m e k).getD (w.d e k), 0) := by unfold Wd.read; rw [if_pos h0]
theorem dry_0 (h0 : w.may e k = 0) : w.dry e k = (w.d e k, 0) := by unfold Wd.dry; rw [if_pos h0]
theorem crash_0 (ps : List (Int × Int)) (h0 : w.off = false) : (w.crash ps).1 = 0 := by unfold Wd.crash; rw [if_neg (by rw [h0]; decide)]
theorem write_off : (w.write e k s).2.off = w.off := by
  unfold Wd.write
  split
  · split <;> rfl
  · rfl
theorem lay_off : (w.lay e k s).2.off = w.off := by
  unfold Wd.lay
  split
  · split <;> rfl
  · rfl
theorem flush_off : (w.flush e).2.off = w.off := by
  unfold Wd.flush
  split
  · split <;> rfl
  · rfl
theorem crash_off (ps : List (Int × Int)) : (w.crash ps).2.off = true := by
  unfold Wd.crash
  split
  · rename_i h; exact h
  · rfl
end
theorem nilArg2 {P : Program} {g : FuncId} {a : AV} {r : List AV} {H : Heap} {R : AEnd → Heap → Prop} (h : ACalls P g (a :: .view 0 [] :: r) H R) : ACalls P g (a :: nilS :: r) H R := h.weaken fun X vs hv => by
  match vs, hv with
  | u :: w :: q, hv =>
    simp only [VL] at hv ⊢
    exact ⟨hv.1, VR_nilView hv.2.1, hv.2.2⟩
  | [u], hv => simp [VL] at hv
  | [], hv => simp [VL] at hv
theorem awakeX_ok : ACalls Try.prog 7 [] [] (Ret (bo true)) := by
  obtain ⟨sx, hsx⟩ : ∃ s : ByteArray, s = ⟨#[120]⟩ := ⟨_, rfl⟩
  obtain ⟨sy, hsy⟩ : ∃ s : ByteArray, s = ⟨#[121]⟩ := ⟨_, rfl⟩
  have hx1 : sx.size ≤ 64 := by rw [hsx]; decide
  have hy1 : sy.size ≤ 64 := by rw [hsy]; decide
  obtain ⟨w0, hw0⟩ : ∃ w, w = newW 1 2 := ⟨_, rfl⟩
  have i0 : w0.is 1 2 := hw0 ▸ new_is (by omega) (by omega)
  have o0 : w0.off = false := by rw [hw0]; rfl
  have hin : inW 1 2 0 0 := ⟨⟨by omega, by omega⟩, by omega, by omega⟩
  have c0 := newE_ok 1 2 (by omega) (by omega) (by omega) (by omega)
  rw [← hw0] at c0
  have E0 : w0.err 0 0 = 0 := i0.err0.2 ⟨o0, hin⟩
  obtain ⟨w1, hw1⟩ : ∃ w, w = (w0.write 0 0 sx).2 := ⟨_, rfl⟩
  have i1 : w1.is 1 2 := hw1 ▸ write_is i0 0 0 sx
  have o1 : w1.off = false := by rw [hw1, write_off, o0]
  have E1 : w1.err 0 0 = 0 := i1.err0.2 ⟨o1, hin⟩
  have c1 := writeW w0 i0.ok 0 0 sx
  rw [write_0 E0 hx1, ← hw1] at c1
  obtain ⟨w2, hw2⟩ : ∃ w, w = (w1.flush 0).2 := ⟨_, rfl⟩
  have i2 : w2.is 1 2 := hw2 ▸ flush_is i1 0
  have o2 : w2.off = false := by rw [hw2, flush_off, o1]
  have E2 : w2.err 0 0 = 0 := i2.err0.2 ⟨o2, hin⟩
  have c2 := flushW w1 i1.ok 0
  rw [flush_0 E1, ← hw2] at c2
  obtain ⟨w3, hw3⟩ : ∃ w, w = (w2.write 0 0 sy).2 := ⟨_, rfl⟩
  have i3 : w3.is 1 2 := hw3 ▸ write_is i2 0 0 sy
  have o3 : w3.off = false := by rw [hw3, write_off, o2]
  have E3 : w3.err 0 0 = 0 := i3.err0.2 ⟨o3, hin⟩
  have c3 := writeW w2 i2.ok 0 0 sy
  rw [write_0 E2 hy1, ← hw3] at c3
  obtain ⟨w4, hw4⟩ : ∃ w, w = (w3.crash []).2 := ⟨_, rfl⟩
  have i4 : w4.is 1 2 := hw4 ▸ crash_is i3 []
  have D2 : w2.d 0 0 = sx := by rw [hw2, flush_d i1 E1 hin, if_pos rfl, hw1, write_m i0 E0 hx1 hin, if_pos ⟨rfl, rfl⟩]; rfl
  have D3 : w3.d 0 0 = sx := by rw [hw3, write_d, D2]
  have M3 : w3.m 0 0 = some sy := by rw [hw3, write_m i2 E2 hy1 hin, if_pos ⟨rfl, rfl⟩]
  have D4 : w4.d 0 0 = sx := by rw [hw4, crash_d i3 o3 [] hin, if_neg (by simp), D3]
  have c4 := readW w3 i3.ok 0 0
  rw [read_0 E3, M3] at c4
  have c5 := dryW w3 i3.ok 0 0
  rw [dry_0 (i3.may0.2 hin), D3] at c5
  have c6 := crashW w3 i3.ok (by rw [i3.n]; omega) [] (by simp)
  rw [crash_0 [] o3, ← hw4] at c6
  have c7 := dryW w4 i4.ok 0 0
  rw [dry_0 (i4.may0.2 hin), D4] at c7
  replace c4 : ACalls Try.prog 12 [.ptr 0 0, i64 0, i64 0] w3.H (RetH (.tup [str sy, i64 0]) w3.H) := c4
  clear hw0 hw1 hw2 hw3 hw4 D2 D3 M3 D4 E0 E1 E2 E3
  refine acalls_of_awp hT mixed Try.func7 rfl (by kernel_rfl) (by kernel_rfl) (Nat.le_of_ble_eq_true rfl) ?_
  refine callN_1 c0 i0 rfl rfl (fun oa xa ya ea => ?_)
  refine callT_1 (E := []) c1 ea i1 (by rw [hsx]; rfl) rfl (fun ob xb yb eb => ?_)
  refine callT_1 (E := []) c2 eb i2 rfl rfl (fun oc xc yc ec => ?_)
  refine callT_1 (E := []) c3 ec i3 (by rw [hsy]; rfl) rfl (fun od xd yd ed => ?_)
  refine callT_1 (E := []) c4 ed i3 rfl rfl (fun oe xe ye ee => ?_)
  refine callT_1 (E := []) c5 ee i3 rfl rfl (fun of xf yf ef => ?_)
  refine callT_1 (E := []) (nilArg2 c6) ef i4 rfl rfl (fun og xg yg eg => ?_)
  refine callT_1 (E := []) c7 eg i4 rfl rfl (fun oh xh yh eh => ?_)
  refine fork (fun h => ?_) (fun h => absurd (strEq_false.1 h) (fun h => h hsy))
  refine fork (fun h => ?_) (fun h => absurd (strEq_false.1 h) (fun h => h hsx))
  refine fork (fun h => ?_) (fun h => absurd (strEq_false.1 h) (fun h => h hsx))
  exact end0 rfl rfl rfl rfl
end Go.Proofs.Ytpkbdlocmjgmbaa.A
