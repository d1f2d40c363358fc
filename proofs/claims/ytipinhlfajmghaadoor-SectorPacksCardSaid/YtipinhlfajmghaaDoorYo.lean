/- sector: the law SectorPacks. No condition. -/
import Derived.Test.YtipinhlfajmghaaDoorYn
namespace Go.Proofs.YtipinhlfajmghaaDoor.A
open Go
set_option linter.unusedVariables false
set_option maxRecDepth 100000
set_option pp.maxSteps 1500

theorem packs_big (x : Stp) (d : ByteArray) (h : 300 < d.size) : ACalls Tryd.prog 3 [stA x, str d] [] (Ret (bo true)) := by
  obtain ⟨x1, x2, x3, x4, x5⟩ := x
  refine acalls_of_awp hT mixed Tryd.func3 rfl (by kernel_rfl) (by kernel_rfl) (Nat.le_of_ble_eq_true rfl) ?_
  refine callP awakeY_ok rfl rfl ?_
  refine forkD (fun g => ?_) (fun g => absurd (show (300 : Int) < (d.size : Int) by omega) g)
  refine end0 rfl rfl rfl rfl
theorem packs_bad (x : Stp) (d z : ByteArray) (h : d.size ≤ 300) (hz : strEq z ⟨#[]⟩ = true) (cp : ACalls Tryd.prog 7 [stA x, str d] [] (Ret (.tup [str z, i64 1]))) (ca : ACalls Tryd.prog 8 [stA x] [] (Ret (bo false))) (cb : ACalls Tryd.prog 9 [stA x] [] (Ret (bo false))) : ACalls Tryd.prog 3 [stA x, str d] [] (Ret (bo true)) := by
  obtain ⟨x1, x2, x3, x4, x5⟩ := x
  refine acalls_of_awp hT mixed Tryd.func3 rfl (by kernel_rfl) (by kernel_rfl) (Nat.le_of_ble_eq_true rfl) ?_
  refine callP awakeY_ok rfl rfl ?_
  refine forkD (fun g => absurd (show (300 : Int) < (d.size : Int) from g) (by omega)) (fun g => ?_)
  refine callP cp rfl rfl ?_
  refine ⟨[0, 1, 0, 2, 2], [[], [0], [], [0, 1, 2], [0, 1, 2, 3]], [0, 0, 0, 0, 0], [1, 3], [[2], [21], [2], [23], [22, 24]], Ob.intro (by kernel_rfl) ?_⟩
  repeat refine same ?_
  refine callP ca rfl rfl ?_
  repeat refine same ?_
  refine callP cb rfl rfl ?_
  repeat refine same ?_
  refine callP cb rfl rfl ?_
  refine fork (fun q => ?_) (fun q => absurd (show strEq z ⟨#[]⟩ = false from q) (by rw [hz]; decide))
  refine end0 rfl rfl rfl rfl
theorem packs_long (x : Stp) (d z : ByteArray) (h : d.size ≤ 300) (h50 : 50 < d.size) (hz : strEq z ⟨#[]⟩ = true) (cp : ACalls Tryd.prog 7 [stA x, str d] [] (Ret (.tup [str z, i64 5]))) (ca : ACalls Tryd.prog 8 [stA x] [] (Ret (bo true))) (cb : ACalls Tryd.prog 9 [stA x] [] (Ret (bo true))) : ACalls Tryd.prog 3 [stA x, str d] [] (Ret (bo true)) := by
  obtain ⟨x1, x2, x3, x4, x5⟩ := x
  refine acalls_of_awp hT mixed Tryd.func3 rfl (by kernel_rfl) (by kernel_rfl) (Nat.le_of_ble_eq_true rfl) ?_
  refine callP awakeY_ok rfl rfl ?_
  refine forkD (fun g => absurd (show (300 : Int) < (d.size : Int) from g) (by omega)) (fun g => ?_)
  refine callP cp rfl rfl ?_
  refine ⟨[0, 1, 0, 2, 2], [[], [0], [], [0, 1, 2], [0, 1, 2, 3]], [0, 0, 0, 0, 0], [1, 3], [[2], [21], [2], [23], [22, 24]], Ob.intro (by kernel_rfl) ?_⟩
  repeat refine same ?_
  refine callP ca rfl rfl ?_
  repeat refine same ?_
  refine callP cb rfl rfl ?_
  repeat refine same ?_
  refine callP cb rfl rfl ?_
  refine forkD (fun q => ?_) (fun q => absurd (show (50 : Int) < (d.size : Int) by omega) q)
  refine fork (fun q => ?_) (fun q => absurd (show strEq z ⟨#[]⟩ = false from q) (by rw [hz]; decide))
  refine end0 rfl rfl rfl rfl
theorem packs_ok (x : Stp) (d s : ByteArray) (h : d.size ≤ 300) (h50 : d.size ≤ 50) (cp : ACalls Tryd.prog 7 [stA x, str d] [] (Ret (.tup [str s, i64 0]))) (ca : ACalls Tryd.prog 8 [stA x] [] (Ret (bo true))) (cb : ACalls Tryd.prog 9 [stA x] [] (Ret (bo true)))
    (cu : ACalls Tryd.prog 10 [str s] [] (Ret (.tup [stA x, str d, i64 0]))) (cr : ACalls Tryd.prog 11 [stA x, str d] [] (Ret (str s))) : ACalls Tryd.prog 3 [stA x, str d] [] (Ret (bo true)) := by
  obtain ⟨x1, x2, x3, x4, x5⟩ := x
  refine acalls_of_awp hT mixed Tryd.func3 rfl (by kernel_rfl) (by kernel_rfl) (Nat.le_of_ble_eq_true rfl) ?_
  refine callP awakeY_ok rfl rfl ?_
  refine forkD (fun g => absurd (show (300 : Int) < (d.size : Int) from g) (by omega)) (fun g => ?_)
  refine callP cp rfl rfl ?_
  refine ⟨[0, 1, 0, 2, 2], [[], [0], [], [0, 1, 2], [0, 1, 2, 3]], [0, 0, 0, 0, 0], [1, 3], [[2], [21], [2], [23], [22, 24]], Ob.intro (by kernel_rfl) ?_⟩
  repeat refine same ?_
  refine callP ca rfl rfl ?_
  repeat refine same ?_
  refine callP cb rfl rfl ?_
  repeat refine same ?_
  refine callP cb rfl rfl ?_
  refine forkD (fun q => absurd (show (50 : Int) < (d.size : Int) from q) (by omega)) (fun q => ?_)
  refine callP cu rfl rfl ?_
  refine callP cr rfl rfl ?_
  refine fork (fun q => ?_) (fun q => absurd (show strEq s s = false from q) (by rw [strEq_iff.2 rfl]; decide))
  refine fork (fun q2 => ?_) (fun q2 => ?_)
  · refine fork (fun q3 => ?_) (fun q3 => absurd (show strEq d d = false from q3) (by rw [strEq_iff.2 rfl]; decide))
    refine end0 rfl rfl rfl rfl
  · exfalso
    simp at q2
theorem wf_stp {l : List AV} (h : Wf (.strct (.cons (.int .i64) (.cons (.int .i64) (.cons (.int .i64) (.cons (.int .i64) (.cons (.int .i64) .none)))))) l) : ∃ x : Stp, l = stC x := by
  obtain ⟨a, r, rfl, ⟨n1, rfl, _⟩, b, r, rfl, ⟨n2, rfl, _⟩, c, r, rfl, ⟨n3, rfl, _⟩, e, r, rfl, ⟨n4, rfl, _⟩, f, r, rfl, ⟨n5, rfl, _⟩, rfl⟩ := h
  exact ⟨⟨n1, n2, n3, n4, n5⟩, rfl⟩
theorem sectorPacks_law (l0 : List AV) (w0 : Wf (.strct (.cons (.int .i64) (.cons (.int .i64) (.cons (.int .i64) (.cons (.int .i64) (.cons (.int .i64) .none)))))) l0) (l1 : List AV) (w1 : Wf .str l1) : ACalls Tryd.prog 3 [argA (.strct (.cons (.int .i64) (.cons (.int .i64) (.cons (.int .i64) (.cons (.int .i64) (.cons (.int .i64) .none)))))) l0, argA .str l1] [] (Ret (.sc (.bool true))) := by
  obtain ⟨x, rfl⟩ := wf_stp w0
  obtain ⟨d, rfl, _⟩ := w1
  show ACalls Tryd.prog 3 [stA x, str d] [] (Ret (bo true))
  by_cases h : d.size ≤ 300
  · have hz : strEq emp ⟨#[]⟩ = true := strEq_iff.2 rfl
    have ca := sRight_ok x
    have cb := rsRight_ok x
    by_cases hx : okS x
    · rw [decide_eq_true hx] at ca cb
      by_cases h50 : d.size ≤ 50
      · obtain ⟨x1, x2, x3, x4, x5⟩ := x
        have hx' := hx
        obtain ⟨⟨a1, a2⟩, ⟨a3, a4⟩, ⟨a5, a6⟩, ⟨a7, a8⟩, a9, a10⟩ := hx'
        dsimp only at a1 a2 a3 a4 a5 a6 a7 a8 a9 a10
        obtain ⟨g, rfl⟩ := Int.eq_ofNat_of_zero_le (show 0 ≤ x1 by omega)
        obtain ⟨ix, rfl⟩ := Int.eq_ofNat_of_zero_le a5
        obtain ⟨l, rfl⟩ := Int.eq_ofNat_of_zero_le (show 0 ≤ x3 by omega)
        obtain ⟨p, rfl⟩ := Int.eq_ofNat_of_zero_le a9
        obtain ⟨n, rfl⟩ := Int.eq_ofNat_of_zero_le (show 0 ≤ x5 by omega)
        obtain ⟨o, f1, f2, f3, f4, f5, f6⟩ := pack_fields g ix l p n d hx h50
        rcases unpackU (packS g ix l p n d) with ⟨m, om, cu⟩ | ⟨hno, _⟩
        · have hm : m = d.size := om.hm.trans o.hm.symm
          subst hm
          rw [f1, f2, f3, f4, f5, f6] at cu
          exact packs_ok _ d _ h h50 (pack_ok g ix l p n d hx h50) ca cb cu (rPack_ok g ix l p n d hx h50)
        · exact absurd ⟨_, o⟩ hno
      · have cp := pack_long x d hx (by omega)
        generalize emp = z at *
        exact packs_long x d z h (by omega) hz cp ca cb
    · rw [decide_eq_false hx] at ca cb
      have cp := pack_bad x d hx
      generalize emp = z at *
      exact packs_bad x d z h hz cp ca cb
  · exact packs_big x d (by omega)
end Go.Proofs.YtipinhlfajmghaaDoor.A
