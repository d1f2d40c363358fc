/- sector: the law SectorReads. No condition. -/
import Derived.Test.YtipinhlfajmghaaDoorYk
namespace Go.Proofs.YtipinhlfajmghaaDoor.A
open Go
set_option linter.unusedVariables false
set_option maxRecDepth 100000
set_option pp.maxSteps 1500

theorem reads_big (s : ByteArray) (h : 300 < s.size) : ACalls Tryd.prog 4 [str s] [] (Ret (bo true)) := by
  refine acalls_of_awp hT mixed Tryd.func4 rfl (by kernel_rfl) (by kernel_rfl) (Nat.le_of_ble_eq_true rfl) ?_
  refine callP awakeY_ok rfl rfl ?_
  refine forkD (fun g => ?_) (fun g => absurd (show (300 : Int) < (s.size : Int) by omega) g)
  refine end0 rfl rfl rfl rfl
theorem reads_no (s z : ByteArray) (h : s.size ≤ 300) (ca : ACalls Tryd.prog 10 [str s] [] (Ret (.tup [stA stpZ, str z, i64 4]))) (cb : ACalls Tryd.prog 12 [str s] [] (Ret (.tup [stA stpZ, str z, bo false]))) : ACalls Tryd.prog 4 [str s] [] (Ret (bo true)) := by
  refine acalls_of_awp hT mixed Tryd.func4 rfl (by kernel_rfl) (by kernel_rfl) (Nat.le_of_ble_eq_true rfl) ?_
  refine callP awakeY_ok rfl rfl ?_
  refine forkD (fun g => absurd (show (300 : Int) < (s.size : Int) from g) (by omega)) (fun g => ?_)
  refine callP ca rfl rfl ?_
  refine callP cb rfl rfl ?_
  refine fork (fun q => ?_) (fun q => ?_)
  · exfalso
    have : (!(strEq z z)) = true := q
    rw [strEq_iff.2 rfl] at this
    cases this
  · refine endG rfl rfl rfl (G := []) True.intro (Nat.zero_le _) rfl ⟨rfl, rfl⟩
theorem reads_yes (s d : ByteArray) (g ix l p n : Nat) (h : s.size ≤ 300) (ca : ACalls Tryd.prog 10 [str s] [] (Ret (.tup [stA ⟨g, ix, l, p, n⟩, str d, i64 0]))) (cb : ACalls Tryd.prog 12 [str s] [] (Ret (.tup [stA ⟨g, ix, l, p, n⟩, str d, bo true])))
    (cp : ACalls Tryd.prog 7 [stA ⟨g, ix, l, p, n⟩, str d] [] (Ret (.tup [str s, i64 0]))) : ACalls Tryd.prog 4 [str s] [] (Ret (bo true)) := by
  refine acalls_of_awp hT mixed Tryd.func4 rfl (by kernel_rfl) (by kernel_rfl) (Nat.le_of_ble_eq_true rfl) ?_
  refine callP awakeY_ok rfl rfl ?_
  refine forkD (fun g => absurd (show (300 : Int) < (s.size : Int) from g) (by omega)) (fun g => ?_)
  refine callP ca rfl rfl ?_
  refine callP cb rfl rfl ?_
  refine fork (fun q => ?_) (fun q => ?_)
  · exfalso
    simp at q
  refine fork (fun q2 => ?_) (fun q2 => ?_)
  · exfalso
    have : (!(strEq d d)) = true := q2
    rw [strEq_iff.2 rfl] at this
    cases this
  refine callP cp rfl rfl ?_
  refine fork (fun q3 => ?_) (fun q3 => ?_)
  · refine endG rfl rfl rfl (G := []) True.intro (Nat.zero_le _) rfl ⟨rfl, rfl⟩
  · exfalso
    have : strEq s s = false := q3
    rw [strEq_iff.2 rfl] at this
    cases this
theorem sectorReads_law (l0 : List AV) (w0 : Wf .str l0) : ACalls Tryd.prog 4 [argA .str l0] [] (Ret (.sc (.bool true))) := by
  obtain ⟨s, rfl, _⟩ := w0
  by_cases h : s.size ≤ 300
  · obtain ⟨r1, r2⟩ := rUnpackU s
    rcases unpackU s with ⟨m, o, ca⟩ | ⟨hno, ca⟩
    · have hsz : (s.extract 14 (14 + m)).size ≤ 50 := by
        have := o.hn
        rw [ByteArray.size_extract, o.h64]
        omega
      have cp := pack_ok (gU s 1 5) (gU s 5 7) (gU s 7 11) (gU s 11 12) (gU s 12 13) (s.extract 14 (14 + m)) o.hR hsz
      rw [pack_back o] at cp
      exact reads_yes s _ _ _ _ _ _ h ca (r1 m o) cp
    · exact reads_no s emp h ca (r2 hno)
  · exact reads_big s (by omega)
end Go.Proofs.YtipinhlfajmghaaDoor.A
