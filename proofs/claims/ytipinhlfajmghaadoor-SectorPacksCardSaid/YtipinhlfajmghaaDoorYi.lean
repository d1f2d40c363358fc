/- sector: the law SectorOne, its walk. No condition. -/
import Derived.Test.YtipinhlfajmghaaDoorYh
namespace Go.Proofs.YtipinhlfajmghaaDoor.A
open Go
set_option linter.unusedVariables false
set_option maxRecDepth 100000
set_option pp.maxSteps 1500

theorem one_big (a b : ByteArray) (h : 300 < a.size ∨ 300 < b.size) : ACalls Tryd.prog 5 [str a, str b] [] (Ret (bo true)) := by
  refine acalls_of_awp hT mixed Tryd.func5 rfl (by kernel_rfl) (by kernel_rfl) (Nat.le_of_ble_eq_true rfl) ?_
  refine callP awakeY_ok rfl rfl ?_
  refine forkD (fun g => ?_) (fun g => ?_)
  · refine end0 rfl rfl rfl rfl
  have g' : ¬ (300 : Int) < (a.size : Int) := g
  refine forkD (fun g2 => ?_) (fun g2 => ?_)
  · refine end0 rfl rfl rfl rfl
  have g2' : ¬ (300 : Int) < (b.size : Int) := g2
  omega
theorem one_no (a b z d : ByteArray) (y : Stp) (e : Int) (ha : a.size ≤ 300) (hb : b.size ≤ 300) (hz : strEq z ⟨#[]⟩ = true) (ca : ACalls Tryd.prog 10 [str a] [] (Ret (.tup [stA stpZ, str z, i64 4]))) (cb : ACalls Tryd.prog 10 [str b] [] (Ret (.tup [stA y, str d, i64 e]))) : ACalls Tryd.prog 5 [str a, str b] [] (Ret (bo true)) := by
  obtain ⟨y1, y2, y3, y4, y5⟩ := y
  refine acalls_of_awp hT mixed Tryd.func5 rfl (by kernel_rfl) (by kernel_rfl) (Nat.le_of_ble_eq_true rfl) ?_
  refine callP awakeY_ok rfl rfl ?_
  refine forkD (fun g => absurd (show (300 : Int) < (a.size : Int) from g) (by omega)) (fun g => ?_)
  refine forkD (fun g => absurd (show (300 : Int) < (b.size : Int) from g) (by omega)) (fun g => ?_)
  refine callP ca rfl rfl ?_
  refine callP cb rfl rfl ?_
  refine fork (fun q => ?_) (fun q => absurd (show strEq z ⟨#[]⟩ = false from q) (by rw [hz]; decide))
  refine endG rfl rfl rfl (G := []) True.intro (Nat.zero_le _) rfl ⟨rfl, rfl⟩
theorem one_half (a b z d : ByteArray) (x : Stp) (ha : a.size ≤ 300) (hb : b.size ≤ 300) (ca : ACalls Tryd.prog 10 [str a] [] (Ret (.tup [stA x, str d, i64 0]))) (cb : ACalls Tryd.prog 10 [str b] [] (Ret (.tup [stA stpZ, str z, i64 4]))) : ACalls Tryd.prog 5 [str a, str b] [] (Ret (bo true)) := by
  obtain ⟨y1, y2, y3, y4, y5⟩ := x
  refine acalls_of_awp hT mixed Tryd.func5 rfl (by kernel_rfl) (by kernel_rfl) (Nat.le_of_ble_eq_true rfl) ?_
  refine callP awakeY_ok rfl rfl ?_
  refine forkD (fun g => absurd (show (300 : Int) < (a.size : Int) from g) (by omega)) (fun g => ?_)
  refine forkD (fun g => absurd (show (300 : Int) < (b.size : Int) from g) (by omega)) (fun g => ?_)
  refine callP ca rfl rfl ?_
  refine callP cb rfl rfl ?_
  refine endG rfl rfl rfl (G := []) True.intro (Nat.zero_le _) rfl ⟨rfl, rfl⟩
theorem one_both (a b d c : ByteArray) (x y : Stp) (ha : a.size ≤ 300) (hb : b.size ≤ 300) (ca : ACalls Tryd.prog 10 [str a] [] (Ret (.tup [stA x, str d, i64 0]))) (cb : ACalls Tryd.prog 10 [str b] [] (Ret (.tup [stA y, str c, i64 0]))) (hk : a = b ↔ x = y ∧ d = c) : ACalls Tryd.prog 5 [str a, str b] [] (Ret (bo true)) := by
  obtain ⟨x1, x2, x3, x4, x5⟩ := x
  obtain ⟨y1, y2, y3, y4, y5⟩ := y
  refine acalls_of_awp hT mixed Tryd.func5 rfl (by kernel_rfl) (by kernel_rfl) (Nat.le_of_ble_eq_true rfl) ?_
  refine callP awakeY_ok rfl rfl ?_
  refine forkD (fun g => absurd (show (300 : Int) < (a.size : Int) from g) (by omega)) (fun g => ?_)
  refine forkD (fun g => absurd (show (300 : Int) < (b.size : Int) from g) (by omega)) (fun g => ?_)
  refine callP ca rfl rfl ?_
  refine callP cb rfl rfl ?_
  refine fork (fun q => ?_) (fun q => ?_)
  · obtain ⟨hxy, hdc⟩ := hk.1 (strEq_iff.1 q)
    refine fork (fun q2 => ?_) (fun q2 => ?_)
    · refine fork (fun q3 => ?_) (fun q3 => ?_)
      · refine endG rfl rfl rfl (G := []) True.intro (Nat.zero_le _) rfl ⟨rfl, rfl⟩
      · exfalso
        have : strEq d c = false := q3
        rw [strEq_iff.2 hdc] at this
        cases this
    · exfalso
      injection hxy with e1 e2 e3 e4 e5
      subst e1 e2 e3 e4 e5
      simp at q2
  · refine fork (fun q2 => ?_) (fun q2 => ?_)
    · refine fork (fun q3 => ?_) (fun q3 => ?_)
      · exfalso
        have hdc : d = c := strEq_iff.1 q3
        simp only [Bool.and_eq_true, beq_iff_eq] at q2
        obtain ⟨e1, e2, e3, e4, e5, _⟩ := q2
        subst e1 e2 e3 e4 e5
        have hab := hk.2 ⟨rfl, hdc⟩
        have : strEq a b = false := q
        rw [strEq_iff.2 hab] at this
        cases this
      · refine endG rfl rfl rfl (G := []) True.intro (Nat.zero_le _) rfl ⟨rfl, rfl⟩
    · refine endG rfl rfl rfl (G := []) True.intro (Nat.zero_le _) rfl ⟨rfl, rfl⟩
theorem sectorOne_law (l0 : List AV) (w0 : Wf .str l0) (l1 : List AV) (w1 : Wf .str l1) : ACalls Tryd.prog 5 [argA .str l0, argA .str l1] [] (Ret (.sc (.bool true))) := by
  obtain ⟨a, rfl, _⟩ := w0
  obtain ⟨b, rfl, _⟩ := w1
  by_cases ha : a.size ≤ 300
  · by_cases hb : b.size ≤ 300
    · have hz : strEq emp ⟨#[]⟩ = true := strEq_iff.2 rfl
      rcases unpackU a with ⟨m, oa, ca⟩ | ⟨_, ca⟩
      · rcases unpackU b with ⟨k, ob, cb⟩ | ⟨_, cb⟩
        · refine one_both a b _ _ _ _ ha hb ca cb ⟨fun h => ?_, fun h => ?_⟩
          · subst h
            have : m = k := oa.hm.trans ob.hm.symm
            subst this
            exact ⟨rfl, rfl⟩
          · obtain ⟨hxy, hd⟩ := h
            injection hxy with e1 e2 e3 e4 e5
            exact one_sector oa ob (by omega) (by omega) (by omega) (by omega) (by omega) hd
        · generalize emp = z at *
          exact one_half a b z _ _ ha hb ca cb
      · generalize emp = z at *
        rcases unpackU b with ⟨k, ob, cb⟩ | ⟨_, cb⟩
        · exact one_no a b z _ _ _ ha hb hz ca cb
        · exact one_no a b z _ _ _ ha hb hz ca cb
    · exact one_big a b (.inr (by omega))
  · exact one_big a b (.inl (by omega))
end Go.Proofs.YtipinhlfajmghaaDoor.A
