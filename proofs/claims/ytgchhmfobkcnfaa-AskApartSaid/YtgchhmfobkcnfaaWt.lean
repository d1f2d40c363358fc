/- law03: WirePrints. No condition. -/
import Derived.Test.YtgchhmfobkcnfaaWr
import Derived.Test.YtgchhmfobkcnfaaWq
import Derived.Test.YtgchhmfobkcnfaaOv
namespace Go.Proofs.Ytgchhmfobkcnfaa.A
open Go
set_option linter.unusedVariables false
set_option linter.unusedSimpArgs false
set_option maxRecDepth 100000
set_option pp.maxSteps 300

theorem parL_len : ∀ {b : List Nat} {star : Bool} {L : List (Nat × Bool)}, parL star b = some L → L.length ≤ b.length
  | [], true, L, h => by cases h
  | [], false, L, h => by cases h; exact Nat.le_refl _
  | c :: r, star, L, h => by
    have h' : (if c = 42 ∧ star = false then parL true r else if isL c = true then (parL false r).map ((c, star) :: ·) else none) = some L := by cases star <;> exact h
    split at h'
    · have := parL_len h'
      simp only [List.length_cons]
      omega
    · split at h'
      · cases hr : parL false r with
        | none => rw [hr] at h'; cases h'
        | some M =>
          rw [hr] at h'
          cases h'
          have := parL_len hr
          simp only [List.length_cons]
          omega
      · cases h'
theorem shP_len {b : List Nat} {L : List (Nat × Bool)} (h : shP b = some L) : L.length ≤ 40 := by
  unfold shP at h
  split at h
  · rename_i h40
    exact Nat.le_trans (parL_len h) h40
  · cases h
end Go.Proofs.Ytgchhmfobkcnfaa.A
