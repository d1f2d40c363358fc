/- extent: an act on a world of four. No condition. -/
import Derived.Test.YtpkbdlocmjgmbaaXu
namespace Go.Proofs.Ytpkbdlocmjgmbaa.A
open Go
set_option linter.unusedVariables false
set_option linter.unusedSimpArgs false
set_option maxRecDepth 100000
set_option pp.maxSteps 600
/-- A world behind an act. -/
def Wd.play (w : Wd) (x : Xa) : Wd :=
  if x.k = 1 then (w.write x.e x.a x.s).2 else if x.k = 2 then (w.flush x.e).2 else if x.k = 3 then (if x.ps.length ≤ 100 then (w.crash x.ps).2 else w) else if x.k = 4 then w.start.2 else if x.k = 5 then (w.lay x.e x.a x.s).2 else w
theorem play_is {w : Wd} {n sec : Nat} (h : w.is n sec) (x : Xa) : (w.play x).is n sec := by
  unfold Wd.play
  split
  · exact write_is h ..
  split
  · exact flush_is h ..
  split
  · split
    · exact crash_is h ..
    · exact h
  split
  · exact start_is h
  split
  · exact lay_is h ..
  · exact h
end Go.Proofs.Ytpkbdlocmjgmbaa.A
