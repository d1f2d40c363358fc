/- extent: the keys of a map, sorted: by the kit's proofs. No condition. -/
import Derived.Shelf.SlIterI.Nil
import Derived.Shelf.SortM.Plain
import Derived.Shelf.SortM.SortNone
import Derived.Ground.GgzProg
import Derived.Ground.SlgmProg
import Derived.Test.YtpkbdlocmjgmbaaXa
namespace Go.Proofs
open Go.RowKit Go.Maps Go.Sort Go.Shelf
set_option linter.unusedVariables false

shelf_lay_g SlLaysZI.n7 Ggz 7 at Try 30 as Try.keysA
shelf_lay_g SlLaysZI.n6 Ggz 6 at Try 29 as Try.sortedA
shelf_lay_g SlLaysM.n5 Slgm 5 at Try 39 as Try.sortA

end Go.Proofs
