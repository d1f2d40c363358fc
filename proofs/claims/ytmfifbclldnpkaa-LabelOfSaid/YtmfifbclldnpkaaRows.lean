/-
  No cell of these rows narrows 'for every input' (looked for: loops, veiled, ifaces, maps, wideKeys, modest, calm, conditions, laid).
  DERIVED. THE GIVEN ROWS OF THIS SEAT. 5 by the template 'for every input the law returns true; each argument reads behind the call as it read before'; 0 by the template 'total and deterministic' (their statements: YtmfifbclldnpkaaTotals.lean).
  GIVEN WITH THE SEED: the statements are not yours to turn. If you find one false, say at which input.
  Laid BY PROGRAM, IN A SANDBOX (cutbox-rows.mjs): the forced cells as the released guide's own fill.sh prints them over the translation 7573b83e9ac3852b… (all of the seat's roots in one cut). By AI agents, Wed Nov 11 2026. No macro, syntax, notation, axiom, sorry.
-/
import Derived.Test.YtmfifbclldnpkaaChecked
import GoSem.Claim
import GoSem.ClaimJoined
import GoSem.ClaimMapViews
import Derived.JoinedTies
import Derived.KernelRfl
namespace Go.Proofs.Ytmfifbclldnpkaa
/- THE CELL 'sum', in the pinned program and in every row, IS THE sha256 OF THE DUMP (.gsa) THAT YtmfifbclldnpkaaProg.lean LOADS. Nothing in Lean hashes anything: it is a label: what it is worth is what the hold of that sum in a sandbox is worth. -/
noncomputable def Try.pinned : Pinned := { name := "ytmfifbclldnpkaa", sum := "7573b83e9ac3852b85a875c0b712c4d4954bec2d6b839ce9da13144005d65040", checked := Try.checked }
namespace Rows
def none {H : Type} : Left H := { results := [], args := [] }

/-- 'cloisonnelaw02.LabelOf': WHATEVER THE INPUT: true; the input reads as it did. -/
def labelOfSpec : ChangeSpec := { name := "labelOf", fn := fun _ => fun
  | [d1, d2] => { results := [.lit (.bool true)], args := [d1, d2] }
  | _ => none }
def labelOfRow : OpenClaim := { program := "ytmfifbclldnpkaa", sum := "7573b83e9ac3852b85a875c0b712c4d4954bec2d6b839ce9da13144005d65040", func := "cloisonne/cloisonnelaw02.LabelOf", spec := "labelOf", recurses := true, apart := false }
def LabelOfSaid : Prop := labelOfRow.holds Try.pinned (OpenSpec.ofChange labelOfSpec)

/-- ITS FALSE NEIGHBOUR: 'it returns false'. Refute it at one input. -/
def labelOfWrong : ChangeSpec := { name := "labelOf", fn := fun _ => fun
  | [d1, d2] => { results := [.lit (.bool false)], args := [d1, d2] }
  | _ => none }
def LabelOfWrongFalsely : Prop := labelOfRow.holds Try.pinned (OpenSpec.ofChange labelOfWrong)

/-- 'cloisonnelaw02.LabelPacks': WHATEVER THE INPUT: true; the input reads as it did. -/
def labelPacksSpec : ChangeSpec := { name := "labelPacks", fn := fun _ => fun
  | [d1, d2] => { results := [.lit (.bool true)], args := [d1, d2] }
  | _ => none }
def labelPacksRow : OpenClaim := { program := "ytmfifbclldnpkaa", sum := "7573b83e9ac3852b85a875c0b712c4d4954bec2d6b839ce9da13144005d65040", func := "cloisonne/cloisonnelaw02.LabelPacks", spec := "labelPacks", recurses := true, apart := false }
def LabelPacksSaid : Prop := labelPacksRow.holds Try.pinned (OpenSpec.ofChange labelPacksSpec)

/-- ITS FALSE NEIGHBOUR: 'it returns false'. Refute it at one input. -/
def labelPacksWrong : ChangeSpec := { name := "labelPacks", fn := fun _ => fun
  | [d1, d2] => { results := [.lit (.bool false)], args := [d1, d2] }
  | _ => none }
def LabelPacksWrongFalsely : Prop := labelPacksRow.holds Try.pinned (OpenSpec.ofChange labelPacksWrong)

/-- 'cloisonnelaw02.LabelOrders': WHATEVER THE INPUT: true; the input reads as it did. -/
def labelOrdersSpec : ChangeSpec := { name := "labelOrders", fn := fun _ => fun
  | [d1, d2, d3] => { results := [.lit (.bool true)], args := [d1, d2, d3] }
  | _ => none }
def labelOrdersRow : OpenClaim := { program := "ytmfifbclldnpkaa", sum := "7573b83e9ac3852b85a875c0b712c4d4954bec2d6b839ce9da13144005d65040", func := "cloisonne/cloisonnelaw02.LabelOrders", spec := "labelOrders", recurses := true, apart := false }
def LabelOrdersSaid : Prop := labelOrdersRow.holds Try.pinned (OpenSpec.ofChange labelOrdersSpec)

/-- ITS FALSE NEIGHBOUR: 'it returns false'. Refute it at one input. -/
def labelOrdersWrong : ChangeSpec := { name := "labelOrders", fn := fun _ => fun
  | [d1, d2, d3] => { results := [.lit (.bool false)], args := [d1, d2, d3] }
  | _ => none }
def LabelOrdersWrongFalsely : Prop := labelOrdersRow.holds Try.pinned (OpenSpec.ofChange labelOrdersWrong)

/-- 'cloisonnelaw02.LabelBounds': WHATEVER THE INPUT: true; the input reads as it did. -/
def labelBoundsSpec : ChangeSpec := { name := "labelBounds", fn := fun _ => fun
  | [d1, d2, d3] => { results := [.lit (.bool true)], args := [d1, d2, d3] }
  | _ => none }
def labelBoundsRow : OpenClaim := { program := "ytmfifbclldnpkaa", sum := "7573b83e9ac3852b85a875c0b712c4d4954bec2d6b839ce9da13144005d65040", func := "cloisonne/cloisonnelaw02.LabelBounds", spec := "labelBounds", unfollowed := true, recurses := true, apart := false }
def LabelBoundsSaid : Prop := labelBoundsRow.holds Try.pinned (OpenSpec.ofChange labelBoundsSpec)

/-- ITS FALSE NEIGHBOUR: 'it returns false'. Refute it at one input. -/
def labelBoundsWrong : ChangeSpec := { name := "labelBounds", fn := fun _ => fun
  | [d1, d2, d3] => { results := [.lit (.bool false)], args := [d1, d2, d3] }
  | _ => none }
def LabelBoundsWrongFalsely : Prop := labelBoundsRow.holds Try.pinned (OpenSpec.ofChange labelBoundsWrong)

/-- 'cloisonnelaw02.LabelJoins': WHATEVER THE INPUT: true; the input reads as it did. -/
def labelJoinsSpec : ChangeSpec := { name := "labelJoins", fn := fun _ => fun
  | [d1, d2] => { results := [.lit (.bool true)], args := [d1, d2] }
  | _ => none }
def labelJoinsRow : OpenClaim := { program := "ytmfifbclldnpkaa", sum := "7573b83e9ac3852b85a875c0b712c4d4954bec2d6b839ce9da13144005d65040", func := "cloisonne/cloisonnelaw02.LabelJoins", spec := "labelJoins", unfollowed := true, recurses := true, apart := false }
def LabelJoinsSaid : Prop := labelJoinsRow.holds Try.pinned (OpenSpec.ofChange labelJoinsSpec)

/-- ITS FALSE NEIGHBOUR: 'it returns false'. Refute it at one input. -/
def labelJoinsWrong : ChangeSpec := { name := "labelJoins", fn := fun _ => fun
  | [d1, d2] => { results := [.lit (.bool false)], args := [d1, d2] }
  | _ => none }
def LabelJoinsWrongFalsely : Prop := labelJoinsRow.holds Try.pinned (OpenSpec.ofChange labelJoinsWrong)

/- THE SECOND FORM. 'bulk': how many values and letters a reading holds, each counted each time it is reached (what is shared counts as often as it is met; a slice's spare places count too). A statement '..UptoSaid' is the law's where the arguments, and the package variables that the reading takes, are together of bulk at most 1048576: NARROWER than '..Said'. Prove '..Said' where nothing that the law and all that it calls make is longer than what came in: it says more and counts as full. Else prove '..UptoSaid'. A law counts once. -/
mutual
def uptoBulk {H : Type} : DataW H → Nat
  | .lit (.string bytes) => bytes.length + 1
  | .lit _ => 1
  | .nil => 1
  | .ptr d => uptoBulk d + 1
  | .slice elems spare => uptoBulkAll elems + uptoBulkAll spare + 1
  | .agg parts => uptoBulkAll parts + 1
  | .iface _ d => uptoBulk d + 1
  | .map entries => uptoBulkEntries entries + 1
  | .held _ => 1
def uptoBulkAll {H : Type} : List (DataW H) → Nat
  | [] => 0
  | d :: r => uptoBulk d + uptoBulkAll r
def uptoBulkEntries {H : Type} : List (Lit × DataW H) → Nat
  | [] => 0
  | x :: r => uptoBulkEntry x + uptoBulkEntries r
def uptoBulkEntry {H : Type} : Lit × DataW H → Nat
  | (.string bytes, d) => bytes.length + uptoBulk d + 1
  | (_, d) => uptoBulk d + 1
 end
def uptoSmall : (H : Type) → List (DataW H) → Bool := fun _ ds => decide (uptoBulkAll ds ≤ 1048576)
def OpenSpec.upto (s : _root_.Go.ChangeSpec) : _root_.Go.OpenSpec := { _root_.Go.OpenSpec.ofChange s with cond := some uptoSmall }

/-- 'cloisonnelaw02.LabelOf', WHERE WHAT IT READS IS OF BULK AT MOST 1048576: true; the input reads as it did. -/
def labelOfUptoRow : OpenClaim := { program := "ytmfifbclldnpkaa", sum := "7573b83e9ac3852b85a875c0b712c4d4954bec2d6b839ce9da13144005d65040", func := "cloisonne/cloisonnelaw02.LabelOf", spec := "labelOf", recurses := true, apart := false, narrowed := true }
def LabelOfUptoSaid : Prop := labelOfUptoRow.holds Try.pinned (OpenSpec.upto labelOfSpec)

/-- 'cloisonnelaw02.LabelPacks', WHERE WHAT IT READS IS OF BULK AT MOST 1048576: true; the input reads as it did. -/
def labelPacksUptoRow : OpenClaim := { program := "ytmfifbclldnpkaa", sum := "7573b83e9ac3852b85a875c0b712c4d4954bec2d6b839ce9da13144005d65040", func := "cloisonne/cloisonnelaw02.LabelPacks", spec := "labelPacks", recurses := true, apart := false, narrowed := true }
def LabelPacksUptoSaid : Prop := labelPacksUptoRow.holds Try.pinned (OpenSpec.upto labelPacksSpec)

/-- 'cloisonnelaw02.LabelOrders', WHERE WHAT IT READS IS OF BULK AT MOST 1048576: true; the input reads as it did. -/
def labelOrdersUptoRow : OpenClaim := { program := "ytmfifbclldnpkaa", sum := "7573b83e9ac3852b85a875c0b712c4d4954bec2d6b839ce9da13144005d65040", func := "cloisonne/cloisonnelaw02.LabelOrders", spec := "labelOrders", recurses := true, apart := false, narrowed := true }
def LabelOrdersUptoSaid : Prop := labelOrdersUptoRow.holds Try.pinned (OpenSpec.upto labelOrdersSpec)

/-- 'cloisonnelaw02.LabelBounds', WHERE WHAT IT READS IS OF BULK AT MOST 1048576: true; the input reads as it did. -/
def labelBoundsUptoRow : OpenClaim := { program := "ytmfifbclldnpkaa", sum := "7573b83e9ac3852b85a875c0b712c4d4954bec2d6b839ce9da13144005d65040", func := "cloisonne/cloisonnelaw02.LabelBounds", spec := "labelBounds", unfollowed := true, recurses := true, apart := false, narrowed := true }
def LabelBoundsUptoSaid : Prop := labelBoundsUptoRow.holds Try.pinned (OpenSpec.upto labelBoundsSpec)

/-- 'cloisonnelaw02.LabelJoins', WHERE WHAT IT READS IS OF BULK AT MOST 1048576: true; the input reads as it did. -/
def labelJoinsUptoRow : OpenClaim := { program := "ytmfifbclldnpkaa", sum := "7573b83e9ac3852b85a875c0b712c4d4954bec2d6b839ce9da13144005d65040", func := "cloisonne/cloisonnelaw02.LabelJoins", spec := "labelJoins", unfollowed := true, recurses := true, apart := false, narrowed := true }
def LabelJoinsUptoSaid : Prop := labelJoinsUptoRow.holds Try.pinned (OpenSpec.upto labelJoinsSpec)

end Rows
end Go.Proofs.Ytmfifbclldnpkaa
