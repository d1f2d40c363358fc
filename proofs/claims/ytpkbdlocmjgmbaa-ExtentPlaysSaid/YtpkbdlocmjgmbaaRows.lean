/-
  No cell of these rows narrows 'for every input' (looked for: loops, veiled, ifaces, maps, wideKeys, modest, calm, conditions, laid).
  DERIVED. THE GIVEN ROWS OF THIS SEAT. 4 by the template 'for every input the law returns true; each argument reads behind the call as it read before'; 0 by the template 'total and deterministic' (their statements: YtpkbdlocmjgmbaaTotals.lean).
  GIVEN WITH THE SEED: the statements are not yours to turn. If you find one false, say at which input.
  Laid BY PROGRAM, IN A SANDBOX (cutbox-rows.mjs): the forced cells as the released guide's own fill.sh prints them over the translation 418fed575faafe9a… (all of the seat's roots in one cut). By AI agents, Wed Nov 11 2026. No macro, syntax, notation, axiom, sorry.
-/
import Derived.Test.YtpkbdlocmjgmbaaChecked
import GoSem.Claim
import GoSem.ClaimJoined
import GoSem.ClaimMapViews
import Derived.JoinedTies
import Derived.KernelRfl
namespace Go.Proofs.Ytpkbdlocmjgmbaa
/- THE CELL 'sum', in the pinned program and in every row, IS THE sha256 OF THE DUMP (.gsa) THAT YtpkbdlocmjgmbaaProg.lean LOADS. Nothing in Lean hashes anything: it is a label: what it is worth is what the hold of that sum in a sandbox is worth. -/
noncomputable def Try.pinned : Pinned := { name := "ytpkbdlocmjgmbaa", sum := "418fed575faafe9a3bd2a3a8ebfca88212b5aa68a62951fd54eee0127afd8e61", checked := Try.checked }
namespace Rows
def none {H : Type} : Left H := { results := [], args := [] }

/-- 'cloisonnelaw05.ExtentLasts': WHATEVER THE INPUT: true; the input reads as it did. -/
def extentLastsSpec : ChangeSpec := { name := "extentLasts", fn := fun _ => fun
  | [d1, d2, d3, d4] => { results := [.lit (.bool true)], args := [d1, d2, d3, d4] }
  | _ => none }
def extentLastsRow : OpenClaim := { program := "ytpkbdlocmjgmbaa", sum := "418fed575faafe9a3bd2a3a8ebfca88212b5aa68a62951fd54eee0127afd8e61", func := "cloisonne/cloisonnelaw05.ExtentLasts", spec := "extentLasts", apart := false }
def ExtentLastsSaid : Prop := extentLastsRow.holds Try.pinned (OpenSpec.ofChange extentLastsSpec)

/-- ITS FALSE NEIGHBOUR: 'it returns false'. Refute it at one input. -/
def extentLastsWrong : ChangeSpec := { name := "extentLasts", fn := fun _ => fun
  | [d1, d2, d3, d4] => { results := [.lit (.bool false)], args := [d1, d2, d3, d4] }
  | _ => none }
def ExtentLastsWrongFalsely : Prop := extentLastsRow.holds Try.pinned (OpenSpec.ofChange extentLastsWrong)

/-- 'cloisonnelaw05.ExtentPicks': WHATEVER THE INPUT: true; the input reads as it did. -/
def extentPicksSpec : ChangeSpec := { name := "extentPicks", fn := fun _ => fun
  | [d1, d2] => { results := [.lit (.bool true)], args := [d1, d2] }
  | _ => none }
def extentPicksRow : OpenClaim := { program := "ytpkbdlocmjgmbaa", sum := "418fed575faafe9a3bd2a3a8ebfca88212b5aa68a62951fd54eee0127afd8e61", func := "cloisonne/cloisonnelaw05.ExtentPicks", spec := "extentPicks", unfollowed := true, recurses := true, apart := false }
def ExtentPicksSaid : Prop := extentPicksRow.holds Try.pinned (OpenSpec.ofChange extentPicksSpec)

/-- ITS FALSE NEIGHBOUR: 'it returns false'. Refute it at one input. -/
def extentPicksWrong : ChangeSpec := { name := "extentPicks", fn := fun _ => fun
  | [d1, d2] => { results := [.lit (.bool false)], args := [d1, d2] }
  | _ => none }
def ExtentPicksWrongFalsely : Prop := extentPicksRow.holds Try.pinned (OpenSpec.ofChange extentPicksWrong)

/-- 'cloisonnelaw05.ExtentPlays': WHATEVER THE INPUT: true; the input reads as it did. -/
def extentPlaysSpec : ChangeSpec := { name := "extentPlays", fn := fun _ => fun
  | [d1, d2, d3] => { results := [.lit (.bool true)], args := [d1, d2, d3] }
  | _ => none }
def extentPlaysRow : OpenClaim := { program := "ytpkbdlocmjgmbaa", sum := "418fed575faafe9a3bd2a3a8ebfca88212b5aa68a62951fd54eee0127afd8e61", func := "cloisonne/cloisonnelaw05.ExtentPlays", spec := "extentPlays", unfollowed := true, recurses := true, apart := false }
def ExtentPlaysSaid : Prop := extentPlaysRow.holds Try.pinned (OpenSpec.ofChange extentPlaysSpec)

/-- ITS FALSE NEIGHBOUR: 'it returns false'. Refute it at one input. -/
def extentPlaysWrong : ChangeSpec := { name := "extentPlays", fn := fun _ => fun
  | [d1, d2, d3] => { results := [.lit (.bool false)], args := [d1, d2, d3] }
  | _ => none }
def ExtentPlaysWrongFalsely : Prop := extentPlaysRow.holds Try.pinned (OpenSpec.ofChange extentPlaysWrong)

/-- 'cloisonnelaw05.ExtentNil': WHATEVER THE INPUT: true; the input reads as it did. -/
def extentNilSpec : ChangeSpec := { name := "extentNil", fn := fun _ => fun
  | [d] => { results := [.lit (.bool true)], args := [d] }
  | _ => none }
def extentNilRow : OpenClaim := { program := "ytpkbdlocmjgmbaa", sum := "418fed575faafe9a3bd2a3a8ebfca88212b5aa68a62951fd54eee0127afd8e61", func := "cloisonne/cloisonnelaw05.ExtentNil", spec := "extentNil", unfollowed := true, recurses := true, apart := false }
def ExtentNilSaid : Prop := extentNilRow.holds Try.pinned (OpenSpec.ofChange extentNilSpec)

/-- ITS FALSE NEIGHBOUR: 'it returns false'. Refute it at one input. -/
def extentNilWrong : ChangeSpec := { name := "extentNil", fn := fun _ => fun
  | [d] => { results := [.lit (.bool false)], args := [d] }
  | _ => none }
def ExtentNilWrongFalsely : Prop := extentNilRow.holds Try.pinned (OpenSpec.ofChange extentNilWrong)

/- THE SECOND FORM. 'bulk': how many values and letters a reading holds, each counted each time it is reached (what is shared counts as often as it is met; a slice's spare places count too). A statement '..UptoSaid' is the law's where the arguments, and the package variables that the reading takes, are together of bulk at most 1048576: NARROWER than '..Said'. Prove '..Said' where nothing that the law and all that it calls make is longer than what came in: it says more and counts as full. Else prove '..UptoSaid'. A law counts once. -/
mutual
def uptoBulk {H : Type} : DataW H → Nat
  | .lit (.string bytes) => bytes.length + 1
  | .lit _ => 1
  | .nil => 1
  | .ptr d => uptoBulk d + 1
  | .slice elems spare => uptoBulkAll elems + uptoBulkAll spare + 1
  | .agg parts => uptoBulkAll parts + 1
  | .iface _ d => uptoBulk d + 1
  | .map entries => uptoBulkEntries entries + 1
  | .held _ => 1
def uptoBulkAll {H : Type} : List (DataW H) → Nat
  | [] => 0
  | d :: r => uptoBulk d + uptoBulkAll r
def uptoBulkEntries {H : Type} : List (Lit × DataW H) → Nat
  | [] => 0
  | x :: r => uptoBulkEntry x + uptoBulkEntries r
def uptoBulkEntry {H : Type} : Lit × DataW H → Nat
  | (.string bytes, d) => bytes.length + uptoBulk d + 1
  | (_, d) => uptoBulk d + 1
 end
def uptoSmall : (H : Type) → List (DataW H) → Bool := fun _ ds => decide (uptoBulkAll ds ≤ 1048576)
def OpenSpec.upto (s : _root_.Go.ChangeSpec) : _root_.Go.OpenSpec := { _root_.Go.OpenSpec.ofChange s with cond := some uptoSmall }

/-- 'cloisonnelaw05.ExtentLasts', WHERE WHAT IT READS IS OF BULK AT MOST 1048576: true; the input reads as it did. -/
def extentLastsUptoRow : OpenClaim := { program := "ytpkbdlocmjgmbaa", sum := "418fed575faafe9a3bd2a3a8ebfca88212b5aa68a62951fd54eee0127afd8e61", func := "cloisonne/cloisonnelaw05.ExtentLasts", spec := "extentLasts", apart := false, narrowed := true }
def ExtentLastsUptoSaid : Prop := extentLastsUptoRow.holds Try.pinned (OpenSpec.upto extentLastsSpec)

/-- 'cloisonnelaw05.ExtentPicks', WHERE WHAT IT READS IS OF BULK AT MOST 1048576: true; the input reads as it did. -/
def extentPicksUptoRow : OpenClaim := { program := "ytpkbdlocmjgmbaa", sum := "418fed575faafe9a3bd2a3a8ebfca88212b5aa68a62951fd54eee0127afd8e61", func := "cloisonne/cloisonnelaw05.ExtentPicks", spec := "extentPicks", unfollowed := true, recurses := true, apart := false, narrowed := true }
def ExtentPicksUptoSaid : Prop := extentPicksUptoRow.holds Try.pinned (OpenSpec.upto extentPicksSpec)

/-- 'cloisonnelaw05.ExtentPlays', WHERE WHAT IT READS IS OF BULK AT MOST 1048576: true; the input reads as it did. -/
def extentPlaysUptoRow : OpenClaim := { program := "ytpkbdlocmjgmbaa", sum := "418fed575faafe9a3bd2a3a8ebfca88212b5aa68a62951fd54eee0127afd8e61", func := "cloisonne/cloisonnelaw05.ExtentPlays", spec := "extentPlays", unfollowed := true, recurses := true, apart := false, narrowed := true }
def ExtentPlaysUptoSaid : Prop := extentPlaysUptoRow.holds Try.pinned (OpenSpec.upto extentPlaysSpec)

/-- 'cloisonnelaw05.ExtentNil', WHERE WHAT IT READS IS OF BULK AT MOST 1048576: true; the input reads as it did. -/
def extentNilUptoRow : OpenClaim := { program := "ytpkbdlocmjgmbaa", sum := "418fed575faafe9a3bd2a3a8ebfca88212b5aa68a62951fd54eee0127afd8e61", func := "cloisonne/cloisonnelaw05.ExtentNil", spec := "extentNil", unfollowed := true, recurses := true, apart := false, narrowed := true }
def ExtentNilUptoSaid : Prop := extentNilUptoRow.holds Try.pinned (OpenSpec.upto extentNilSpec)

end Rows
end Go.Proofs.Ytpkbdlocmjgmbaa
