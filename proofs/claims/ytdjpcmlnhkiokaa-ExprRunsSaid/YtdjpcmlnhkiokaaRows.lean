/-
  No cell of these rows narrows 'for every input' (looked for: loops, veiled, ifaces, maps, wideKeys, modest, calm, conditions, laid).
  DERIVED. THE GIVEN ROWS OF THIS SEAT. 4 by the template 'for every input the law returns true; each argument reads behind the call as it read before'; 0 by the template 'total and deterministic' (their statements: YtdjpcmlnhkiokaaTotals.lean).
  GIVEN WITH THE SEED: the statements are not yours to turn. If you find one false, say at which input.
  Laid BY PROGRAM, IN A SANDBOX (cutbox-rows.mjs): the forced cells as the released guide's own fill.sh prints them over the translation 9a5c8d785d3ee1ea… (all of the seat's roots in one cut). By AI agents, Wed Nov 11 2026. No macro, syntax, notation, axiom, sorry.
-/
import Derived.Test.YtdjpcmlnhkiokaaChecked
import GoSem.Claim
import GoSem.ClaimJoined
import GoSem.ClaimMapViews
import Derived.JoinedTies
import Derived.KernelRfl
namespace Go.Proofs.Ytdjpcmlnhkiokaa
/- THE CELL 'sum', in the pinned program and in every row, IS THE sha256 OF THE DUMP (.gsa) THAT YtdjpcmlnhkiokaaProg.lean LOADS. Nothing in Lean hashes anything: it is a label: what it is worth is what the hold of that sum in a sandbox is worth. -/
noncomputable def Try.pinned : Pinned := { name := "ytdjpcmlnhkiokaa", sum := "9a5c8d785d3ee1eab87c643ee1df317fe57e926285f3868fd60edda8448091d1", checked := Try.checked }
namespace Rows
def none {H : Type} : Left H := { results := [], args := [] }

/-- 'cloisonnelaw14.ExprSame': WHATEVER THE INPUT: true; the input reads as it did. -/
def exprSameSpec : ChangeSpec := { name := "exprSame", fn := fun _ => fun
  | [d1, d2, d3] => { results := [.lit (.bool true)], args := [d1, d2, d3] }
  | _ => none }
def exprSameRow : OpenClaim := { program := "ytdjpcmlnhkiokaa", sum := "9a5c8d785d3ee1eab87c643ee1df317fe57e926285f3868fd60edda8448091d1", func := "cloisonne/cloisonnelaw14.ExprSame", spec := "exprSame", inPlace := ["math.Float64bits", "math.Float64frombits", "math.archFloor", "math.archTrunc"], unfollowed := true, recurses := true, apart := false }
def ExprSameSaid : Prop := exprSameRow.holds Try.pinned (OpenSpec.ofChange exprSameSpec)

/-- ITS FALSE NEIGHBOUR: 'it returns false'. Refute it at one input. -/
def exprSameWrong : ChangeSpec := { name := "exprSame", fn := fun _ => fun
  | [d1, d2, d3] => { results := [.lit (.bool false)], args := [d1, d2, d3] }
  | _ => none }
def ExprSameWrongFalsely : Prop := exprSameRow.holds Try.pinned (OpenSpec.ofChange exprSameWrong)

/-- 'cloisonnelaw14.ExprPicks': WHATEVER THE INPUT: true; the input reads as it did. -/
def exprPicksSpec : ChangeSpec := { name := "exprPicks", fn := fun _ => fun
  | [d1, d2, d3] => { results := [.lit (.bool true)], args := [d1, d2, d3] }
  | _ => none }
def exprPicksRow : OpenClaim := { program := "ytdjpcmlnhkiokaa", sum := "9a5c8d785d3ee1eab87c643ee1df317fe57e926285f3868fd60edda8448091d1", func := "cloisonne/cloisonnelaw14.ExprPicks", spec := "exprPicks", inPlace := ["math.Float64bits", "math.Float64frombits", "math.archFloor", "math.archTrunc"], unfollowed := true, recurses := true, apart := false }
def ExprPicksSaid : Prop := exprPicksRow.holds Try.pinned (OpenSpec.ofChange exprPicksSpec)

/-- ITS FALSE NEIGHBOUR: 'it returns false'. Refute it at one input. -/
def exprPicksWrong : ChangeSpec := { name := "exprPicks", fn := fun _ => fun
  | [d1, d2, d3] => { results := [.lit (.bool false)], args := [d1, d2, d3] }
  | _ => none }
def ExprPicksWrongFalsely : Prop := exprPicksRow.holds Try.pinned (OpenSpec.ofChange exprPicksWrong)

/-- 'cloisonnelaw14.ExprRuns': WHATEVER THE INPUT: true; the input reads as it did. -/
def exprRunsSpec : ChangeSpec := { name := "exprRuns", fn := fun _ => fun
  | [d1, d2] => { results := [.lit (.bool true)], args := [d1, d2] }
  | _ => none }
def exprRunsRow : OpenClaim := { program := "ytdjpcmlnhkiokaa", sum := "9a5c8d785d3ee1eab87c643ee1df317fe57e926285f3868fd60edda8448091d1", func := "cloisonne/cloisonnelaw14.ExprRuns", spec := "exprRuns", inPlace := ["math.Float64bits", "math.Float64frombits", "math.archFloor", "math.archTrunc"], unfollowed := true, recurses := true, apart := false }
def ExprRunsSaid : Prop := exprRunsRow.holds Try.pinned (OpenSpec.ofChange exprRunsSpec)

/-- ITS FALSE NEIGHBOUR: 'it returns false'. Refute it at one input. -/
def exprRunsWrong : ChangeSpec := { name := "exprRuns", fn := fun _ => fun
  | [d1, d2] => { results := [.lit (.bool false)], args := [d1, d2] }
  | _ => none }
def ExprRunsWrongFalsely : Prop := exprRunsRow.holds Try.pinned (OpenSpec.ofChange exprRunsWrong)

/-- 'cloisonnelaw14.ExprDepth': WHATEVER THE INPUT: true; the input reads as it did. -/
def exprDepthSpec : ChangeSpec := { name := "exprDepth", fn := fun _ => fun
  | [d1, d2, d3] => { results := [.lit (.bool true)], args := [d1, d2, d3] }
  | _ => none }
def exprDepthRow : OpenClaim := { program := "ytdjpcmlnhkiokaa", sum := "9a5c8d785d3ee1eab87c643ee1df317fe57e926285f3868fd60edda8448091d1", func := "cloisonne/cloisonnelaw14.ExprDepth", spec := "exprDepth", inPlace := ["math.Float64bits", "math.Float64frombits", "math.archFloor", "math.archTrunc"], unfollowed := true, recurses := true, apart := false }
def ExprDepthSaid : Prop := exprDepthRow.holds Try.pinned (OpenSpec.ofChange exprDepthSpec)

/-- ITS FALSE NEIGHBOUR: 'it returns false'. Refute it at one input. -/
def exprDepthWrong : ChangeSpec := { name := "exprDepth", fn := fun _ => fun
  | [d1, d2, d3] => { results := [.lit (.bool false)], args := [d1, d2, d3] }
  | _ => none }
def ExprDepthWrongFalsely : Prop := exprDepthRow.holds Try.pinned (OpenSpec.ofChange exprDepthWrong)

/- THE SECOND FORM. 'bulk': how many values and letters a reading holds, each counted each time it is reached (what is shared counts as often as it is met; a slice's spare places count too). A statement '..UptoSaid' is the law's where the arguments, and the package variables that the reading takes, are together of bulk at most 1048576: NARROWER than '..Said'. Prove '..Said' where nothing that the law and all that it calls make is longer than what came in: it says more and counts as full. Else prove '..UptoSaid'. A law counts once. -/
mutual
def uptoBulk {H : Type} : DataW H → Nat
  | .lit (.string bytes) => bytes.length + 1
  | .lit _ => 1
  | .nil => 1
  | .ptr d => uptoBulk d + 1
  | .slice elems spare => uptoBulkAll elems + uptoBulkAll spare + 1
  | .agg parts => uptoBulkAll parts + 1
  | .iface _ d => uptoBulk d + 1
  | .map entries => uptoBulkEntries entries + 1
  | .held _ => 1
def uptoBulkAll {H : Type} : List (DataW H) → Nat
  | [] => 0
  | d :: r => uptoBulk d + uptoBulkAll r
def uptoBulkEntries {H : Type} : List (Lit × DataW H) → Nat
  | [] => 0
  | x :: r => uptoBulkEntry x + uptoBulkEntries r
def uptoBulkEntry {H : Type} : Lit × DataW H → Nat
  | (.string bytes, d) => bytes.length + uptoBulk d + 1
  | (_, d) => uptoBulk d + 1
 end
def uptoSmall : (H : Type) → List (DataW H) → Bool := fun _ ds => decide (uptoBulkAll ds ≤ 1048576)
def OpenSpec.upto (s : _root_.Go.ChangeSpec) : _root_.Go.OpenSpec := { _root_.Go.OpenSpec.ofChange s with cond := some uptoSmall }

/-- 'cloisonnelaw14.ExprSame', WHERE WHAT IT READS IS OF BULK AT MOST 1048576: true; the input reads as it did. -/
def exprSameUptoRow : OpenClaim := { program := "ytdjpcmlnhkiokaa", sum := "9a5c8d785d3ee1eab87c643ee1df317fe57e926285f3868fd60edda8448091d1", func := "cloisonne/cloisonnelaw14.ExprSame", spec := "exprSame", inPlace := ["math.Float64bits", "math.Float64frombits", "math.archFloor", "math.archTrunc"], unfollowed := true, recurses := true, apart := false, narrowed := true }
def ExprSameUptoSaid : Prop := exprSameUptoRow.holds Try.pinned (OpenSpec.upto exprSameSpec)

/-- 'cloisonnelaw14.ExprPicks', WHERE WHAT IT READS IS OF BULK AT MOST 1048576: true; the input reads as it did. -/
def exprPicksUptoRow : OpenClaim := { program := "ytdjpcmlnhkiokaa", sum := "9a5c8d785d3ee1eab87c643ee1df317fe57e926285f3868fd60edda8448091d1", func := "cloisonne/cloisonnelaw14.ExprPicks", spec := "exprPicks", inPlace := ["math.Float64bits", "math.Float64frombits", "math.archFloor", "math.archTrunc"], unfollowed := true, recurses := true, apart := false, narrowed := true }
def ExprPicksUptoSaid : Prop := exprPicksUptoRow.holds Try.pinned (OpenSpec.upto exprPicksSpec)

/-- 'cloisonnelaw14.ExprRuns', WHERE WHAT IT READS IS OF BULK AT MOST 1048576: true; the input reads as it did. -/
def exprRunsUptoRow : OpenClaim := { program := "ytdjpcmlnhkiokaa", sum := "9a5c8d785d3ee1eab87c643ee1df317fe57e926285f3868fd60edda8448091d1", func := "cloisonne/cloisonnelaw14.ExprRuns", spec := "exprRuns", inPlace := ["math.Float64bits", "math.Float64frombits", "math.archFloor", "math.archTrunc"], unfollowed := true, recurses := true, apart := false, narrowed := true }
def ExprRunsUptoSaid : Prop := exprRunsUptoRow.holds Try.pinned (OpenSpec.upto exprRunsSpec)

/-- 'cloisonnelaw14.ExprDepth', WHERE WHAT IT READS IS OF BULK AT MOST 1048576: true; the input reads as it did. -/
def exprDepthUptoRow : OpenClaim := { program := "ytdjpcmlnhkiokaa", sum := "9a5c8d785d3ee1eab87c643ee1df317fe57e926285f3868fd60edda8448091d1", func := "cloisonne/cloisonnelaw14.ExprDepth", spec := "exprDepth", inPlace := ["math.Float64bits", "math.Float64frombits", "math.archFloor", "math.archTrunc"], unfollowed := true, recurses := true, apart := false, narrowed := true }
def ExprDepthUptoSaid : Prop := exprDepthUptoRow.holds Try.pinned (OpenSpec.upto exprDepthSpec)

end Rows
end Go.Proofs.Ytdjpcmlnhkiokaa
