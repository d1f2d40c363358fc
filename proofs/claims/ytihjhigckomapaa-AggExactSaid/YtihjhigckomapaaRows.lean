/-
  No cell of these rows narrows 'for every input' (looked for: loops, veiled, ifaces, maps, wideKeys, modest, calm, conditions, laid).
  DERIVED. THE GIVEN ROWS OF THIS SEAT. 4 by the template 'for every input the law returns true; each argument reads behind the call as it read before'; 0 by the template 'total and deterministic' (their statements: YtihjhigckomapaaTotals.lean).
  GIVEN WITH THE SEED: the statements are not yours to turn. If you find one false, say at which input.
  Laid BY PROGRAM, IN A SANDBOX (cutbox-rows.mjs): the forced cells as the released guide's own fill.sh prints them over the translation 74e6d368143969a2… (all of the seat's roots in one cut). By AI agents, Wed Nov 11 2026. No macro, syntax, notation, axiom, sorry.
-/
import Derived.Test.YtihjhigckomapaaChecked
import GoSem.Claim
import GoSem.ClaimJoined
import GoSem.ClaimMapViews
import Derived.JoinedTies
import Derived.KernelRfl
namespace Go.Proofs.Ytihjhigckomapaa
/- THE CELL 'sum', in the pinned program and in every row, IS THE sha256 OF THE DUMP (.gsa) THAT YtihjhigckomapaaProg.lean LOADS. Nothing in Lean hashes anything: it is a label: what it is worth is what the hold of that sum in a sandbox is worth. -/
noncomputable def Try.pinned : Pinned := { name := "ytihjhigckomapaa", sum := "74e6d368143969a2ae824da8c687937e74f6c983be4fe3da700b31bf8a695389", checked := Try.checked }
namespace Rows
def none {H : Type} : Left H := { results := [], args := [] }

/-- 'cloisonnelaw15.AggTells': WHATEVER THE INPUT: true; the input reads as it did. -/
def aggTellsSpec : ChangeSpec := { name := "aggTells", fn := fun _ => fun
  | [d1, d2] => { results := [.lit (.bool true)], args := [d1, d2] }
  | _ => none }
def aggTellsRow : OpenClaim := { program := "ytihjhigckomapaa", sum := "74e6d368143969a2ae824da8c687937e74f6c983be4fe3da700b31bf8a695389", func := "cloisonne/cloisonnelaw15.AggTells", spec := "aggTells", inPlace := ["math.Float64frombits", "math.Float64bits"], apart := false }
def AggTellsSaid : Prop := aggTellsRow.holds Try.pinned (OpenSpec.ofChange aggTellsSpec)

/-- ITS FALSE NEIGHBOUR: 'it returns false'. Refute it at one input. -/
def aggTellsWrong : ChangeSpec := { name := "aggTells", fn := fun _ => fun
  | [d1, d2] => { results := [.lit (.bool false)], args := [d1, d2] }
  | _ => none }
def AggTellsWrongFalsely : Prop := aggTellsRow.holds Try.pinned (OpenSpec.ofChange aggTellsWrong)

/-- 'cloisonnelaw15.AggNil': WHATEVER THE INPUT: true; the input reads as it did. -/
def aggNilSpec : ChangeSpec := { name := "aggNil", fn := fun _ => fun
  | [d] => { results := [.lit (.bool true)], args := [d] }
  | _ => none }
def aggNilRow : OpenClaim := { program := "ytihjhigckomapaa", sum := "74e6d368143969a2ae824da8c687937e74f6c983be4fe3da700b31bf8a695389", func := "cloisonne/cloisonnelaw15.AggNil", spec := "aggNil", inPlace := ["math.Float64frombits", "math.Float64bits"], apart := false }
def AggNilSaid : Prop := aggNilRow.holds Try.pinned (OpenSpec.ofChange aggNilSpec)

/-- ITS FALSE NEIGHBOUR: 'it returns false'. Refute it at one input. -/
def aggNilWrong : ChangeSpec := { name := "aggNil", fn := fun _ => fun
  | [d] => { results := [.lit (.bool false)], args := [d] }
  | _ => none }
def AggNilWrongFalsely : Prop := aggNilRow.holds Try.pinned (OpenSpec.ofChange aggNilWrong)

/-- 'cloisonnelaw15.AggRows': WHATEVER THE INPUT: true; the input reads as it did. -/
def aggRowsSpec : ChangeSpec := { name := "aggRows", fn := fun _ => fun
  | [d] => { results := [.lit (.bool true)], args := [d] }
  | _ => none }
def aggRowsRow : OpenClaim := { program := "ytihjhigckomapaa", sum := "74e6d368143969a2ae824da8c687937e74f6c983be4fe3da700b31bf8a695389", func := "cloisonne/cloisonnelaw15.AggRows", spec := "aggRows", inPlace := ["math.Float64frombits", "math.Float64bits"], apart := false }
def AggRowsSaid : Prop := aggRowsRow.holds Try.pinned (OpenSpec.ofChange aggRowsSpec)

/-- ITS FALSE NEIGHBOUR: 'it returns false'. Refute it at one input. -/
def aggRowsWrong : ChangeSpec := { name := "aggRows", fn := fun _ => fun
  | [d] => { results := [.lit (.bool false)], args := [d] }
  | _ => none }
def AggRowsWrongFalsely : Prop := aggRowsRow.holds Try.pinned (OpenSpec.ofChange aggRowsWrong)

/-- 'cloisonnelaw15.AggExact': WHATEVER THE INPUT: true; the input reads as it did. -/
def aggExactSpec : ChangeSpec := { name := "aggExact", fn := fun _ => fun
  | [d] => { results := [.lit (.bool true)], args := [d] }
  | _ => none }
def aggExactRow : OpenClaim := { program := "ytihjhigckomapaa", sum := "74e6d368143969a2ae824da8c687937e74f6c983be4fe3da700b31bf8a695389", func := "cloisonne/cloisonnelaw15.AggExact", spec := "aggExact", inPlace := ["math.Float64frombits", "math.Float64bits", "math.archTrunc"], apart := false }
def AggExactSaid : Prop := aggExactRow.holds Try.pinned (OpenSpec.ofChange aggExactSpec)

/-- ITS FALSE NEIGHBOUR: 'it returns false'. Refute it at one input. -/
def aggExactWrong : ChangeSpec := { name := "aggExact", fn := fun _ => fun
  | [d] => { results := [.lit (.bool false)], args := [d] }
  | _ => none }
def AggExactWrongFalsely : Prop := aggExactRow.holds Try.pinned (OpenSpec.ofChange aggExactWrong)

/- THE SECOND FORM. 'bulk': how many values and letters a reading holds, each counted each time it is reached (what is shared counts as often as it is met; a slice's spare places count too). A statement '..UptoSaid' is the law's where the arguments, and the package variables that the reading takes, are together of bulk at most 1048576: NARROWER than '..Said'. Prove '..Said' where nothing that the law and all that it calls make is longer than what came in: it says more and counts as full. Else prove '..UptoSaid'. A law counts once. -/
mutual
def uptoBulk {H : Type} : DataW H → Nat
  | .lit (.string bytes) => bytes.length + 1
  | .lit _ => 1
  | .nil => 1
  | .ptr d => uptoBulk d + 1
  | .slice elems spare => uptoBulkAll elems + uptoBulkAll spare + 1
  | .agg parts => uptoBulkAll parts + 1
  | .iface _ d => uptoBulk d + 1
  | .map entries => uptoBulkEntries entries + 1
  | .held _ => 1
def uptoBulkAll {H : Type} : List (DataW H) → Nat
  | [] => 0
  | d :: r => uptoBulk d + uptoBulkAll r
def uptoBulkEntries {H : Type} : List (Lit × DataW H) → Nat
  | [] => 0
  | x :: r => uptoBulkEntry x + uptoBulkEntries r
def uptoBulkEntry {H : Type} : Lit × DataW H → Nat
  | (.string bytes, d) => bytes.length + uptoBulk d + 1
  | (_, d) => uptoBulk d + 1
 end
def uptoSmall : (H : Type) → List (DataW H) → Bool := fun _ ds => decide (uptoBulkAll ds ≤ 1048576)
def OpenSpec.upto (s : _root_.Go.ChangeSpec) : _root_.Go.OpenSpec := { _root_.Go.OpenSpec.ofChange s with cond := some uptoSmall }

/-- 'cloisonnelaw15.AggTells', WHERE WHAT IT READS IS OF BULK AT MOST 1048576: true; the input reads as it did. -/
def aggTellsUptoRow : OpenClaim := { program := "ytihjhigckomapaa", sum := "74e6d368143969a2ae824da8c687937e74f6c983be4fe3da700b31bf8a695389", func := "cloisonne/cloisonnelaw15.AggTells", spec := "aggTells", inPlace := ["math.Float64frombits", "math.Float64bits"], apart := false, narrowed := true }
def AggTellsUptoSaid : Prop := aggTellsUptoRow.holds Try.pinned (OpenSpec.upto aggTellsSpec)

/-- 'cloisonnelaw15.AggNil', WHERE WHAT IT READS IS OF BULK AT MOST 1048576: true; the input reads as it did. -/
def aggNilUptoRow : OpenClaim := { program := "ytihjhigckomapaa", sum := "74e6d368143969a2ae824da8c687937e74f6c983be4fe3da700b31bf8a695389", func := "cloisonne/cloisonnelaw15.AggNil", spec := "aggNil", inPlace := ["math.Float64frombits", "math.Float64bits"], apart := false, narrowed := true }
def AggNilUptoSaid : Prop := aggNilUptoRow.holds Try.pinned (OpenSpec.upto aggNilSpec)

/-- 'cloisonnelaw15.AggRows', WHERE WHAT IT READS IS OF BULK AT MOST 1048576: true; the input reads as it did. -/
def aggRowsUptoRow : OpenClaim := { program := "ytihjhigckomapaa", sum := "74e6d368143969a2ae824da8c687937e74f6c983be4fe3da700b31bf8a695389", func := "cloisonne/cloisonnelaw15.AggRows", spec := "aggRows", inPlace := ["math.Float64frombits", "math.Float64bits"], apart := false, narrowed := true }
def AggRowsUptoSaid : Prop := aggRowsUptoRow.holds Try.pinned (OpenSpec.upto aggRowsSpec)

/-- 'cloisonnelaw15.AggExact', WHERE WHAT IT READS IS OF BULK AT MOST 1048576: true; the input reads as it did. -/
def aggExactUptoRow : OpenClaim := { program := "ytihjhigckomapaa", sum := "74e6d368143969a2ae824da8c687937e74f6c983be4fe3da700b31bf8a695389", func := "cloisonne/cloisonnelaw15.AggExact", spec := "aggExact", inPlace := ["math.Float64frombits", "math.Float64bits", "math.archTrunc"], apart := false, narrowed := true }
def AggExactUptoSaid : Prop := aggExactUptoRow.holds Try.pinned (OpenSpec.upto aggExactSpec)

end Rows
end Go.Proofs.Ytihjhigckomapaa
