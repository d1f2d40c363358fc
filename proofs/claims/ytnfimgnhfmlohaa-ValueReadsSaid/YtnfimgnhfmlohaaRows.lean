/-
  No cell of these rows narrows 'for every input' (looked for: loops, veiled, ifaces, maps, wideKeys, modest, calm, conditions, laid).
  DERIVED. THE GIVEN ROWS OF THIS SEAT. 4 by the template 'for every input the law returns true; each argument reads behind the call as it read before'; 0 by the template 'total and deterministic' (their statements: YtnfimgnhfmlohaaTotals.lean).
  GIVEN WITH THE SEED: the statements are not yours to turn. If you find one false, say at which input.
  Laid BY PROGRAM, IN A SANDBOX (cutbox-rows.mjs): the forced cells as the released guide's own fill.sh prints them over the translation fd4a82abcc63020f… (all of the seat's roots in one cut). By AI agents, Wed Nov 11 2026. No macro, syntax, notation, axiom, sorry.
-/
import Derived.Test.YtnfimgnhfmlohaaChecked
import GoSem.Claim
import GoSem.ClaimJoined
import GoSem.ClaimMapViews
import Derived.JoinedTies
import Derived.KernelRfl
namespace Go.Proofs.Ytnfimgnhfmlohaa
/- THE CELL 'sum', in the pinned program and in every row, IS THE sha256 OF THE DUMP (.gsa) THAT YtnfimgnhfmlohaaProg.lean LOADS. Nothing in Lean hashes anything: it is a label: what it is worth is what the hold of that sum in a sandbox is worth. -/
noncomputable def Try.pinned : Pinned := { name := "ytnfimgnhfmlohaa", sum := "fd4a82abcc63020f2b3520002f5ce3c7d8bfedd838b8300b2cc6ae03d0b5d87a", checked := Try.checked }
namespace Rows
def none {H : Type} : Left H := { results := [], args := [] }

/-- 'cloisonnelaw04.ValueMakes': WHATEVER THE INPUT: true; the input reads as it did. -/
def valueMakesSpec : ChangeSpec := { name := "valueMakes", fn := fun _ => fun
  | [d1, d2, d3] => { results := [.lit (.bool true)], args := [d1, d2, d3] }
  | _ => none }
def valueMakesRow : OpenClaim := { program := "ytnfimgnhfmlohaa", sum := "fd4a82abcc63020f2b3520002f5ce3c7d8bfedd838b8300b2cc6ae03d0b5d87a", func := "cloisonne/cloisonnelaw04.ValueMakes", spec := "valueMakes", inPlace := ["math.Float64bits", "math.Float64frombits"], apart := false }
def ValueMakesSaid : Prop := valueMakesRow.holds Try.pinned (OpenSpec.ofChange valueMakesSpec)

/-- ITS FALSE NEIGHBOUR: 'it returns false'. Refute it at one input. -/
def valueMakesWrong : ChangeSpec := { name := "valueMakes", fn := fun _ => fun
  | [d1, d2, d3] => { results := [.lit (.bool false)], args := [d1, d2, d3] }
  | _ => none }
def ValueMakesWrongFalsely : Prop := valueMakesRow.holds Try.pinned (OpenSpec.ofChange valueMakesWrong)

/-- 'cloisonnelaw04.ValueOrders': WHATEVER THE INPUT: true; the input reads as it did. -/
def valueOrdersSpec : ChangeSpec := { name := "valueOrders", fn := fun _ => fun
  | [d1, d2] => { results := [.lit (.bool true)], args := [d1, d2] }
  | _ => none }
def valueOrdersRow : OpenClaim := { program := "ytnfimgnhfmlohaa", sum := "fd4a82abcc63020f2b3520002f5ce3c7d8bfedd838b8300b2cc6ae03d0b5d87a", func := "cloisonne/cloisonnelaw04.ValueOrders", spec := "valueOrders", inPlace := ["math.Float64bits", "math.Float64frombits", "internal/bytealg.abigen_runtime_cmpstring"], apart := false }
def ValueOrdersSaid : Prop := valueOrdersRow.holds Try.pinned (OpenSpec.ofChange valueOrdersSpec)

/-- ITS FALSE NEIGHBOUR: 'it returns false'. Refute it at one input. -/
def valueOrdersWrong : ChangeSpec := { name := "valueOrders", fn := fun _ => fun
  | [d1, d2] => { results := [.lit (.bool false)], args := [d1, d2] }
  | _ => none }
def ValueOrdersWrongFalsely : Prop := valueOrdersRow.holds Try.pinned (OpenSpec.ofChange valueOrdersWrong)

/-- 'cloisonnelaw04.ValuePacks': WHATEVER THE INPUT: true; the input reads as it did. -/
def valuePacksSpec : ChangeSpec := { name := "valuePacks", fn := fun _ => fun
  | [d] => { results := [.lit (.bool true)], args := [d] }
  | _ => none }
def valuePacksRow : OpenClaim := { program := "ytnfimgnhfmlohaa", sum := "fd4a82abcc63020f2b3520002f5ce3c7d8bfedd838b8300b2cc6ae03d0b5d87a", func := "cloisonne/cloisonnelaw04.ValuePacks", spec := "valuePacks", inPlace := ["math.Float64bits", "math.Float64frombits"], apart := false }
def ValuePacksSaid : Prop := valuePacksRow.holds Try.pinned (OpenSpec.ofChange valuePacksSpec)

/-- ITS FALSE NEIGHBOUR: 'it returns false'. Refute it at one input. -/
def valuePacksWrong : ChangeSpec := { name := "valuePacks", fn := fun _ => fun
  | [d] => { results := [.lit (.bool false)], args := [d] }
  | _ => none }
def ValuePacksWrongFalsely : Prop := valuePacksRow.holds Try.pinned (OpenSpec.ofChange valuePacksWrong)

/-- 'cloisonnelaw04.ValueReads': WHATEVER THE INPUT: true; the input reads as it did. -/
def valueReadsSpec : ChangeSpec := { name := "valueReads", fn := fun _ => fun
  | [d] => { results := [.lit (.bool true)], args := [d] }
  | _ => none }
def valueReadsRow : OpenClaim := { program := "ytnfimgnhfmlohaa", sum := "fd4a82abcc63020f2b3520002f5ce3c7d8bfedd838b8300b2cc6ae03d0b5d87a", func := "cloisonne/cloisonnelaw04.ValueReads", spec := "valueReads", inPlace := ["math.Float64bits", "math.Float64frombits"], apart := false }
def ValueReadsSaid : Prop := valueReadsRow.holds Try.pinned (OpenSpec.ofChange valueReadsSpec)

/-- ITS FALSE NEIGHBOUR: 'it returns false'. Refute it at one input. -/
def valueReadsWrong : ChangeSpec := { name := "valueReads", fn := fun _ => fun
  | [d] => { results := [.lit (.bool false)], args := [d] }
  | _ => none }
def ValueReadsWrongFalsely : Prop := valueReadsRow.holds Try.pinned (OpenSpec.ofChange valueReadsWrong)

/- THE SECOND FORM. 'bulk': how many values and letters a reading holds, each counted each time it is reached (what is shared counts as often as it is met; a slice's spare places count too). A statement '..UptoSaid' is the law's where the arguments, and the package variables that the reading takes, are together of bulk at most 1048576: NARROWER than '..Said'. Prove '..Said' where nothing that the law and all that it calls make is longer than what came in: it says more and counts as full. Else prove '..UptoSaid'. A law counts once. -/
mutual
def uptoBulk {H : Type} : DataW H → Nat
  | .lit (.string bytes) => bytes.length + 1
  | .lit _ => 1
  | .nil => 1
  | .ptr d => uptoBulk d + 1
  | .slice elems spare => uptoBulkAll elems + uptoBulkAll spare + 1
  | .agg parts => uptoBulkAll parts + 1
  | .iface _ d => uptoBulk d + 1
  | .map entries => uptoBulkEntries entries + 1
  | .held _ => 1
def uptoBulkAll {H : Type} : List (DataW H) → Nat
  | [] => 0
  | d :: r => uptoBulk d + uptoBulkAll r
def uptoBulkEntries {H : Type} : List (Lit × DataW H) → Nat
  | [] => 0
  | x :: r => uptoBulkEntry x + uptoBulkEntries r
def uptoBulkEntry {H : Type} : Lit × DataW H → Nat
  | (.string bytes, d) => bytes.length + uptoBulk d + 1
  | (_, d) => uptoBulk d + 1
 end
def uptoSmall : (H : Type) → List (DataW H) → Bool := fun _ ds => decide (uptoBulkAll ds ≤ 1048576)
def OpenSpec.upto (s : _root_.Go.ChangeSpec) : _root_.Go.OpenSpec := { _root_.Go.OpenSpec.ofChange s with cond := some uptoSmall }

/-- 'cloisonnelaw04.ValueMakes', WHERE WHAT IT READS IS OF BULK AT MOST 1048576: true; the input reads as it did. -/
def valueMakesUptoRow : OpenClaim := { program := "ytnfimgnhfmlohaa", sum := "fd4a82abcc63020f2b3520002f5ce3c7d8bfedd838b8300b2cc6ae03d0b5d87a", func := "cloisonne/cloisonnelaw04.ValueMakes", spec := "valueMakes", inPlace := ["math.Float64bits", "math.Float64frombits"], apart := false, narrowed := true }
def ValueMakesUptoSaid : Prop := valueMakesUptoRow.holds Try.pinned (OpenSpec.upto valueMakesSpec)

/-- 'cloisonnelaw04.ValueOrders', WHERE WHAT IT READS IS OF BULK AT MOST 1048576: true; the input reads as it did. -/
def valueOrdersUptoRow : OpenClaim := { program := "ytnfimgnhfmlohaa", sum := "fd4a82abcc63020f2b3520002f5ce3c7d8bfedd838b8300b2cc6ae03d0b5d87a", func := "cloisonne/cloisonnelaw04.ValueOrders", spec := "valueOrders", inPlace := ["math.Float64bits", "math.Float64frombits", "internal/bytealg.abigen_runtime_cmpstring"], apart := false, narrowed := true }
def ValueOrdersUptoSaid : Prop := valueOrdersUptoRow.holds Try.pinned (OpenSpec.upto valueOrdersSpec)

/-- 'cloisonnelaw04.ValuePacks', WHERE WHAT IT READS IS OF BULK AT MOST 1048576: true; the input reads as it did. -/
def valuePacksUptoRow : OpenClaim := { program := "ytnfimgnhfmlohaa", sum := "fd4a82abcc63020f2b3520002f5ce3c7d8bfedd838b8300b2cc6ae03d0b5d87a", func := "cloisonne/cloisonnelaw04.ValuePacks", spec := "valuePacks", inPlace := ["math.Float64bits", "math.Float64frombits"], apart := false, narrowed := true }
def ValuePacksUptoSaid : Prop := valuePacksUptoRow.holds Try.pinned (OpenSpec.upto valuePacksSpec)

/-- 'cloisonnelaw04.ValueReads', WHERE WHAT IT READS IS OF BULK AT MOST 1048576: true; the input reads as it did. -/
def valueReadsUptoRow : OpenClaim := { program := "ytnfimgnhfmlohaa", sum := "fd4a82abcc63020f2b3520002f5ce3c7d8bfedd838b8300b2cc6ae03d0b5d87a", func := "cloisonne/cloisonnelaw04.ValueReads", spec := "valueReads", inPlace := ["math.Float64bits", "math.Float64frombits"], apart := false, narrowed := true }
def ValueReadsUptoSaid : Prop := valueReadsUptoRow.holds Try.pinned (OpenSpec.upto valueReadsSpec)

end Rows
end Go.Proofs.Ytnfimgnhfmlohaa
