/-
  No cell of these rows narrows 'for every input' (looked for: loops, veiled, ifaces, maps, wideKeys, modest, calm, conditions, laid).
  DERIVED. THE GIVEN ROWS OF THIS SEAT. 5 by the template 'for every input the law returns true; each argument reads behind the call as it read before'; 0 by the template 'total and deterministic' (their statements: YtofinmlloefocaaTotals.lean).
  GIVEN WITH THE SEED: the statements are not yours to turn. If you find one false, say at which input.
  Laid BY PROGRAM, IN A SANDBOX (cutbox-rows.mjs): the forced cells as the released guide's own fill.sh prints them over the translation 6a40ffde4f8b09c9… (all of the seat's roots in one cut). By AI agents, Wed Nov 11 2026. No macro, syntax, notation, axiom, sorry.
-/
import Derived.Test.YtofinmlloefocaaChecked
import GoSem.Claim
import GoSem.ClaimJoined
import GoSem.ClaimMapViews
import Derived.JoinedTies
import Derived.KernelRfl
namespace Go.Proofs.Ytofinmlloefocaa
/- THE CELL 'sum', in the pinned program and in every row, IS THE sha256 OF THE DUMP (.gsa) THAT YtofinmlloefocaaProg.lean LOADS. Nothing in Lean hashes anything: it is a label: what it is worth is what the hold of that sum in a sandbox is worth. -/
noncomputable def Try.pinned : Pinned := { name := "ytofinmlloefocaa", sum := "6a40ffde4f8b09c9c231681ec6737064277716ffa96d80daab3f65c57e81a53e", checked := Try.checked }
namespace Rows
def none {H : Type} : Left H := { results := [], args := [] }

/-- 'cloisonnelaw16.CapsMore': WHATEVER THE INPUT: true; the input reads as it did. -/
def capsMoreSpec : ChangeSpec := { name := "capsMore", fn := fun _ => fun
  | [d1, d2, d3, d4, d5, d6] => { results := [.lit (.bool true)], args := [d1, d2, d3, d4, d5, d6] }
  | _ => none }
def capsMoreRow : OpenClaim := { program := "ytofinmlloefocaa", sum := "6a40ffde4f8b09c9c231681ec6737064277716ffa96d80daab3f65c57e81a53e", func := "cloisonne/cloisonnelaw16.CapsMore", spec := "capsMore", unfollowed := true, recurses := true, apart := false }
def CapsMoreSaid : Prop := capsMoreRow.holds Try.pinned (OpenSpec.ofChange capsMoreSpec)

/-- ITS FALSE NEIGHBOUR: 'it returns false'. Refute it at one input. -/
def capsMoreWrong : ChangeSpec := { name := "capsMore", fn := fun _ => fun
  | [d1, d2, d3, d4, d5, d6] => { results := [.lit (.bool false)], args := [d1, d2, d3, d4, d5, d6] }
  | _ => none }
def CapsMoreWrongFalsely : Prop := capsMoreRow.holds Try.pinned (OpenSpec.ofChange capsMoreWrong)

/-- 'cloisonnelaw16.CapsComesOf': WHATEVER THE INPUT: true; the input reads as it did. -/
def capsComesOfSpec : ChangeSpec := { name := "capsComesOf", fn := fun _ => fun
  | [d1, d2] => { results := [.lit (.bool true)], args := [d1, d2] }
  | _ => none }
def capsComesOfRow : OpenClaim := { program := "ytofinmlloefocaa", sum := "6a40ffde4f8b09c9c231681ec6737064277716ffa96d80daab3f65c57e81a53e", func := "cloisonne/cloisonnelaw16.CapsComesOf", spec := "capsComesOf", unfollowed := true, recurses := true, apart := false }
def CapsComesOfSaid : Prop := capsComesOfRow.holds Try.pinned (OpenSpec.ofChange capsComesOfSpec)

/-- ITS FALSE NEIGHBOUR: 'it returns false'. Refute it at one input. -/
def capsComesOfWrong : ChangeSpec := { name := "capsComesOf", fn := fun _ => fun
  | [d1, d2] => { results := [.lit (.bool false)], args := [d1, d2] }
  | _ => none }
def CapsComesOfWrongFalsely : Prop := capsComesOfRow.holds Try.pinned (OpenSpec.ofChange capsComesOfWrong)

/-- 'cloisonnelaw16.CapsPlays': WHATEVER THE INPUT: true; the input reads as it did. -/
def capsPlaysSpec : ChangeSpec := { name := "capsPlays", fn := fun _ => fun
  | [d1, d2, d3, d4, d5, d6] => { results := [.lit (.bool true)], args := [d1, d2, d3, d4, d5, d6] }
  | _ => none }
def capsPlaysRow : OpenClaim := { program := "ytofinmlloefocaa", sum := "6a40ffde4f8b09c9c231681ec6737064277716ffa96d80daab3f65c57e81a53e", func := "cloisonne/cloisonnelaw16.CapsPlays", spec := "capsPlays", unfollowed := true, recurses := true, apart := false }
def CapsPlaysSaid : Prop := capsPlaysRow.holds Try.pinned (OpenSpec.ofChange capsPlaysSpec)

/-- ITS FALSE NEIGHBOUR: 'it returns false'. Refute it at one input. -/
def capsPlaysWrong : ChangeSpec := { name := "capsPlays", fn := fun _ => fun
  | [d1, d2, d3, d4, d5, d6] => { results := [.lit (.bool false)], args := [d1, d2, d3, d4, d5, d6] }
  | _ => none }
def CapsPlaysWrongFalsely : Prop := capsPlaysRow.holds Try.pinned (OpenSpec.ofChange capsPlaysWrong)

/-- 'cloisonnelaw16.CapsNil': WHATEVER THE INPUT: true; the input reads as it did. -/
def capsNilSpec : ChangeSpec := { name := "capsNil", fn := fun _ => fun
  | [d1, d2] => { results := [.lit (.bool true)], args := [d1, d2] }
  | _ => none }
def capsNilRow : OpenClaim := { program := "ytofinmlloefocaa", sum := "6a40ffde4f8b09c9c231681ec6737064277716ffa96d80daab3f65c57e81a53e", func := "cloisonne/cloisonnelaw16.CapsNil", spec := "capsNil", unfollowed := true, recurses := true, apart := false }
def CapsNilSaid : Prop := capsNilRow.holds Try.pinned (OpenSpec.ofChange capsNilSpec)

/-- ITS FALSE NEIGHBOUR: 'it returns false'. Refute it at one input. -/
def capsNilWrong : ChangeSpec := { name := "capsNil", fn := fun _ => fun
  | [d1, d2] => { results := [.lit (.bool false)], args := [d1, d2] }
  | _ => none }
def CapsNilWrongFalsely : Prop := capsNilRow.holds Try.pinned (OpenSpec.ofChange capsNilWrong)

/-- 'cloisonnelaw16.CapsLoads': WHATEVER THE INPUT: true; the input reads as it did. -/
def capsLoadsSpec : ChangeSpec := { name := "capsLoads", fn := fun _ => fun
  | [d1, d2, d3, d4, d5] => { results := [.lit (.bool true)], args := [d1, d2, d3, d4, d5] }
  | _ => none }
def capsLoadsRow : OpenClaim := { program := "ytofinmlloefocaa", sum := "6a40ffde4f8b09c9c231681ec6737064277716ffa96d80daab3f65c57e81a53e", func := "cloisonne/cloisonnelaw16.CapsLoads", spec := "capsLoads", unfollowed := true, recurses := true, apart := false }
def CapsLoadsSaid : Prop := capsLoadsRow.holds Try.pinned (OpenSpec.ofChange capsLoadsSpec)

/-- ITS FALSE NEIGHBOUR: 'it returns false'. Refute it at one input. -/
def capsLoadsWrong : ChangeSpec := { name := "capsLoads", fn := fun _ => fun
  | [d1, d2, d3, d4, d5] => { results := [.lit (.bool false)], args := [d1, d2, d3, d4, d5] }
  | _ => none }
def CapsLoadsWrongFalsely : Prop := capsLoadsRow.holds Try.pinned (OpenSpec.ofChange capsLoadsWrong)

/- THE SECOND FORM. 'bulk': how many values and letters a reading holds, each counted each time it is reached (what is shared counts as often as it is met; a slice's spare places count too). A statement '..UptoSaid' is the law's where the arguments, and the package variables that the reading takes, are together of bulk at most 1048576: NARROWER than '..Said'. Prove '..Said' where nothing that the law and all that it calls make is longer than what came in: it says more and counts as full. Else prove '..UptoSaid'. A law counts once. -/
mutual
def uptoBulk {H : Type} : DataW H → Nat
  | .lit (.string bytes) => bytes.length + 1
  | .lit _ => 1
  | .nil => 1
  | .ptr d => uptoBulk d + 1
  | .slice elems spare => uptoBulkAll elems + uptoBulkAll spare + 1
  | .agg parts => uptoBulkAll parts + 1
  | .iface _ d => uptoBulk d + 1
  | .map entries => uptoBulkEntries entries + 1
  | .held _ => 1
def uptoBulkAll {H : Type} : List (DataW H) → Nat
  | [] => 0
  | d :: r => uptoBulk d + uptoBulkAll r
def uptoBulkEntries {H : Type} : List (Lit × DataW H) → Nat
  | [] => 0
  | x :: r => uptoBulkEntry x + uptoBulkEntries r
def uptoBulkEntry {H : Type} : Lit × DataW H → Nat
  | (.string bytes, d) => bytes.length + uptoBulk d + 1
  | (_, d) => uptoBulk d + 1
 end
def uptoSmall : (H : Type) → List (DataW H) → Bool := fun _ ds => decide (uptoBulkAll ds ≤ 1048576)
def OpenSpec.upto (s : _root_.Go.ChangeSpec) : _root_.Go.OpenSpec := { _root_.Go.OpenSpec.ofChange s with cond := some uptoSmall }

/-- 'cloisonnelaw16.CapsMore', WHERE WHAT IT READS IS OF BULK AT MOST 1048576: true; the input reads as it did. -/
def capsMoreUptoRow : OpenClaim := { program := "ytofinmlloefocaa", sum := "6a40ffde4f8b09c9c231681ec6737064277716ffa96d80daab3f65c57e81a53e", func := "cloisonne/cloisonnelaw16.CapsMore", spec := "capsMore", unfollowed := true, recurses := true, apart := false, narrowed := true }
def CapsMoreUptoSaid : Prop := capsMoreUptoRow.holds Try.pinned (OpenSpec.upto capsMoreSpec)

/-- 'cloisonnelaw16.CapsComesOf', WHERE WHAT IT READS IS OF BULK AT MOST 1048576: true; the input reads as it did. -/
def capsComesOfUptoRow : OpenClaim := { program := "ytofinmlloefocaa", sum := "6a40ffde4f8b09c9c231681ec6737064277716ffa96d80daab3f65c57e81a53e", func := "cloisonne/cloisonnelaw16.CapsComesOf", spec := "capsComesOf", unfollowed := true, recurses := true, apart := false, narrowed := true }
def CapsComesOfUptoSaid : Prop := capsComesOfUptoRow.holds Try.pinned (OpenSpec.upto capsComesOfSpec)

/-- 'cloisonnelaw16.CapsPlays', WHERE WHAT IT READS IS OF BULK AT MOST 1048576: true; the input reads as it did. -/
def capsPlaysUptoRow : OpenClaim := { program := "ytofinmlloefocaa", sum := "6a40ffde4f8b09c9c231681ec6737064277716ffa96d80daab3f65c57e81a53e", func := "cloisonne/cloisonnelaw16.CapsPlays", spec := "capsPlays", unfollowed := true, recurses := true, apart := false, narrowed := true }
def CapsPlaysUptoSaid : Prop := capsPlaysUptoRow.holds Try.pinned (OpenSpec.upto capsPlaysSpec)

/-- 'cloisonnelaw16.CapsNil', WHERE WHAT IT READS IS OF BULK AT MOST 1048576: true; the input reads as it did. -/
def capsNilUptoRow : OpenClaim := { program := "ytofinmlloefocaa", sum := "6a40ffde4f8b09c9c231681ec6737064277716ffa96d80daab3f65c57e81a53e", func := "cloisonne/cloisonnelaw16.CapsNil", spec := "capsNil", unfollowed := true, recurses := true, apart := false, narrowed := true }
def CapsNilUptoSaid : Prop := capsNilUptoRow.holds Try.pinned (OpenSpec.upto capsNilSpec)

/-- 'cloisonnelaw16.CapsLoads', WHERE WHAT IT READS IS OF BULK AT MOST 1048576: true; the input reads as it did. -/
def capsLoadsUptoRow : OpenClaim := { program := "ytofinmlloefocaa", sum := "6a40ffde4f8b09c9c231681ec6737064277716ffa96d80daab3f65c57e81a53e", func := "cloisonne/cloisonnelaw16.CapsLoads", spec := "capsLoads", unfollowed := true, recurses := true, apart := false, narrowed := true }
def CapsLoadsUptoSaid : Prop := capsLoadsUptoRow.holds Try.pinned (OpenSpec.upto capsLoadsSpec)

end Rows
end Go.Proofs.Ytofinmlloefocaa
