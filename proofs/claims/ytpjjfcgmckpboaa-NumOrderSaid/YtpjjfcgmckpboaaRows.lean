/-
  No cell of these rows narrows 'for every input' (looked for: loops, veiled, ifaces, maps, wideKeys, modest, calm, conditions, laid).
  DERIVED. THE GIVEN ROWS OF THIS SEAT. 5 by the template 'for every input the law returns true; each argument reads behind the call as it read before'; 0 by the template 'total and deterministic' (their statements: YtpjjfcgmckpboaaTotals.lean).
  GIVEN WITH THE SEED: the statements are not yours to turn. If you find one false, say at which input.
  Laid BY PROGRAM, IN A SANDBOX (cutbox-rows.mjs): the forced cells as the released guide's own fill.sh prints them over the translation fe5231c6a26ea721… (all of the seat's roots in one cut). By AI agents, Wed Nov 11 2026. No macro, syntax, notation, axiom, sorry.
-/
import Derived.Test.YtpjjfcgmckpboaaChecked
import GoSem.Claim
import GoSem.ClaimJoined
import GoSem.ClaimMapViews
import Derived.JoinedTies
import Derived.KernelRfl
namespace Go.Proofs.Ytpjjfcgmckpboaa
/- THE CELL 'sum', in the pinned program and in every row, IS THE sha256 OF THE DUMP (.gsa) THAT YtpjjfcgmckpboaaProg.lean LOADS. Nothing in Lean hashes anything: it is a label: what it is worth is what the hold of that sum in a sandbox is worth. -/
noncomputable def Try.pinned : Pinned := { name := "ytpjjfcgmckpboaa", sum := "fe5231c6a26ea721254654a0c4e70fba1448e9f74719b03567a206e9399fd411", checked := Try.checked }
namespace Rows
def none {H : Type} : Left H := { results := [], args := [] }

/-- 'cloisonnelaw01.NumBits': WHATEVER THE INPUT: true; the input reads as it did. -/
def numBitsSpec : ChangeSpec := { name := "numBits", fn := fun _ => fun
  | [d] => { results := [.lit (.bool true)], args := [d] }
  | _ => none }
def numBitsRow : OpenClaim := { program := "ytpjjfcgmckpboaa", sum := "fe5231c6a26ea721254654a0c4e70fba1448e9f74719b03567a206e9399fd411", func := "cloisonne/cloisonnelaw01.NumBits", spec := "numBits", inPlace := ["math.Float64bits", "math.Float64frombits"], apart := false }
def NumBitsSaid : Prop := numBitsRow.holds Try.pinned (OpenSpec.ofChange numBitsSpec)

/-- ITS FALSE NEIGHBOUR: 'it returns false'. Refute it at one input. -/
def numBitsWrong : ChangeSpec := { name := "numBits", fn := fun _ => fun
  | [d] => { results := [.lit (.bool false)], args := [d] }
  | _ => none }
def NumBitsWrongFalsely : Prop := numBitsRow.holds Try.pinned (OpenSpec.ofChange numBitsWrong)

/-- 'cloisonnelaw01.NumNext': WHATEVER THE INPUT: true; the input reads as it did. -/
def numNextSpec : ChangeSpec := { name := "numNext", fn := fun _ => fun
  | [d1, d2] => { results := [.lit (.bool true)], args := [d1, d2] }
  | _ => none }
def numNextRow : OpenClaim := { program := "ytpjjfcgmckpboaa", sum := "fe5231c6a26ea721254654a0c4e70fba1448e9f74719b03567a206e9399fd411", func := "cloisonne/cloisonnelaw01.NumNext", spec := "numNext", inPlace := ["math.Float64bits", "math.Float64frombits"], apart := false }
def NumNextSaid : Prop := numNextRow.holds Try.pinned (OpenSpec.ofChange numNextSpec)

/-- ITS FALSE NEIGHBOUR: 'it returns false'. Refute it at one input. -/
def numNextWrong : ChangeSpec := { name := "numNext", fn := fun _ => fun
  | [d1, d2] => { results := [.lit (.bool false)], args := [d1, d2] }
  | _ => none }
def NumNextWrongFalsely : Prop := numNextRow.holds Try.pinned (OpenSpec.ofChange numNextWrong)

/-- 'cloisonnelaw01.NumOrder': WHATEVER THE INPUT: true; the input reads as it did. -/
def numOrderSpec : ChangeSpec := { name := "numOrder", fn := fun _ => fun
  | [d1, d2] => { results := [.lit (.bool true)], args := [d1, d2] }
  | _ => none }
def numOrderRow : OpenClaim := { program := "ytpjjfcgmckpboaa", sum := "fe5231c6a26ea721254654a0c4e70fba1448e9f74719b03567a206e9399fd411", func := "cloisonne/cloisonnelaw01.NumOrder", spec := "numOrder", inPlace := ["math.Float64bits", "math.Float64frombits"], apart := false }
def NumOrderSaid : Prop := numOrderRow.holds Try.pinned (OpenSpec.ofChange numOrderSpec)

/-- ITS FALSE NEIGHBOUR: 'it returns false'. Refute it at one input. -/
def numOrderWrong : ChangeSpec := { name := "numOrder", fn := fun _ => fun
  | [d1, d2] => { results := [.lit (.bool false)], args := [d1, d2] }
  | _ => none }
def NumOrderWrongFalsely : Prop := numOrderRow.holds Try.pinned (OpenSpec.ofChange numOrderWrong)

/-- 'cloisonnelaw01.NumKeys': WHATEVER THE INPUT: true; the input reads as it did. -/
def numKeysSpec : ChangeSpec := { name := "numKeys", fn := fun _ => fun
  | [d1, d2] => { results := [.lit (.bool true)], args := [d1, d2] }
  | _ => none }
def numKeysRow : OpenClaim := { program := "ytpjjfcgmckpboaa", sum := "fe5231c6a26ea721254654a0c4e70fba1448e9f74719b03567a206e9399fd411", func := "cloisonne/cloisonnelaw01.NumKeys", spec := "numKeys", inPlace := ["math.Float64bits", "math.Float64frombits"], apart := false }
def NumKeysSaid : Prop := numKeysRow.holds Try.pinned (OpenSpec.ofChange numKeysSpec)

/-- ITS FALSE NEIGHBOUR: 'it returns false'. Refute it at one input. -/
def numKeysWrong : ChangeSpec := { name := "numKeys", fn := fun _ => fun
  | [d1, d2] => { results := [.lit (.bool false)], args := [d1, d2] }
  | _ => none }
def NumKeysWrongFalsely : Prop := numKeysRow.holds Try.pinned (OpenSpec.ofChange numKeysWrong)

/-- 'cloisonnelaw01.NumWhole': WHATEVER THE INPUT: true; the input reads as it did. -/
def numWholeSpec : ChangeSpec := { name := "numWhole", fn := fun _ => fun
  | [d] => { results := [.lit (.bool true)], args := [d] }
  | _ => none }
def numWholeRow : OpenClaim := { program := "ytpjjfcgmckpboaa", sum := "fe5231c6a26ea721254654a0c4e70fba1448e9f74719b03567a206e9399fd411", func := "cloisonne/cloisonnelaw01.NumWhole", spec := "numWhole", inPlace := ["math.Float64bits", "math.Float64frombits", "math.archTrunc"], apart := false }
def NumWholeSaid : Prop := numWholeRow.holds Try.pinned (OpenSpec.ofChange numWholeSpec)

/-- ITS FALSE NEIGHBOUR: 'it returns false'. Refute it at one input. -/
def numWholeWrong : ChangeSpec := { name := "numWhole", fn := fun _ => fun
  | [d] => { results := [.lit (.bool false)], args := [d] }
  | _ => none }
def NumWholeWrongFalsely : Prop := numWholeRow.holds Try.pinned (OpenSpec.ofChange numWholeWrong)

/- THE SECOND FORM. 'bulk': how many values and letters a reading holds, each counted each time it is reached (what is shared counts as often as it is met; a slice's spare places count too). A statement '..UptoSaid' is the law's where the arguments, and the package variables that the reading takes, are together of bulk at most 1048576: NARROWER than '..Said'. Prove '..Said' where nothing that the law and all that it calls make is longer than what came in: it says more and counts as full. Else prove '..UptoSaid'. A law counts once. -/
mutual
def uptoBulk {H : Type} : DataW H → Nat
  | .lit (.string bytes) => bytes.length + 1
  | .lit _ => 1
  | .nil => 1
  | .ptr d => uptoBulk d + 1
  | .slice elems spare => uptoBulkAll elems + uptoBulkAll spare + 1
  | .agg parts => uptoBulkAll parts + 1
  | .iface _ d => uptoBulk d + 1
  | .map entries => uptoBulkEntries entries + 1
  | .held _ => 1
def uptoBulkAll {H : Type} : List (DataW H) → Nat
  | [] => 0
  | d :: r => uptoBulk d + uptoBulkAll r
def uptoBulkEntries {H : Type} : List (Lit × DataW H) → Nat
  | [] => 0
  | x :: r => uptoBulkEntry x + uptoBulkEntries r
def uptoBulkEntry {H : Type} : Lit × DataW H → Nat
  | (.string bytes, d) => bytes.length + uptoBulk d + 1
  | (_, d) => uptoBulk d + 1
 end
def uptoSmall : (H : Type) → List (DataW H) → Bool := fun _ ds => decide (uptoBulkAll ds ≤ 1048576)
def OpenSpec.upto (s : _root_.Go.ChangeSpec) : _root_.Go.OpenSpec := { _root_.Go.OpenSpec.ofChange s with cond := some uptoSmall }

/-- 'cloisonnelaw01.NumBits', WHERE WHAT IT READS IS OF BULK AT MOST 1048576: true; the input reads as it did. -/
def numBitsUptoRow : OpenClaim := { program := "ytpjjfcgmckpboaa", sum := "fe5231c6a26ea721254654a0c4e70fba1448e9f74719b03567a206e9399fd411", func := "cloisonne/cloisonnelaw01.NumBits", spec := "numBits", inPlace := ["math.Float64bits", "math.Float64frombits"], apart := false, narrowed := true }
def NumBitsUptoSaid : Prop := numBitsUptoRow.holds Try.pinned (OpenSpec.upto numBitsSpec)

/-- 'cloisonnelaw01.NumNext', WHERE WHAT IT READS IS OF BULK AT MOST 1048576: true; the input reads as it did. -/
def numNextUptoRow : OpenClaim := { program := "ytpjjfcgmckpboaa", sum := "fe5231c6a26ea721254654a0c4e70fba1448e9f74719b03567a206e9399fd411", func := "cloisonne/cloisonnelaw01.NumNext", spec := "numNext", inPlace := ["math.Float64bits", "math.Float64frombits"], apart := false, narrowed := true }
def NumNextUptoSaid : Prop := numNextUptoRow.holds Try.pinned (OpenSpec.upto numNextSpec)

/-- 'cloisonnelaw01.NumOrder', WHERE WHAT IT READS IS OF BULK AT MOST 1048576: true; the input reads as it did. -/
def numOrderUptoRow : OpenClaim := { program := "ytpjjfcgmckpboaa", sum := "fe5231c6a26ea721254654a0c4e70fba1448e9f74719b03567a206e9399fd411", func := "cloisonne/cloisonnelaw01.NumOrder", spec := "numOrder", inPlace := ["math.Float64bits", "math.Float64frombits"], apart := false, narrowed := true }
def NumOrderUptoSaid : Prop := numOrderUptoRow.holds Try.pinned (OpenSpec.upto numOrderSpec)

/-- 'cloisonnelaw01.NumKeys', WHERE WHAT IT READS IS OF BULK AT MOST 1048576: true; the input reads as it did. -/
def numKeysUptoRow : OpenClaim := { program := "ytpjjfcgmckpboaa", sum := "fe5231c6a26ea721254654a0c4e70fba1448e9f74719b03567a206e9399fd411", func := "cloisonne/cloisonnelaw01.NumKeys", spec := "numKeys", inPlace := ["math.Float64bits", "math.Float64frombits"], apart := false, narrowed := true }
def NumKeysUptoSaid : Prop := numKeysUptoRow.holds Try.pinned (OpenSpec.upto numKeysSpec)

/-- 'cloisonnelaw01.NumWhole', WHERE WHAT IT READS IS OF BULK AT MOST 1048576: true; the input reads as it did. -/
def numWholeUptoRow : OpenClaim := { program := "ytpjjfcgmckpboaa", sum := "fe5231c6a26ea721254654a0c4e70fba1448e9f74719b03567a206e9399fd411", func := "cloisonne/cloisonnelaw01.NumWhole", spec := "numWhole", inPlace := ["math.Float64bits", "math.Float64frombits", "math.archTrunc"], apart := false, narrowed := true }
def NumWholeUptoSaid : Prop := numWholeUptoRow.holds Try.pinned (OpenSpec.upto numWholeSpec)

end Rows
end Go.Proofs.Ytpjjfcgmckpboaa
