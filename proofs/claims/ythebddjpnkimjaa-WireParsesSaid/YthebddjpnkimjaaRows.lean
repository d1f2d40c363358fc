/-
  NARROWER THAN 'FOR EVERY INPUT', by the rows' own cells (each row's printed sentence says how): WireSame: loops · WireApart: loops · WirePrints: loops.
  DERIVED. THE GIVEN ROWS OF THIS SEAT. 4 by the template 'for every input the law returns true; each argument reads behind the call as it read before'; 0 by the template 'total and deterministic' (their statements: YthebddjpnkimjaaTotals.lean).
  GIVEN WITH THE SEED: the statements are not yours to turn. If you find one false, say at which input.
  Laid BY PROGRAM, IN A SANDBOX (cutbox-rows.mjs): the forced cells as the released guide's own fill.sh prints them over the translation 7300b5bed5cacadc… (all of the seat's roots in one cut). By AI agents, Wed Nov 11 2026. No macro, syntax, notation, axiom, sorry.
-/
import Derived.Test.YthebddjpnkimjaaChecked
import GoSem.Claim
import GoSem.ClaimJoined
import GoSem.ClaimMapViews
import Derived.JoinedTies
import Derived.KernelRfl
namespace Go.Proofs.Ythebddjpnkimjaa
/- THE CELL 'sum', in the pinned program and in every row, IS THE sha256 OF THE DUMP (.gsa) THAT YthebddjpnkimjaaProg.lean LOADS. Nothing in Lean hashes anything: it is a label: what it is worth is what the hold of that sum in a sandbox is worth. -/
noncomputable def Try.pinned : Pinned := { name := "ythebddjpnkimjaa", sum := "7300b5bed5cacadcf5d7457437b0c60bd4e791751f5ea8134c62f243c4bd3356", checked := Try.checked }
namespace Rows
def none {H : Type} : Left H := { results := [], args := [] }

/-- 'cloisonnelaw03.WireSame': WHATEVER THE INPUT: true; the input reads as it did. -/
def wireSameSpec : ChangeSpec := { name := "wireSame", fn := fun _ => fun
  | [d1, d2, d3] => { results := [.lit (.bool true)], args := [d1, d2, d3] }
  | _ => none }
def wireSameRow : OpenClaim := { program := "ythebddjpnkimjaa", sum := "7300b5bed5cacadcf5d7457437b0c60bd4e791751f5ea8134c62f243c4bd3356", func := "cloisonne/cloisonnelaw03.WireSame", spec := "wireSame", inPlace := ["internal/bytealg.IndexByteString", "math.Float64frombits", "math.Float64bits"], unfollowed := true, recurses := true, loops := true, apart := false }
def WireSameSaid : Prop := wireSameRow.holds Try.pinned (OpenSpec.ofChange wireSameSpec)

/-- ITS FALSE NEIGHBOUR: 'it returns false'. Refute it at one input. -/
def wireSameWrong : ChangeSpec := { name := "wireSame", fn := fun _ => fun
  | [d1, d2, d3] => { results := [.lit (.bool false)], args := [d1, d2, d3] }
  | _ => none }
def WireSameWrongFalsely : Prop := wireSameRow.holds Try.pinned (OpenSpec.ofChange wireSameWrong)

/-- 'cloisonnelaw03.WireParses': WHATEVER THE INPUT: true; the input reads as it did. -/
def wireParsesSpec : ChangeSpec := { name := "wireParses", fn := fun _ => fun
  | [d1, d2] => { results := [.lit (.bool true)], args := [d1, d2] }
  | _ => none }
def wireParsesRow : OpenClaim := { program := "ythebddjpnkimjaa", sum := "7300b5bed5cacadcf5d7457437b0c60bd4e791751f5ea8134c62f243c4bd3356", func := "cloisonne/cloisonnelaw03.WireParses", spec := "wireParses", inPlace := ["internal/bytealg.IndexByteString", "math.Float64frombits", "math.Float64bits"], unfollowed := true, recurses := true, apart := false }
def WireParsesSaid : Prop := wireParsesRow.holds Try.pinned (OpenSpec.ofChange wireParsesSpec)

/-- ITS FALSE NEIGHBOUR: 'it returns false'. Refute it at one input. -/
def wireParsesWrong : ChangeSpec := { name := "wireParses", fn := fun _ => fun
  | [d1, d2] => { results := [.lit (.bool false)], args := [d1, d2] }
  | _ => none }
def WireParsesWrongFalsely : Prop := wireParsesRow.holds Try.pinned (OpenSpec.ofChange wireParsesWrong)

/-- 'cloisonnelaw03.WireApart': WHATEVER THE INPUT: true; the input reads as it did. -/
def wireApartSpec : ChangeSpec := { name := "wireApart", fn := fun _ => fun
  | [d1, d2, d3] => { results := [.lit (.bool true)], args := [d1, d2, d3] }
  | _ => none }
def wireApartRow : OpenClaim := { program := "ythebddjpnkimjaa", sum := "7300b5bed5cacadcf5d7457437b0c60bd4e791751f5ea8134c62f243c4bd3356", func := "cloisonne/cloisonnelaw03.WireApart", spec := "wireApart", inPlace := ["internal/bytealg.IndexByteString", "math.Float64frombits", "math.Float64bits"], unfollowed := true, recurses := true, loops := true, apart := false }
def WireApartSaid : Prop := wireApartRow.holds Try.pinned (OpenSpec.ofChange wireApartSpec)

/-- ITS FALSE NEIGHBOUR: 'it returns false'. Refute it at one input. -/
def wireApartWrong : ChangeSpec := { name := "wireApart", fn := fun _ => fun
  | [d1, d2, d3] => { results := [.lit (.bool false)], args := [d1, d2, d3] }
  | _ => none }
def WireApartWrongFalsely : Prop := wireApartRow.holds Try.pinned (OpenSpec.ofChange wireApartWrong)

/-- 'cloisonnelaw03.WirePrints': WHATEVER THE INPUT: true; the input reads as it did. -/
def wirePrintsSpec : ChangeSpec := { name := "wirePrints", fn := fun _ => fun
  | [d1, d2, d3] => { results := [.lit (.bool true)], args := [d1, d2, d3] }
  | _ => none }
def wirePrintsRow : OpenClaim := { program := "ythebddjpnkimjaa", sum := "7300b5bed5cacadcf5d7457437b0c60bd4e791751f5ea8134c62f243c4bd3356", func := "cloisonne/cloisonnelaw03.WirePrints", spec := "wirePrints", inPlace := ["internal/bytealg.IndexByteString", "math.Float64frombits", "math.Float64bits"], unfollowed := true, recurses := true, loops := true, apart := false }
def WirePrintsSaid : Prop := wirePrintsRow.holds Try.pinned (OpenSpec.ofChange wirePrintsSpec)

/-- ITS FALSE NEIGHBOUR: 'it returns false'. Refute it at one input. -/
def wirePrintsWrong : ChangeSpec := { name := "wirePrints", fn := fun _ => fun
  | [d1, d2, d3] => { results := [.lit (.bool false)], args := [d1, d2, d3] }
  | _ => none }
def WirePrintsWrongFalsely : Prop := wirePrintsRow.holds Try.pinned (OpenSpec.ofChange wirePrintsWrong)

/- THE SECOND FORM. 'bulk': how many values and letters a reading holds, each counted each time it is reached (what is shared counts as often as it is met; a slice's spare places count too). A statement '..UptoSaid' is the law's where the arguments, and the package variables that the reading takes, are together of bulk at most 1048576: NARROWER than '..Said'. Prove '..Said' where nothing that the law and all that it calls make is longer than what came in: it says more and counts as full. Else prove '..UptoSaid'. A law counts once. -/
mutual
def uptoBulk {H : Type} : DataW H → Nat
  | .lit (.string bytes) => bytes.length + 1
  | .lit _ => 1
  | .nil => 1
  | .ptr d => uptoBulk d + 1
  | .slice elems spare => uptoBulkAll elems + uptoBulkAll spare + 1
  | .agg parts => uptoBulkAll parts + 1
  | .iface _ d => uptoBulk d + 1
  | .map entries => uptoBulkEntries entries + 1
  | .held _ => 1
def uptoBulkAll {H : Type} : List (DataW H) → Nat
  | [] => 0
  | d :: r => uptoBulk d + uptoBulkAll r
def uptoBulkEntries {H : Type} : List (Lit × DataW H) → Nat
  | [] => 0
  | x :: r => uptoBulkEntry x + uptoBulkEntries r
def uptoBulkEntry {H : Type} : Lit × DataW H → Nat
  | (.string bytes, d) => bytes.length + uptoBulk d + 1
  | (_, d) => uptoBulk d + 1
 end
def uptoSmall : (H : Type) → List (DataW H) → Bool := fun _ ds => decide (uptoBulkAll ds ≤ 1048576)
def OpenSpec.upto (s : _root_.Go.ChangeSpec) : _root_.Go.OpenSpec := { _root_.Go.OpenSpec.ofChange s with cond := some uptoSmall }

/-- 'cloisonnelaw03.WireSame', WHERE WHAT IT READS IS OF BULK AT MOST 1048576: true; the input reads as it did. -/
def wireSameUptoRow : OpenClaim := { program := "ythebddjpnkimjaa", sum := "7300b5bed5cacadcf5d7457437b0c60bd4e791751f5ea8134c62f243c4bd3356", func := "cloisonne/cloisonnelaw03.WireSame", spec := "wireSame", inPlace := ["internal/bytealg.IndexByteString", "math.Float64frombits", "math.Float64bits"], unfollowed := true, recurses := true, loops := true, apart := false, narrowed := true }
def WireSameUptoSaid : Prop := wireSameUptoRow.holds Try.pinned (OpenSpec.upto wireSameSpec)

/-- 'cloisonnelaw03.WireParses', WHERE WHAT IT READS IS OF BULK AT MOST 1048576: true; the input reads as it did. -/
def wireParsesUptoRow : OpenClaim := { program := "ythebddjpnkimjaa", sum := "7300b5bed5cacadcf5d7457437b0c60bd4e791751f5ea8134c62f243c4bd3356", func := "cloisonne/cloisonnelaw03.WireParses", spec := "wireParses", inPlace := ["internal/bytealg.IndexByteString", "math.Float64frombits", "math.Float64bits"], unfollowed := true, recurses := true, apart := false, narrowed := true }
def WireParsesUptoSaid : Prop := wireParsesUptoRow.holds Try.pinned (OpenSpec.upto wireParsesSpec)

/-- 'cloisonnelaw03.WireApart', WHERE WHAT IT READS IS OF BULK AT MOST 1048576: true; the input reads as it did. -/
def wireApartUptoRow : OpenClaim := { program := "ythebddjpnkimjaa", sum := "7300b5bed5cacadcf5d7457437b0c60bd4e791751f5ea8134c62f243c4bd3356", func := "cloisonne/cloisonnelaw03.WireApart", spec := "wireApart", inPlace := ["internal/bytealg.IndexByteString", "math.Float64frombits", "math.Float64bits"], unfollowed := true, recurses := true, loops := true, apart := false, narrowed := true }
def WireApartUptoSaid : Prop := wireApartUptoRow.holds Try.pinned (OpenSpec.upto wireApartSpec)

/-- 'cloisonnelaw03.WirePrints', WHERE WHAT IT READS IS OF BULK AT MOST 1048576: true; the input reads as it did. -/
def wirePrintsUptoRow : OpenClaim := { program := "ythebddjpnkimjaa", sum := "7300b5bed5cacadcf5d7457437b0c60bd4e791751f5ea8134c62f243c4bd3356", func := "cloisonne/cloisonnelaw03.WirePrints", spec := "wirePrints", inPlace := ["internal/bytealg.IndexByteString", "math.Float64frombits", "math.Float64bits"], unfollowed := true, recurses := true, loops := true, apart := false, narrowed := true }
def WirePrintsUptoSaid : Prop := wirePrintsUptoRow.holds Try.pinned (OpenSpec.upto wirePrintsSpec)

end Rows
end Go.Proofs.Ythebddjpnkimjaa
