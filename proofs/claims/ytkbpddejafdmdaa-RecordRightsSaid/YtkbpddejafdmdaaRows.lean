/-
  No cell of these rows narrows 'for every input' (looked for: loops, veiled, ifaces, maps, wideKeys, modest, calm, conditions, laid).
  DERIVED. THE GIVEN ROWS OF THIS SEAT. 4 by the template 'for every input the law returns true; each argument reads behind the call as it read before'; 0 by the template 'total and deterministic' (their statements: YtkbpddejafdmdaaTotals.lean).
  GIVEN WITH THE SEED: the statements are not yours to turn. If you find one false, say at which input.
  Laid BY PROGRAM, IN A SANDBOX (cutbox-rows.mjs): the forced cells as the released guide's own fill.sh prints them over the translation a1767913a5373e6d… (all of the seat's roots in one cut). By AI agents, Wed Nov 11 2026. No macro, syntax, notation, axiom, sorry.
-/
import Derived.Test.YtkbpddejafdmdaaChecked
import GoSem.Claim
import GoSem.ClaimJoined
import GoSem.ClaimMapViews
import Derived.JoinedTies
import Derived.KernelRfl
namespace Go.Proofs.Ytkbpddejafdmdaa
/- THE CELL 'sum', in the pinned program and in every row, IS THE sha256 OF THE DUMP (.gsa) THAT YtkbpddejafdmdaaProg.lean LOADS. Nothing in Lean hashes anything: it is a label: what it is worth is what the hold of that sum in a sandbox is worth. -/
noncomputable def Try.pinned : Pinned := { name := "ytkbpddejafdmdaa", sum := "a1767913a5373e6db3a685481e33eacdff31e1255be494a6b7b8049f0c0232d0", checked := Try.checked }
namespace Rows
def none {H : Type} : Left H := { results := [], args := [] }

/-- 'cloisonnelaw17.RecordDeeds': WHATEVER THE INPUT: true; the input reads as it did. -/
def recordDeedsSpec : ChangeSpec := { name := "recordDeeds", fn := fun _ => fun
  | [d] => { results := [.lit (.bool true)], args := [d] }
  | _ => none }
def recordDeedsRow : OpenClaim := { program := "ytkbpddejafdmdaa", sum := "a1767913a5373e6db3a685481e33eacdff31e1255be494a6b7b8049f0c0232d0", func := "cloisonne/cloisonnelaw17.RecordDeeds", spec := "recordDeeds", inPlace := ["math.Float64frombits", "math.Float64bits", "internal/bytealg.IndexByteString"], unfollowed := true, recurses := true, apart := false }
def RecordDeedsSaid : Prop := recordDeedsRow.holds Try.pinned (OpenSpec.ofChange recordDeedsSpec)

/-- ITS FALSE NEIGHBOUR: 'it returns false'. Refute it at one input. -/
def recordDeedsWrong : ChangeSpec := { name := "recordDeeds", fn := fun _ => fun
  | [d] => { results := [.lit (.bool false)], args := [d] }
  | _ => none }
def RecordDeedsWrongFalsely : Prop := recordDeedsRow.holds Try.pinned (OpenSpec.ofChange recordDeedsWrong)

/-- 'cloisonnelaw17.RecordBases': WHATEVER THE INPUT: true; the input reads as it did. -/
def recordBasesSpec : ChangeSpec := { name := "recordBases", fn := fun _ => fun
  | [d1, d2] => { results := [.lit (.bool true)], args := [d1, d2] }
  | _ => none }
def recordBasesRow : OpenClaim := { program := "ytkbpddejafdmdaa", sum := "a1767913a5373e6db3a685481e33eacdff31e1255be494a6b7b8049f0c0232d0", func := "cloisonne/cloisonnelaw17.RecordBases", spec := "recordBases", inPlace := ["math.Float64frombits", "math.Float64bits", "internal/bytealg.IndexByteString"], unfollowed := true, recurses := true, apart := false }
def RecordBasesSaid : Prop := recordBasesRow.holds Try.pinned (OpenSpec.ofChange recordBasesSpec)

/-- ITS FALSE NEIGHBOUR: 'it returns false'. Refute it at one input. -/
def recordBasesWrong : ChangeSpec := { name := "recordBases", fn := fun _ => fun
  | [d1, d2] => { results := [.lit (.bool false)], args := [d1, d2] }
  | _ => none }
def RecordBasesWrongFalsely : Prop := recordBasesRow.holds Try.pinned (OpenSpec.ofChange recordBasesWrong)

/-- 'cloisonnelaw17.RecordCommits': WHATEVER THE INPUT: true; the input reads as it did. -/
def recordCommitsSpec : ChangeSpec := { name := "recordCommits", fn := fun _ => fun
  | [d1, d2] => { results := [.lit (.bool true)], args := [d1, d2] }
  | _ => none }
def recordCommitsRow : OpenClaim := { program := "ytkbpddejafdmdaa", sum := "a1767913a5373e6db3a685481e33eacdff31e1255be494a6b7b8049f0c0232d0", func := "cloisonne/cloisonnelaw17.RecordCommits", spec := "recordCommits", inPlace := ["math.Float64frombits", "math.Float64bits", "internal/bytealg.IndexByteString"], unfollowed := true, recurses := true, apart := false }
def RecordCommitsSaid : Prop := recordCommitsRow.holds Try.pinned (OpenSpec.ofChange recordCommitsSpec)

/-- ITS FALSE NEIGHBOUR: 'it returns false'. Refute it at one input. -/
def recordCommitsWrong : ChangeSpec := { name := "recordCommits", fn := fun _ => fun
  | [d1, d2] => { results := [.lit (.bool false)], args := [d1, d2] }
  | _ => none }
def RecordCommitsWrongFalsely : Prop := recordCommitsRow.holds Try.pinned (OpenSpec.ofChange recordCommitsWrong)

/-- 'cloisonnelaw17.RecordRights': WHATEVER THE INPUT: true; the input reads as it did. -/
def recordRightsSpec : ChangeSpec := { name := "recordRights", fn := fun _ => fun
  | [d1, d2] => { results := [.lit (.bool true)], args := [d1, d2] }
  | _ => none }
def recordRightsRow : OpenClaim := { program := "ytkbpddejafdmdaa", sum := "a1767913a5373e6db3a685481e33eacdff31e1255be494a6b7b8049f0c0232d0", func := "cloisonne/cloisonnelaw17.RecordRights", spec := "recordRights", inPlace := ["math.Float64frombits", "math.Float64bits", "internal/bytealg.IndexByteString"], unfollowed := true, recurses := true, apart := false }
def RecordRightsSaid : Prop := recordRightsRow.holds Try.pinned (OpenSpec.ofChange recordRightsSpec)

/-- ITS FALSE NEIGHBOUR: 'it returns false'. Refute it at one input. -/
def recordRightsWrong : ChangeSpec := { name := "recordRights", fn := fun _ => fun
  | [d1, d2] => { results := [.lit (.bool false)], args := [d1, d2] }
  | _ => none }
def RecordRightsWrongFalsely : Prop := recordRightsRow.holds Try.pinned (OpenSpec.ofChange recordRightsWrong)

/- THE SECOND FORM. 'bulk': how many values and letters a reading holds, each counted each time it is reached (what is shared counts as often as it is met; a slice's spare places count too). A statement '..UptoSaid' is the law's where the arguments, and the package variables that the reading takes, are together of bulk at most 1048576: NARROWER than '..Said'. Prove '..Said' where nothing that the law and all that it calls make is longer than what came in: it says more and counts as full. Else prove '..UptoSaid'. A law counts once. -/
mutual
def uptoBulk {H : Type} : DataW H → Nat
  | .lit (.string bytes) => bytes.length + 1
  | .lit _ => 1
  | .nil => 1
  | .ptr d => uptoBulk d + 1
  | .slice elems spare => uptoBulkAll elems + uptoBulkAll spare + 1
  | .agg parts => uptoBulkAll parts + 1
  | .iface _ d => uptoBulk d + 1
  | .map entries => uptoBulkEntries entries + 1
  | .held _ => 1
def uptoBulkAll {H : Type} : List (DataW H) → Nat
  | [] => 0
  | d :: r => uptoBulk d + uptoBulkAll r
def uptoBulkEntries {H : Type} : List (Lit × DataW H) → Nat
  | [] => 0
  | x :: r => uptoBulkEntry x + uptoBulkEntries r
def uptoBulkEntry {H : Type} : Lit × DataW H → Nat
  | (.string bytes, d) => bytes.length + uptoBulk d + 1
  | (_, d) => uptoBulk d + 1
 end
def uptoSmall : (H : Type) → List (DataW H) → Bool := fun _ ds => decide (uptoBulkAll ds ≤ 1048576)
def OpenSpec.upto (s : _root_.Go.ChangeSpec) : _root_.Go.OpenSpec := { _root_.Go.OpenSpec.ofChange s with cond := some uptoSmall }

/-- 'cloisonnelaw17.RecordDeeds', WHERE WHAT IT READS IS OF BULK AT MOST 1048576: true; the input reads as it did. -/
def recordDeedsUptoRow : OpenClaim := { program := "ytkbpddejafdmdaa", sum := "a1767913a5373e6db3a685481e33eacdff31e1255be494a6b7b8049f0c0232d0", func := "cloisonne/cloisonnelaw17.RecordDeeds", spec := "recordDeeds", inPlace := ["math.Float64frombits", "math.Float64bits", "internal/bytealg.IndexByteString"], unfollowed := true, recurses := true, apart := false, narrowed := true }
def RecordDeedsUptoSaid : Prop := recordDeedsUptoRow.holds Try.pinned (OpenSpec.upto recordDeedsSpec)

/-- 'cloisonnelaw17.RecordBases', WHERE WHAT IT READS IS OF BULK AT MOST 1048576: true; the input reads as it did. -/
def recordBasesUptoRow : OpenClaim := { program := "ytkbpddejafdmdaa", sum := "a1767913a5373e6db3a685481e33eacdff31e1255be494a6b7b8049f0c0232d0", func := "cloisonne/cloisonnelaw17.RecordBases", spec := "recordBases", inPlace := ["math.Float64frombits", "math.Float64bits", "internal/bytealg.IndexByteString"], unfollowed := true, recurses := true, apart := false, narrowed := true }
def RecordBasesUptoSaid : Prop := recordBasesUptoRow.holds Try.pinned (OpenSpec.upto recordBasesSpec)

/-- 'cloisonnelaw17.RecordCommits', WHERE WHAT IT READS IS OF BULK AT MOST 1048576: true; the input reads as it did. -/
def recordCommitsUptoRow : OpenClaim := { program := "ytkbpddejafdmdaa", sum := "a1767913a5373e6db3a685481e33eacdff31e1255be494a6b7b8049f0c0232d0", func := "cloisonne/cloisonnelaw17.RecordCommits", spec := "recordCommits", inPlace := ["math.Float64frombits", "math.Float64bits", "internal/bytealg.IndexByteString"], unfollowed := true, recurses := true, apart := false, narrowed := true }
def RecordCommitsUptoSaid : Prop := recordCommitsUptoRow.holds Try.pinned (OpenSpec.upto recordCommitsSpec)

/-- 'cloisonnelaw17.RecordRights', WHERE WHAT IT READS IS OF BULK AT MOST 1048576: true; the input reads as it did. -/
def recordRightsUptoRow : OpenClaim := { program := "ytkbpddejafdmdaa", sum := "a1767913a5373e6db3a685481e33eacdff31e1255be494a6b7b8049f0c0232d0", func := "cloisonne/cloisonnelaw17.RecordRights", spec := "recordRights", inPlace := ["math.Float64frombits", "math.Float64bits", "internal/bytealg.IndexByteString"], unfollowed := true, recurses := true, apart := false, narrowed := true }
def RecordRightsUptoSaid : Prop := recordRightsUptoRow.holds Try.pinned (OpenSpec.upto recordRightsSpec)

end Rows
end Go.Proofs.Ytkbpddejafdmdaa
