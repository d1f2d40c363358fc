/-
  NARROWER THAN 'FOR EVERY INPUT', by the rows' own cells (each row's printed sentence says how): SeglogRaw: laid · SeglogNil: laid · SeglogLasts: laid · SeglogPlays: laid.
  DERIVED. THE GIVEN ROWS OF THIS SEAT. 4 by the template 'for every input the law returns true; each argument reads behind the call as it read before'; 0 by the template 'total and deterministic' (their statements: YthbncljlclcecaaDoorTotals.lean).
  GIVEN WITH THE SEED: the statements are not yours to turn. If you find one false, say at which input.
  Laid BY PROGRAM, IN A SANDBOX (cutbox-rows.mjs): the forced cells as the released guide's own fill.sh prints them over the translation cb62df825cac7dba… (all of the seat's roots in one cut). By AI agents, Wed Nov 11 2026. No macro, syntax, notation, axiom, sorry.
-/
import Derived.Test.YthbncljlclcecaaDoorChecked
import GoSem.PinnedTables
import GoSem.Claim
import GoSem.ClaimJoined
import GoSem.ClaimMapViews
import Derived.JoinedTies
import Derived.KernelRfl
namespace Go.Proofs.YthbncljlclcecaaDoor
/- THE CELL 'sum', in the pinned program and in every row, IS THE sha256 OF THE DUMP (.gsa) THAT YthbncljlclcecaaDoorProg.lean LOADS. Nothing in Lean hashes anything: it is a label: what it is worth is what the hold of that sum in a sandbox is worth. -/
noncomputable def Tryd.pinned : Pinned := { name := "ythbncljlclcecaadoor", sum := "cb62df825cac7dba59bec7d02fc87212f3e8962255b7274bb849aa6ff6afe2b7", checked := Tryd.checked }
namespace Rows
def none {H : Type} : Left H := { results := [], args := [] }

/- WHAT THE LISTED PACKAGE-LEVEL VARIABLES READ AS WHEN THE CALL BEGINS. Each datum BY PROGRAM (the guide's laid-datum.mjs) off the statement by which the dump's own 'gosem.cut.vars' lays the variable. In a bare row this is a premise. The card (YthbncljlclcecaaDoorCards.lean) ties it to the program's text. -/
def laid_unicode_utf8_acceptRanges {H : Type} : DataW H := .agg [.agg [.lit (.int .u8 128), .lit (.int .u8 191)], .agg [.lit (.int .u8 160), .lit (.int .u8 191)], .agg [.lit (.int .u8 128), .lit (.int .u8 159)], .agg [.lit (.int .u8 144), .lit (.int .u8 191)], .agg [.lit (.int .u8 128), .lit (.int .u8 143)], .agg [.lit (.int .u8 0), .lit (.int .u8 0)], .agg [.lit (.int .u8 0), .lit (.int .u8 0)], .agg [.lit (.int .u8 0), .lit (.int .u8 0)], .agg [.lit (.int .u8 0), .lit (.int .u8 0)], .agg [.lit (.int .u8 0), .lit (.int .u8 0)], .agg [.lit (.int .u8 0), .lit (.int .u8 0)], .agg [.lit (.int .u8 0), .lit (.int .u8 0)], .agg [.lit (.int .u8 0), .lit (.int .u8 0)], .agg [.lit (.int .u8 0), .lit (.int .u8 0)], .agg [.lit (.int .u8 0), .lit (.int .u8 0)], .agg [.lit (.int .u8 0), .lit (.int .u8 0)]]
/-- One of Go's own tables, pinned by name: the form's constant. -/
def laid_unicode_utf8_first : DataW Unit := Go.Pinned.utf8First

/-- 'cloisonnelaw07.SeglogRaw': WHATEVER THE INPUT: true; the input reads as it did. -/
def seglogRawSpec : ChangeSpec := { name := "seglogRaw", fn := fun _ => fun
  | [d1, d2] => { results := [.lit (.bool true)], args := [d1, d2] }
  | _ => none }
def seglogRawRow : OpenClaim := { program := "ythbncljlclcecaadoor", sum := "cb62df825cac7dba59bec7d02fc87212f3e8962255b7274bb849aa6ff6afe2b7", func := "cloisonne/cloisonnelaw07.SeglogRaw", spec := "seglogRaw", inPlace := ["internal/bytealg.IndexByteString", "internal/bytealg.IndexString", "internal/abi.NoEscape"], named := ["unicode/utf8.first", "unicode/utf8.acceptRanges", "internal/bytealg.MaxLen"], apart := false, laid := [("unicode/utf8.acceptRanges", laid_unicode_utf8_acceptRanges), ("unicode/utf8.first", laid_unicode_utf8_first)] }
def SeglogRawSaid : Prop := seglogRawRow.holds Tryd.pinned (OpenSpec.ofChange seglogRawSpec)

/-- ITS FALSE NEIGHBOUR: 'it returns false'. Refute it at one input. -/
def seglogRawWrong : ChangeSpec := { name := "seglogRaw", fn := fun _ => fun
  | [d1, d2] => { results := [.lit (.bool false)], args := [d1, d2] }
  | _ => none }
def SeglogRawWrongFalsely : Prop := seglogRawRow.holds Tryd.pinned (OpenSpec.ofChange seglogRawWrong)

/-- 'cloisonnelaw07.SeglogNil': WHATEVER THE INPUT: true; the input reads as it did. -/
def seglogNilSpec : ChangeSpec := { name := "seglogNil", fn := fun _ => fun
  | [d1, d2] => { results := [.lit (.bool true)], args := [d1, d2] }
  | _ => none }
def seglogNilRow : OpenClaim := { program := "ythbncljlclcecaadoor", sum := "cb62df825cac7dba59bec7d02fc87212f3e8962255b7274bb849aa6ff6afe2b7", func := "cloisonne/cloisonnelaw07.SeglogNil", spec := "seglogNil", inPlace := ["internal/bytealg.IndexByteString", "internal/bytealg.IndexString", "internal/abi.NoEscape"], named := ["unicode/utf8.first", "unicode/utf8.acceptRanges", "internal/bytealg.MaxLen"], apart := false, laid := [("unicode/utf8.acceptRanges", laid_unicode_utf8_acceptRanges), ("unicode/utf8.first", laid_unicode_utf8_first)] }
def SeglogNilSaid : Prop := seglogNilRow.holds Tryd.pinned (OpenSpec.ofChange seglogNilSpec)

/-- ITS FALSE NEIGHBOUR: 'it returns false'. Refute it at one input. -/
def seglogNilWrong : ChangeSpec := { name := "seglogNil", fn := fun _ => fun
  | [d1, d2] => { results := [.lit (.bool false)], args := [d1, d2] }
  | _ => none }
def SeglogNilWrongFalsely : Prop := seglogNilRow.holds Tryd.pinned (OpenSpec.ofChange seglogNilWrong)

/-- 'cloisonnelaw07.SeglogLasts': WHATEVER THE INPUT: true; the input reads as it did. -/
def seglogLastsSpec : ChangeSpec := { name := "seglogLasts", fn := fun _ => fun
  | [d1, d2] => { results := [.lit (.bool true)], args := [d1, d2] }
  | _ => none }
def seglogLastsRow : OpenClaim := { program := "ythbncljlclcecaadoor", sum := "cb62df825cac7dba59bec7d02fc87212f3e8962255b7274bb849aa6ff6afe2b7", func := "cloisonne/cloisonnelaw07.SeglogLasts", spec := "seglogLasts", inPlace := ["internal/bytealg.IndexByteString", "internal/bytealg.IndexString", "internal/abi.NoEscape"], named := ["unicode/utf8.first", "unicode/utf8.acceptRanges", "internal/bytealg.MaxLen"], apart := false, laid := [("unicode/utf8.acceptRanges", laid_unicode_utf8_acceptRanges), ("unicode/utf8.first", laid_unicode_utf8_first)] }
def SeglogLastsSaid : Prop := seglogLastsRow.holds Tryd.pinned (OpenSpec.ofChange seglogLastsSpec)

/-- ITS FALSE NEIGHBOUR: 'it returns false'. Refute it at one input. -/
def seglogLastsWrong : ChangeSpec := { name := "seglogLasts", fn := fun _ => fun
  | [d1, d2] => { results := [.lit (.bool false)], args := [d1, d2] }
  | _ => none }
def SeglogLastsWrongFalsely : Prop := seglogLastsRow.holds Tryd.pinned (OpenSpec.ofChange seglogLastsWrong)

/-- 'cloisonnelaw07.SeglogPlays': WHATEVER THE INPUT: true; the input reads as it did. -/
def seglogPlaysSpec : ChangeSpec := { name := "seglogPlays", fn := fun _ => fun
  | [d1, d2] => { results := [.lit (.bool true)], args := [d1, d2] }
  | _ => none }
def seglogPlaysRow : OpenClaim := { program := "ythbncljlclcecaadoor", sum := "cb62df825cac7dba59bec7d02fc87212f3e8962255b7274bb849aa6ff6afe2b7", func := "cloisonne/cloisonnelaw07.SeglogPlays", spec := "seglogPlays", inPlace := ["internal/bytealg.IndexByteString", "internal/bytealg.IndexString", "internal/abi.NoEscape"], named := ["unicode/utf8.first", "unicode/utf8.acceptRanges", "internal/bytealg.MaxLen"], apart := false, laid := [("unicode/utf8.acceptRanges", laid_unicode_utf8_acceptRanges), ("unicode/utf8.first", laid_unicode_utf8_first)] }
def SeglogPlaysSaid : Prop := seglogPlaysRow.holds Tryd.pinned (OpenSpec.ofChange seglogPlaysSpec)

/-- ITS FALSE NEIGHBOUR: 'it returns false'. Refute it at one input. -/
def seglogPlaysWrong : ChangeSpec := { name := "seglogPlays", fn := fun _ => fun
  | [d1, d2] => { results := [.lit (.bool false)], args := [d1, d2] }
  | _ => none }
def SeglogPlaysWrongFalsely : Prop := seglogPlaysRow.holds Tryd.pinned (OpenSpec.ofChange seglogPlaysWrong)

/- THE SECOND FORM. 'bulk': how many values and letters a reading holds, each counted each time it is reached (what is shared counts as often as it is met; a slice's spare places count too). A statement '..UptoSaid' is the law's where the arguments, and the package variables that the reading takes, are together of bulk at most 1048576: NARROWER than '..Said'. Prove '..Said' where nothing that the law and all that it calls make is longer than what came in: it says more and counts as full. Else prove '..UptoSaid'. A law counts once. -/
mutual
def uptoBulk {H : Type} : DataW H → Nat
  | .lit (.string bytes) => bytes.length + 1
  | .lit _ => 1
  | .nil => 1
  | .ptr d => uptoBulk d + 1
  | .slice elems spare => uptoBulkAll elems + uptoBulkAll spare + 1
  | .agg parts => uptoBulkAll parts + 1
  | .iface _ d => uptoBulk d + 1
  | .map entries => uptoBulkEntries entries + 1
  | .held _ => 1
def uptoBulkAll {H : Type} : List (DataW H) → Nat
  | [] => 0
  | d :: r => uptoBulk d + uptoBulkAll r
def uptoBulkEntries {H : Type} : List (Lit × DataW H) → Nat
  | [] => 0
  | x :: r => uptoBulkEntry x + uptoBulkEntries r
def uptoBulkEntry {H : Type} : Lit × DataW H → Nat
  | (.string bytes, d) => bytes.length + uptoBulk d + 1
  | (_, d) => uptoBulk d + 1
 end
def uptoSmall : (H : Type) → List (DataW H) → Bool := fun _ ds => decide (uptoBulkAll ds ≤ 1048576)
def OpenSpec.upto (s : _root_.Go.ChangeSpec) : _root_.Go.OpenSpec := { _root_.Go.OpenSpec.ofChange s with cond := some uptoSmall }

/-- 'cloisonnelaw07.SeglogRaw', WHERE WHAT IT READS IS OF BULK AT MOST 1048576: true; the input reads as it did. -/
def seglogRawUptoRow : OpenClaim := { program := "ythbncljlclcecaadoor", sum := "cb62df825cac7dba59bec7d02fc87212f3e8962255b7274bb849aa6ff6afe2b7", func := "cloisonne/cloisonnelaw07.SeglogRaw", spec := "seglogRaw", inPlace := ["internal/bytealg.IndexByteString", "internal/bytealg.IndexString", "internal/abi.NoEscape"], named := ["unicode/utf8.first", "unicode/utf8.acceptRanges", "internal/bytealg.MaxLen"], apart := false, laid := [("unicode/utf8.acceptRanges", laid_unicode_utf8_acceptRanges), ("unicode/utf8.first", laid_unicode_utf8_first)], narrowed := true }
def SeglogRawUptoSaid : Prop := seglogRawUptoRow.holds Tryd.pinned (OpenSpec.upto seglogRawSpec)

/-- 'cloisonnelaw07.SeglogNil', WHERE WHAT IT READS IS OF BULK AT MOST 1048576: true; the input reads as it did. -/
def seglogNilUptoRow : OpenClaim := { program := "ythbncljlclcecaadoor", sum := "cb62df825cac7dba59bec7d02fc87212f3e8962255b7274bb849aa6ff6afe2b7", func := "cloisonne/cloisonnelaw07.SeglogNil", spec := "seglogNil", inPlace := ["internal/bytealg.IndexByteString", "internal/bytealg.IndexString", "internal/abi.NoEscape"], named := ["unicode/utf8.first", "unicode/utf8.acceptRanges", "internal/bytealg.MaxLen"], apart := false, laid := [("unicode/utf8.acceptRanges", laid_unicode_utf8_acceptRanges), ("unicode/utf8.first", laid_unicode_utf8_first)], narrowed := true }
def SeglogNilUptoSaid : Prop := seglogNilUptoRow.holds Tryd.pinned (OpenSpec.upto seglogNilSpec)

/-- 'cloisonnelaw07.SeglogLasts', WHERE WHAT IT READS IS OF BULK AT MOST 1048576: true; the input reads as it did. -/
def seglogLastsUptoRow : OpenClaim := { program := "ythbncljlclcecaadoor", sum := "cb62df825cac7dba59bec7d02fc87212f3e8962255b7274bb849aa6ff6afe2b7", func := "cloisonne/cloisonnelaw07.SeglogLasts", spec := "seglogLasts", inPlace := ["internal/bytealg.IndexByteString", "internal/bytealg.IndexString", "internal/abi.NoEscape"], named := ["unicode/utf8.first", "unicode/utf8.acceptRanges", "internal/bytealg.MaxLen"], apart := false, laid := [("unicode/utf8.acceptRanges", laid_unicode_utf8_acceptRanges), ("unicode/utf8.first", laid_unicode_utf8_first)], narrowed := true }
def SeglogLastsUptoSaid : Prop := seglogLastsUptoRow.holds Tryd.pinned (OpenSpec.upto seglogLastsSpec)

/-- 'cloisonnelaw07.SeglogPlays', WHERE WHAT IT READS IS OF BULK AT MOST 1048576: true; the input reads as it did. -/
def seglogPlaysUptoRow : OpenClaim := { program := "ythbncljlclcecaadoor", sum := "cb62df825cac7dba59bec7d02fc87212f3e8962255b7274bb849aa6ff6afe2b7", func := "cloisonne/cloisonnelaw07.SeglogPlays", spec := "seglogPlays", inPlace := ["internal/bytealg.IndexByteString", "internal/bytealg.IndexString", "internal/abi.NoEscape"], named := ["unicode/utf8.first", "unicode/utf8.acceptRanges", "internal/bytealg.MaxLen"], apart := false, laid := [("unicode/utf8.acceptRanges", laid_unicode_utf8_acceptRanges), ("unicode/utf8.first", laid_unicode_utf8_first)], narrowed := true }
def SeglogPlaysUptoSaid : Prop := seglogPlaysUptoRow.holds Tryd.pinned (OpenSpec.upto seglogPlaysSpec)

end Rows
end Go.Proofs.YthbncljlclcecaaDoor
