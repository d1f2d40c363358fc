/-
  DERIVED. GIVEN WITH THE SEED: THE CARDS: each row of YthbncljlclcecaaDoorRows.lean that lists a variable, with what it lists TIED to the program's text (the seventh form; the later family's looks); each row that meets fmt, with fmt's text TOLD by the authors' own Lean function (tested against real Go, not proved from fmt's source: count such statements apart). THE CARD IS WHAT COUNTS. Prove the row's statement (the work); the ties are given (YthbncljlclcecaaDoorTie.lean); close each card by the builder's one call (the guide's Derived/Test/ToyasCard.lean, 'card_holds'). Laid BY PROGRAM, IN A SANDBOX (cutbox-door.mjs). By AI agents, Wed Nov 11 2026. No macro, syntax, notation, axiom, sorry.
-/
import Derived.Test.YthbncljlclcecaaDoorRows
import GoSem.ClaimSeven
namespace Go.Proofs.YthbncljlclcecaaDoor
namespace Rows

/-- THE TIED CARD OF 'cloisonnelaw07.SeglogRaw'. -/
def seglogRawCard : Claim7 := { stood := { row := seglogRawRow, standIns := [], harness := (true, "758c9e8af3632702c01035eb83216b53bdbd3d0c585d61c4bacf10282ead88dc"), looks := false }, kinds := [], alts := [], laidByText := true, laidKinds := [.data, .pinned], laidTests := true, laidLooks := .later }
def SeglogRawCardSaid : Prop := Claim7.holds Tryd.pinned (.plain (OpenSpec.ofChange seglogRawSpec)) seglogRawCard

/-- THE TIED CARD OF 'cloisonnelaw07.SeglogNil'. -/
def seglogNilCard : Claim7 := { stood := { row := seglogNilRow, standIns := [], harness := (true, "758c9e8af3632702c01035eb83216b53bdbd3d0c585d61c4bacf10282ead88dc"), looks := false }, kinds := [], alts := [], laidByText := true, laidKinds := [.data, .pinned], laidTests := true, laidLooks := .later }
def SeglogNilCardSaid : Prop := Claim7.holds Tryd.pinned (.plain (OpenSpec.ofChange seglogNilSpec)) seglogNilCard

/-- THE TIED CARD OF 'cloisonnelaw07.SeglogLasts'. -/
def seglogLastsCard : Claim7 := { stood := { row := seglogLastsRow, standIns := [], harness := (true, "758c9e8af3632702c01035eb83216b53bdbd3d0c585d61c4bacf10282ead88dc"), looks := false }, kinds := [], alts := [], laidByText := true, laidKinds := [.data, .pinned], laidTests := true, laidLooks := .later }
def SeglogLastsCardSaid : Prop := Claim7.holds Tryd.pinned (.plain (OpenSpec.ofChange seglogLastsSpec)) seglogLastsCard

/-- THE TIED CARD OF 'cloisonnelaw07.SeglogPlays'. -/
def seglogPlaysCard : Claim7 := { stood := { row := seglogPlaysRow, standIns := [], harness := (true, "758c9e8af3632702c01035eb83216b53bdbd3d0c585d61c4bacf10282ead88dc"), looks := false }, kinds := [], alts := [], laidByText := true, laidKinds := [.data, .pinned], laidTests := true, laidLooks := .later }
def SeglogPlaysCardSaid : Prop := Claim7.holds Tryd.pinned (.plain (OpenSpec.ofChange seglogPlaysSpec)) seglogPlaysCard

/-- THE SECOND FORM's CARD OF 'cloisonnelaw07.SeglogRaw'. -/
def seglogRawUptoCard : Claim7 := { stood := { row := seglogRawUptoRow, standIns := [], harness := (true, "758c9e8af3632702c01035eb83216b53bdbd3d0c585d61c4bacf10282ead88dc"), looks := false }, kinds := [], alts := [], laidByText := true, laidKinds := [.data, .pinned], laidTests := true, laidLooks := .later }
def SeglogRawUptoCardSaid : Prop := Claim7.holds Tryd.pinned (.plain (OpenSpec.upto seglogRawSpec)) seglogRawUptoCard

/-- THE SECOND FORM's CARD OF 'cloisonnelaw07.SeglogNil'. -/
def seglogNilUptoCard : Claim7 := { stood := { row := seglogNilUptoRow, standIns := [], harness := (true, "758c9e8af3632702c01035eb83216b53bdbd3d0c585d61c4bacf10282ead88dc"), looks := false }, kinds := [], alts := [], laidByText := true, laidKinds := [.data, .pinned], laidTests := true, laidLooks := .later }
def SeglogNilUptoCardSaid : Prop := Claim7.holds Tryd.pinned (.plain (OpenSpec.upto seglogNilSpec)) seglogNilUptoCard

/-- THE SECOND FORM's CARD OF 'cloisonnelaw07.SeglogLasts'. -/
def seglogLastsUptoCard : Claim7 := { stood := { row := seglogLastsUptoRow, standIns := [], harness := (true, "758c9e8af3632702c01035eb83216b53bdbd3d0c585d61c4bacf10282ead88dc"), looks := false }, kinds := [], alts := [], laidByText := true, laidKinds := [.data, .pinned], laidTests := true, laidLooks := .later }
def SeglogLastsUptoCardSaid : Prop := Claim7.holds Tryd.pinned (.plain (OpenSpec.upto seglogLastsSpec)) seglogLastsUptoCard

/-- THE SECOND FORM's CARD OF 'cloisonnelaw07.SeglogPlays'. -/
def seglogPlaysUptoCard : Claim7 := { stood := { row := seglogPlaysUptoRow, standIns := [], harness := (true, "758c9e8af3632702c01035eb83216b53bdbd3d0c585d61c4bacf10282ead88dc"), looks := false }, kinds := [], alts := [], laidByText := true, laidKinds := [.data, .pinned], laidTests := true, laidLooks := .later }
def SeglogPlaysUptoCardSaid : Prop := Claim7.holds Tryd.pinned (.plain (OpenSpec.upto seglogPlaysSpec)) seglogPlaysUptoCard
end Rows
end Go.Proofs.YthbncljlclcecaaDoor
