/-
  DERIVED. GIVEN WITH THE SEED: THE CARDS: each row of YtipinhlfajmghaaDoorRows.lean that lists a variable, with what it lists TIED to the program's text (the seventh form; the later family's looks); each row that meets fmt, with fmt's text TOLD by the authors' own Lean function (tested against real Go, not proved from fmt's source: count such statements apart). THE CARD IS WHAT COUNTS. Prove the row's statement (the work); the ties are given (YtipinhlfajmghaaDoorTie.lean); close each card by the builder's one call (the guide's Derived/Test/ToyasCard.lean, 'card_holds'). Laid BY PROGRAM, IN A SANDBOX (cutbox-door.mjs). By AI agents, Wed Nov 11 2026. No macro, syntax, notation, axiom, sorry.
-/
import Derived.Test.YtipinhlfajmghaaDoorRows
import GoSem.ClaimSeven
namespace Go.Proofs.YtipinhlfajmghaaDoor
namespace Rows

/-- THE TIED CARD OF 'cloisonnelaw06.SectorPacks'. -/
def sectorPacksCard : Claim7 := { stood := { row := sectorPacksRow, standIns := [], harness := (true, "326a7ed305a4a5574f42e81272755b430b46a125a413edd285a429975d0da177"), looks := false }, kinds := [], alts := [], laidByText := true, laidKinds := [.data, .pinned], laidTests := true, laidLooks := .later }
def SectorPacksCardSaid : Prop := Claim7.holds Tryd.pinned (.plain (OpenSpec.ofChange sectorPacksSpec)) sectorPacksCard

/-- THE TIED CARD OF 'cloisonnelaw06.SectorReads'. -/
def sectorReadsCard : Claim7 := { stood := { row := sectorReadsRow, standIns := [], harness := (true, "326a7ed305a4a5574f42e81272755b430b46a125a413edd285a429975d0da177"), looks := false }, kinds := [], alts := [], laidByText := true, laidKinds := [.data, .pinned], laidTests := true, laidLooks := .later }
def SectorReadsCardSaid : Prop := Claim7.holds Tryd.pinned (.plain (OpenSpec.ofChange sectorReadsSpec)) sectorReadsCard

/-- THE TIED CARD OF 'cloisonnelaw06.SectorOne'. -/
def sectorOneCard : Claim7 := { stood := { row := sectorOneRow, standIns := [], harness := (true, "326a7ed305a4a5574f42e81272755b430b46a125a413edd285a429975d0da177"), looks := false }, kinds := [], alts := [], laidByText := true, laidKinds := [.data, .pinned], laidTests := true, laidLooks := .later }
def SectorOneCardSaid : Prop := Claim7.holds Tryd.pinned (.plain (OpenSpec.ofChange sectorOneSpec)) sectorOneCard

/-- THE SECOND FORM's CARD OF 'cloisonnelaw06.SectorPacks'. -/
def sectorPacksUptoCard : Claim7 := { stood := { row := sectorPacksUptoRow, standIns := [], harness := (true, "326a7ed305a4a5574f42e81272755b430b46a125a413edd285a429975d0da177"), looks := false }, kinds := [], alts := [], laidByText := true, laidKinds := [.data, .pinned], laidTests := true, laidLooks := .later }
def SectorPacksUptoCardSaid : Prop := Claim7.holds Tryd.pinned (.plain (OpenSpec.upto sectorPacksSpec)) sectorPacksUptoCard

/-- THE SECOND FORM's CARD OF 'cloisonnelaw06.SectorReads'. -/
def sectorReadsUptoCard : Claim7 := { stood := { row := sectorReadsUptoRow, standIns := [], harness := (true, "326a7ed305a4a5574f42e81272755b430b46a125a413edd285a429975d0da177"), looks := false }, kinds := [], alts := [], laidByText := true, laidKinds := [.data, .pinned], laidTests := true, laidLooks := .later }
def SectorReadsUptoCardSaid : Prop := Claim7.holds Tryd.pinned (.plain (OpenSpec.upto sectorReadsSpec)) sectorReadsUptoCard

/-- THE SECOND FORM's CARD OF 'cloisonnelaw06.SectorOne'. -/
def sectorOneUptoCard : Claim7 := { stood := { row := sectorOneUptoRow, standIns := [], harness := (true, "326a7ed305a4a5574f42e81272755b430b46a125a413edd285a429975d0da177"), looks := false }, kinds := [], alts := [], laidByText := true, laidKinds := [.data, .pinned], laidTests := true, laidLooks := .later }
def SectorOneUptoCardSaid : Prop := Claim7.holds Tryd.pinned (.plain (OpenSpec.upto sectorOneSpec)) sectorOneUptoCard
end Rows
end Go.Proofs.YtipinhlfajmghaaDoor
