/-
  DERIVED. GIVEN WITH THE SEED: THE CARDS: each row of YtfpphpjobkhalaaGreatDoorRows.lean that lists a variable, with what it lists TIED to the program's text (the seventh form; the later family's looks); each row that meets fmt, with fmt's text TOLD by the authors' own Lean function (tested against real Go, not proved from fmt's source: count such statements apart). THE CARD IS WHAT COUNTS. Prove the row's statement (the work); the ties are given (YtfpphpjobkhalaaGreatDoorTie.lean); close each card by the builder's one call (the guide's Derived/Test/ToyasCard.lean, 'card_holds'). Laid BY PROGRAM, IN A SANDBOX (cutbox-door.mjs). By AI agents, Wed Nov 11 2026. No macro, syntax, notation, axiom, sorry.
-/
import Derived.Test.YtfpphpjobkhalaaGreatDoorRows
import GoSem.ClaimSeven
namespace Go.Proofs.YtfpphpjobkhalaaGreatDoor
namespace Rows

/-- THE TIED CARD OF 'munimentlaw19.CatalogPlays'. -/
def catalogPlaysCard : Claim7 := { stood := { row := catalogPlaysRow, standIns := [], harness := (true, "379d4262cd05059cc177355d0c1d46c7db2dc42b03c484136b9731d622e515c0"), looks := false }, kinds := [], alts := [], laidByText := true, laidKinds := [.data, .pinned, .pinned], laidTests := true, laidLooks := .later }
def CatalogPlaysCardSaid : Prop := Claim7.holds Tryz.pinned (.plain (OpenSpec.ofChange catalogPlaysSpec)) catalogPlaysCard

/-- THE TIED CARD OF 'munimentlaw19.CatalogShows'. -/
def catalogShowsCard : Claim7 := { stood := { row := catalogShowsRow, standIns := [], harness := (true, "379d4262cd05059cc177355d0c1d46c7db2dc42b03c484136b9731d622e515c0"), looks := false }, kinds := [], alts := [], laidByText := true, laidKinds := [.data, .pinned, .pinned], laidTests := true, laidLooks := .later }
def CatalogShowsCardSaid : Prop := Claim7.holds Tryz.pinned (.plain (OpenSpec.ofChange catalogShowsSpec)) catalogShowsCard

/-- THE SECOND FORM's CARD OF 'munimentlaw19.CatalogPlays'. -/
def catalogPlaysUptoCard : Claim7 := { stood := { row := catalogPlaysUptoRow, standIns := [], harness := (true, "379d4262cd05059cc177355d0c1d46c7db2dc42b03c484136b9731d622e515c0"), looks := false }, kinds := [], alts := [], laidByText := true, laidKinds := [.data, .pinned, .pinned], laidTests := true, laidLooks := .later }
def CatalogPlaysUptoCardSaid : Prop := Claim7.holds Tryz.pinned (.plain (OpenSpec.upto catalogPlaysSpec)) catalogPlaysUptoCard

/-- THE SECOND FORM's CARD OF 'munimentlaw19.CatalogShows'. -/
def catalogShowsUptoCard : Claim7 := { stood := { row := catalogShowsUptoRow, standIns := [], harness := (true, "379d4262cd05059cc177355d0c1d46c7db2dc42b03c484136b9731d622e515c0"), looks := false }, kinds := [], alts := [], laidByText := true, laidKinds := [.data, .pinned, .pinned], laidTests := true, laidLooks := .later }
def CatalogShowsUptoCardSaid : Prop := Claim7.holds Tryz.pinned (.plain (OpenSpec.upto catalogShowsSpec)) catalogShowsUptoCard
end Rows
end Go.Proofs.YtfpphpjobkhalaaGreatDoor
