/-
  DERIVED. GIVEN WITH THE SEED: THE CARDS: each row of YtcmfanfkcbjeoaaGreatDoorRows.lean that lists a variable, with what it lists TIED to the program's text (the seventh form; the later family's looks); each row that meets fmt, with fmt's text TOLD by the authors' own Lean function (tested against real Go, not proved from fmt's source: count such statements apart). THE CARD IS WHAT COUNTS. Prove the row's statement (the work); the ties are given (YtcmfanfkcbjeoaaGreatDoorTie.lean); close each card by the builder's one call (the guide's Derived/Test/ToyasCard.lean, 'card_holds'). Laid BY PROGRAM, IN A SANDBOX (cutbox-door.mjs). By AI agents, Wed Nov 11 2026. No macro, syntax, notation, axiom, sorry.
-/
import Derived.Test.YtcmfanfkcbjeoaaGreatDoorRows
import GoSem.ClaimSeven
namespace Go.Proofs.YtcmfanfkcbjeoaaGreatDoor
namespace Rows

/-- THE TIED CARD OF 'munimentlaw18.PlanMakes'. -/
def planMakesCard : Claim7 := { stood := { row := planMakesRow, standIns := [], harness := (true, "3ad42db790a371927ac4b6d90c983bf859358286c9503ec998d43b897dff48f2"), looks := false }, kinds := [], alts := [], laidByText := true, laidKinds := [.data, .pinned, .pinned], laidTests := true, laidLooks := .later }
def PlanMakesCardSaid : Prop := Claim7.holds Tryz.pinned (.plain (OpenSpec.ofChange planMakesSpec)) planMakesCard

/-- THE TIED CARD OF 'munimentlaw19.CatalogPlays'. -/
def catalogPlaysCard : Claim7 := { stood := { row := catalogPlaysRow, standIns := [], harness := (true, "3ad42db790a371927ac4b6d90c983bf859358286c9503ec998d43b897dff48f2"), looks := false }, kinds := [], alts := [], laidByText := true, laidKinds := [.data, .pinned, .pinned], laidTests := true, laidLooks := .later }
def CatalogPlaysCardSaid : Prop := Claim7.holds Tryz.pinned (.plain (OpenSpec.ofChange catalogPlaysSpec)) catalogPlaysCard

/-- THE TIED CARD OF 'munimentlaw19.CatalogFormed'. -/
def catalogFormedCard : Claim7 := { stood := { row := catalogFormedRow, standIns := [], harness := (true, "3ad42db790a371927ac4b6d90c983bf859358286c9503ec998d43b897dff48f2"), looks := false }, kinds := [], alts := [], laidByText := true, laidKinds := [.data, .pinned, .pinned], laidTests := true, laidLooks := .later }
def CatalogFormedCardSaid : Prop := Claim7.holds Tryz.pinned (.plain (OpenSpec.ofChange catalogFormedSpec)) catalogFormedCard

/-- THE TIED CARD OF 'munimentlaw19.CatalogUndone'. -/
def catalogUndoneCard : Claim7 := { stood := { row := catalogUndoneRow, standIns := [], harness := (true, "3ad42db790a371927ac4b6d90c983bf859358286c9503ec998d43b897dff48f2"), looks := false }, kinds := [], alts := [], laidByText := true, laidKinds := [.data, .pinned, .pinned], laidTests := true, laidLooks := .later }
def CatalogUndoneCardSaid : Prop := Claim7.holds Tryz.pinned (.plain (OpenSpec.ofChange catalogUndoneSpec)) catalogUndoneCard

/-- THE TIED CARD OF 'munimentlaw19.CatalogLeast'. -/
def catalogLeastCard : Claim7 := { stood := { row := catalogLeastRow, standIns := [], harness := (true, "3ad42db790a371927ac4b6d90c983bf859358286c9503ec998d43b897dff48f2"), looks := false }, kinds := [], alts := [], laidByText := true, laidKinds := [.data, .pinned, .pinned], laidTests := true, laidLooks := .later }
def CatalogLeastCardSaid : Prop := Claim7.holds Tryz.pinned (.plain (OpenSpec.ofChange catalogLeastSpec)) catalogLeastCard

/-- THE TIED CARD OF 'munimentlaw19.CatalogShows'. -/
def catalogShowsCard : Claim7 := { stood := { row := catalogShowsRow, standIns := [], harness := (true, "3ad42db790a371927ac4b6d90c983bf859358286c9503ec998d43b897dff48f2"), looks := false }, kinds := [], alts := [], laidByText := true, laidKinds := [.data, .pinned, .pinned], laidTests := true, laidLooks := .later }
def CatalogShowsCardSaid : Prop := Claim7.holds Tryz.pinned (.plain (OpenSpec.ofChange catalogShowsSpec)) catalogShowsCard

/-- THE SECOND FORM's CARD OF 'munimentlaw18.PlanMakes'. -/
def planMakesUptoCard : Claim7 := { stood := { row := planMakesUptoRow, standIns := [], harness := (true, "3ad42db790a371927ac4b6d90c983bf859358286c9503ec998d43b897dff48f2"), looks := false }, kinds := [], alts := [], laidByText := true, laidKinds := [.data, .pinned, .pinned], laidTests := true, laidLooks := .later }
def PlanMakesUptoCardSaid : Prop := Claim7.holds Tryz.pinned (.plain (OpenSpec.upto planMakesSpec)) planMakesUptoCard

/-- THE SECOND FORM's CARD OF 'munimentlaw19.CatalogPlays'. -/
def catalogPlaysUptoCard : Claim7 := { stood := { row := catalogPlaysUptoRow, standIns := [], harness := (true, "3ad42db790a371927ac4b6d90c983bf859358286c9503ec998d43b897dff48f2"), looks := false }, kinds := [], alts := [], laidByText := true, laidKinds := [.data, .pinned, .pinned], laidTests := true, laidLooks := .later }
def CatalogPlaysUptoCardSaid : Prop := Claim7.holds Tryz.pinned (.plain (OpenSpec.upto catalogPlaysSpec)) catalogPlaysUptoCard

/-- THE SECOND FORM's CARD OF 'munimentlaw19.CatalogFormed'. -/
def catalogFormedUptoCard : Claim7 := { stood := { row := catalogFormedUptoRow, standIns := [], harness := (true, "3ad42db790a371927ac4b6d90c983bf859358286c9503ec998d43b897dff48f2"), looks := false }, kinds := [], alts := [], laidByText := true, laidKinds := [.data, .pinned, .pinned], laidTests := true, laidLooks := .later }
def CatalogFormedUptoCardSaid : Prop := Claim7.holds Tryz.pinned (.plain (OpenSpec.upto catalogFormedSpec)) catalogFormedUptoCard

/-- THE SECOND FORM's CARD OF 'munimentlaw19.CatalogUndone'. -/
def catalogUndoneUptoCard : Claim7 := { stood := { row := catalogUndoneUptoRow, standIns := [], harness := (true, "3ad42db790a371927ac4b6d90c983bf859358286c9503ec998d43b897dff48f2"), looks := false }, kinds := [], alts := [], laidByText := true, laidKinds := [.data, .pinned, .pinned], laidTests := true, laidLooks := .later }
def CatalogUndoneUptoCardSaid : Prop := Claim7.holds Tryz.pinned (.plain (OpenSpec.upto catalogUndoneSpec)) catalogUndoneUptoCard

/-- THE SECOND FORM's CARD OF 'munimentlaw19.CatalogLeast'. -/
def catalogLeastUptoCard : Claim7 := { stood := { row := catalogLeastUptoRow, standIns := [], harness := (true, "3ad42db790a371927ac4b6d90c983bf859358286c9503ec998d43b897dff48f2"), looks := false }, kinds := [], alts := [], laidByText := true, laidKinds := [.data, .pinned, .pinned], laidTests := true, laidLooks := .later }
def CatalogLeastUptoCardSaid : Prop := Claim7.holds Tryz.pinned (.plain (OpenSpec.upto catalogLeastSpec)) catalogLeastUptoCard

/-- THE SECOND FORM's CARD OF 'munimentlaw19.CatalogShows'. -/
def catalogShowsUptoCard : Claim7 := { stood := { row := catalogShowsUptoRow, standIns := [], harness := (true, "3ad42db790a371927ac4b6d90c983bf859358286c9503ec998d43b897dff48f2"), looks := false }, kinds := [], alts := [], laidByText := true, laidKinds := [.data, .pinned, .pinned], laidTests := true, laidLooks := .later }
def CatalogShowsUptoCardSaid : Prop := Claim7.holds Tryz.pinned (.plain (OpenSpec.upto catalogShowsSpec)) catalogShowsUptoCard
end Rows
end Go.Proofs.YtcmfanfkcbjeoaaGreatDoor
