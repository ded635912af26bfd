/-
  DERIVED. GIVEN WITH THE SEED: THE CARDS: each row of YtdajfdahgjhmaaaDoorRows.lean that lists a variable, with what it lists TIED to the program's text (the seventh form; the later family's looks); each row that meets fmt, with fmt's text TOLD by the authors' own Lean function (tested against real Go, not proved from fmt's source: count such statements apart). THE CARD IS WHAT COUNTS. Prove the row's statement (the work); the ties are given (YtdajfdahgjhmaaaDoorTie.lean); close each card by the builder's one call (the guide's Derived/Test/ToyasCard.lean, 'card_holds'). Laid BY PROGRAM, IN A SANDBOX (cutbox-door.mjs). By AI agents, Wed Nov 11 2026. No macro, syntax, notation, axiom, sorry.
-/
import Derived.Test.YtdajfdahgjhmaaaDoorRows
import GoSem.ClaimSeven
namespace Go.Proofs.YtdajfdahgjhmaaaDoor
namespace Rows

/-- THE TIED CARD OF 'munimentlaw18.PlanWithin'. -/
def planWithinCard : Claim7 := { stood := { row := planWithinRow, standIns := [], harness := (true, "e35a02d8e1905cc7a13d0383c727ad091af41c93c3cd76ce08dde75c1b32d749"), looks := false }, kinds := [], alts := [], laidByText := true, laidKinds := [.data, .pinned, .pinned], laidTests := true, laidLooks := .later }
def PlanWithinCardSaid : Prop := Claim7.holds Tryd.pinned (.plain (OpenSpec.ofChange planWithinSpec)) planWithinCard

/-- THE TIED CARD OF 'munimentlaw18.PlanBest'. -/
def planBestCard : Claim7 := { stood := { row := planBestRow, standIns := [], harness := (true, "e35a02d8e1905cc7a13d0383c727ad091af41c93c3cd76ce08dde75c1b32d749"), looks := false }, kinds := [], alts := [], laidByText := true, laidKinds := [.data, .pinned, .pinned], laidTests := true, laidLooks := .later }
def PlanBestCardSaid : Prop := Claim7.holds Tryd.pinned (.plain (OpenSpec.ofChange planBestSpec)) planBestCard

/-- THE SECOND FORM's CARD OF 'munimentlaw18.PlanWithin'. -/
def planWithinUptoCard : Claim7 := { stood := { row := planWithinUptoRow, standIns := [], harness := (true, "e35a02d8e1905cc7a13d0383c727ad091af41c93c3cd76ce08dde75c1b32d749"), looks := false }, kinds := [], alts := [], laidByText := true, laidKinds := [.data, .pinned, .pinned], laidTests := true, laidLooks := .later }
def PlanWithinUptoCardSaid : Prop := Claim7.holds Tryd.pinned (.plain (OpenSpec.upto planWithinSpec)) planWithinUptoCard

/-- THE SECOND FORM's CARD OF 'munimentlaw18.PlanBest'. -/
def planBestUptoCard : Claim7 := { stood := { row := planBestUptoRow, standIns := [], harness := (true, "e35a02d8e1905cc7a13d0383c727ad091af41c93c3cd76ce08dde75c1b32d749"), looks := false }, kinds := [], alts := [], laidByText := true, laidKinds := [.data, .pinned, .pinned], laidTests := true, laidLooks := .later }
def PlanBestUptoCardSaid : Prop := Claim7.holds Tryd.pinned (.plain (OpenSpec.upto planBestSpec)) planBestUptoCard
end Rows
end Go.Proofs.YtdajfdahgjhmaaaDoor
