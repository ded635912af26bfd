/-
  DERIVED. GIVEN WITH THE SEED: THE CARDS: each row of YticlnijkfclgcaaGreatDoorRows.lean that lists a variable, with what it lists TIED to the program's text (the seventh form; the later family's looks); each row that meets fmt, with fmt's text TOLD by the authors' own Lean function (tested against real Go, not proved from fmt's source: count such statements apart). THE CARD IS WHAT COUNTS. Prove the row's statement (the work); the ties are given (YticlnijkfclgcaaGreatDoorTie.lean); close each card by the builder's one call (the guide's Derived/Test/ToyasCard.lean, 'card_holds'). Laid BY PROGRAM, IN A SANDBOX (cutbox-door.mjs). By AI agents, Wed Nov 11 2026. No macro, syntax, notation, axiom, sorry.
-/
import Derived.Test.YticlnijkfclgcaaGreatDoorRows
import GoSem.ClaimSeven
namespace Go.Proofs.YticlnijkfclgcaaGreatDoor
namespace Rows

/-- THE TIED CARD OF 'munimentlaw21.RecordCuts'. -/
def recordCutsCard : Claim7 := { stood := { row := recordCutsRow, standIns := [], harness := (true, "e0020e032abbbcb50f02cbfcf6c05414a73c598d623686df7acf14074dca0160"), looks := true }, kinds := [], alts := [], laidByText := true, laidKinds := [.data, .data, .data, .data, .sentinel, .sentinel, .pinned, .pinned], laidTests := true, laidLooks := .later }
def RecordCutsCardSaid : Prop := Claim7.holds Tryz.pinned (.plain (OpenSpec.ofChange recordCutsSpec)) recordCutsCard

/-- THE SECOND FORM's CARD OF 'munimentlaw21.RecordCuts'. -/
def recordCutsUptoCard : Claim7 := { stood := { row := recordCutsUptoRow, standIns := [], harness := (true, "e0020e032abbbcb50f02cbfcf6c05414a73c598d623686df7acf14074dca0160"), looks := true }, kinds := [], alts := [], laidByText := true, laidKinds := [.data, .data, .data, .data, .sentinel, .sentinel, .pinned, .pinned], laidTests := true, laidLooks := .later }
def RecordCutsUptoCardSaid : Prop := Claim7.holds Tryz.pinned (.plain (OpenSpec.upto recordCutsSpec)) recordCutsUptoCard
end Rows
end Go.Proofs.YticlnijkfclgcaaGreatDoor
