/-
  DERIVED. GIVEN WITH THE SEED: THE CARDS: each row of YtcmfanfkcbjeoaaDoorRows.lean that lists a variable, with what it lists TIED to the program's text (the seventh form; the later family's looks); each row that meets fmt, with fmt's text TOLD by the authors' own Lean function (tested against real Go, not proved from fmt's source: count such statements apart). THE CARD IS WHAT COUNTS. Prove the row's statement (the work); the ties are given (YtcmfanfkcbjeoaaDoorTie.lean); close each card by the builder's one call (the guide's Derived/Test/ToyasCard.lean, 'card_holds'). Laid BY PROGRAM, IN A SANDBOX (cutbox-door.mjs). By AI agents, Wed Nov 11 2026. No macro, syntax, notation, axiom, sorry.
-/
import Derived.Test.YtcmfanfkcbjeoaaDoorRows
import GoSem.ClaimSeven
namespace Go.Proofs.YtcmfanfkcbjeoaaDoor
namespace Rows

/-- THE TIED CARD OF 'munimentlaw18.PlanBest'. -/
def planBestCard : Claim7 := { stood := { row := planBestRow, standIns := [], harness := (true, "602b5709a3cf21e8d140d09d1b1e5751efe4eb71ab0316ad44bc45272bf25078"), looks := false }, kinds := [], alts := [], laidByText := true, laidKinds := [.data, .pinned, .pinned], laidTests := true, laidLooks := .later }
def PlanBestCardSaid : Prop := Claim7.holds Tryd.pinned (.plain (OpenSpec.ofChange planBestSpec)) planBestCard

/-- THE SECOND FORM's CARD OF 'munimentlaw18.PlanBest'. -/
def planBestUptoCard : Claim7 := { stood := { row := planBestUptoRow, standIns := [], harness := (true, "602b5709a3cf21e8d140d09d1b1e5751efe4eb71ab0316ad44bc45272bf25078"), looks := false }, kinds := [], alts := [], laidByText := true, laidKinds := [.data, .pinned, .pinned], laidTests := true, laidLooks := .later }
def PlanBestUptoCardSaid : Prop := Claim7.holds Tryd.pinned (.plain (OpenSpec.upto planBestSpec)) planBestUptoCard
end Rows
end Go.Proofs.YtcmfanfkcbjeoaaDoor
