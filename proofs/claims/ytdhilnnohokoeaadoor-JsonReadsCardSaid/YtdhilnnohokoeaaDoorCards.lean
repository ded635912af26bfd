/-
  DERIVED. GIVEN WITH THE SEED: THE CARDS: each row of YtdhilnnohokoeaaDoorRows.lean that lists a variable, with what it lists TIED to the program's text (the seventh form; the later family's looks); each row that meets fmt, with fmt's text TOLD by the authors' own Lean function (tested against real Go, not proved from fmt's source: count such statements apart). THE CARD IS WHAT COUNTS. Prove the row's statement (the work); the ties are given (YtdhilnnohokoeaaDoorTie.lean); close each card by the builder's one call (the guide's Derived/Test/ToyasCard.lean, 'card_holds'). Laid BY PROGRAM, IN A SANDBOX (cutbox-door.mjs). By AI agents, Wed Nov 11 2026. No macro, syntax, notation, axiom, sorry.
-/
import Derived.Test.YtdhilnnohokoeaaDoorRows
import GoSem.ClaimSeven
namespace Go.Proofs.YtdhilnnohokoeaaDoor
namespace Rows

/-- THE TIED CARD OF 'munimentlaw01.JsonReads'. -/
def jsonReadsCard : Claim7 := { stood := { row := jsonReadsRow, standIns := [], harness := (true, "7b20a9846a2fee75839ffb5be6c996bf4d1f0a75c81fbd02e1d208810700a1c5"), looks := true }, kinds := [], alts := [], laidByText := true, laidKinds := [.data, .data, .data, .data, .sentinel, .sentinel, .pinned], laidTests := true, laidLooks := .later }
def JsonReadsCardSaid : Prop := Claim7.holds Tryd.pinned (.plain (OpenSpec.ofChange jsonReadsSpec)) jsonReadsCard

/-- THE TIED CARD OF 'munimentlaw01.JsonAgain'. -/
def jsonAgainCard : Claim7 := { stood := { row := jsonAgainRow, standIns := [], harness := (true, "7b20a9846a2fee75839ffb5be6c996bf4d1f0a75c81fbd02e1d208810700a1c5"), looks := true }, kinds := [], alts := [], laidByText := true, laidKinds := [.data, .data, .data, .data, .sentinel, .sentinel, .pinned], laidTests := true, laidLooks := .later }
def JsonAgainCardSaid : Prop := Claim7.holds Tryd.pinned (.plain (OpenSpec.ofChange jsonAgainSpec)) jsonAgainCard

/-- THE TIED CARD OF 'munimentlaw01.JsonNumbers'. -/
def jsonNumbersCard : Claim7 := { stood := { row := jsonNumbersRow, standIns := [], harness := (true, "7b20a9846a2fee75839ffb5be6c996bf4d1f0a75c81fbd02e1d208810700a1c5"), looks := true }, kinds := [], alts := [], laidByText := true, laidKinds := [.data, .data, .data, .data, .sentinel, .sentinel, .pinned], laidTests := true, laidLooks := .later }
def JsonNumbersCardSaid : Prop := Claim7.holds Tryd.pinned (.plain (OpenSpec.ofChange jsonNumbersSpec)) jsonNumbersCard

/-- THE SECOND FORM's CARD OF 'munimentlaw01.JsonReads'. -/
def jsonReadsUptoCard : Claim7 := { stood := { row := jsonReadsUptoRow, standIns := [], harness := (true, "7b20a9846a2fee75839ffb5be6c996bf4d1f0a75c81fbd02e1d208810700a1c5"), looks := true }, kinds := [], alts := [], laidByText := true, laidKinds := [.data, .data, .data, .data, .sentinel, .sentinel, .pinned], laidTests := true, laidLooks := .later }
def JsonReadsUptoCardSaid : Prop := Claim7.holds Tryd.pinned (.plain (OpenSpec.upto jsonReadsSpec)) jsonReadsUptoCard

/-- THE SECOND FORM's CARD OF 'munimentlaw01.JsonAgain'. -/
def jsonAgainUptoCard : Claim7 := { stood := { row := jsonAgainUptoRow, standIns := [], harness := (true, "7b20a9846a2fee75839ffb5be6c996bf4d1f0a75c81fbd02e1d208810700a1c5"), looks := true }, kinds := [], alts := [], laidByText := true, laidKinds := [.data, .data, .data, .data, .sentinel, .sentinel, .pinned], laidTests := true, laidLooks := .later }
def JsonAgainUptoCardSaid : Prop := Claim7.holds Tryd.pinned (.plain (OpenSpec.upto jsonAgainSpec)) jsonAgainUptoCard

/-- THE SECOND FORM's CARD OF 'munimentlaw01.JsonNumbers'. -/
def jsonNumbersUptoCard : Claim7 := { stood := { row := jsonNumbersUptoRow, standIns := [], harness := (true, "7b20a9846a2fee75839ffb5be6c996bf4d1f0a75c81fbd02e1d208810700a1c5"), looks := true }, kinds := [], alts := [], laidByText := true, laidKinds := [.data, .data, .data, .data, .sentinel, .sentinel, .pinned], laidTests := true, laidLooks := .later }
def JsonNumbersUptoCardSaid : Prop := Claim7.holds Tryd.pinned (.plain (OpenSpec.upto jsonNumbersSpec)) jsonNumbersUptoCard
end Rows
end Go.Proofs.YtdhilnnohokoeaaDoor
