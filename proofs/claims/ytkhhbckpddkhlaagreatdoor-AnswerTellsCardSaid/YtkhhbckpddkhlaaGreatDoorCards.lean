/-
  DERIVED. GIVEN WITH THE SEED: THE CARDS: each row of YtkhhbckpddkhlaaGreatDoorRows.lean that lists a variable, with what it lists TIED to the program's text (the seventh form; the later family's looks); each row that meets fmt, with fmt's text TOLD by the authors' own Lean function (tested against real Go, not proved from fmt's source: count such statements apart). THE CARD IS WHAT COUNTS. Prove the row's statement (the work); the ties are given (YtkhhbckpddkhlaaGreatDoorTie.lean); close each card by the builder's one call (the guide's Derived/Test/ToyasCard.lean, 'card_holds'). Laid BY PROGRAM, IN A SANDBOX (cutbox-door.mjs). By AI agents, Wed Nov 11 2026. No macro, syntax, notation, axiom, sorry.
-/
import Derived.Test.YtkhhbckpddkhlaaGreatDoorRows
import GoSem.ClaimSeven
namespace Go.Proofs.YtkhhbckpddkhlaaGreatDoor
namespace Rows

/-- THE TIED CARD OF 'munimentlaw16.AnswerRuns'. -/
def answerRunsCard : Claim7 := { stood := { row := answerRunsRow, standIns := [], harness := (true, "7e9fb14767f96bc7b2b668a5595c8409b63cccc25178ca5a5a14d92213ac536d"), looks := true }, kinds := [], alts := [], laidByText := true, laidKinds := [.data, .pinned], laidTests := true, laidLooks := .later }
def AnswerRunsCardSaid : Prop := Claim7.holds Tryz.pinned (.plain (OpenSpec.ofChange answerRunsSpec)) answerRunsCard

/-- THE TIED CARD OF 'munimentlaw16.AnswerTells'. -/
def answerTellsCard : Claim7 := { stood := { row := answerTellsRow, standIns := [], harness := (true, "7e9fb14767f96bc7b2b668a5595c8409b63cccc25178ca5a5a14d92213ac536d"), looks := true }, kinds := [], alts := [], laidByText := true, laidKinds := [.data, .pinned], laidTests := true, laidLooks := .later }
def AnswerTellsCardSaid : Prop := Claim7.holds Tryz.pinned (.plain (OpenSpec.ofChange answerTellsSpec)) answerTellsCard

/-- THE TIED CARD OF 'munimentlaw20.WritesForm'. -/
def writesFormCard : Claim7 := { stood := { row := writesFormRow, standIns := [], harness := (true, "7e9fb14767f96bc7b2b668a5595c8409b63cccc25178ca5a5a14d92213ac536d"), looks := true }, kinds := [], alts := [], laidByText := true, laidKinds := [.data, .data, .data, .data, .sentinel, .sentinel, .pinned], laidTests := true, laidLooks := .later }
def WritesFormCardSaid : Prop := Claim7.holds Tryz.pinned (.plain (OpenSpec.ofChange writesFormSpec)) writesFormCard

/-- THE TIED CARD OF 'munimentlaw20.WritesPut'. -/
def writesPutCard : Claim7 := { stood := { row := writesPutRow, standIns := [], harness := (true, "7e9fb14767f96bc7b2b668a5595c8409b63cccc25178ca5a5a14d92213ac536d"), looks := true }, kinds := [], alts := [], laidByText := true, laidKinds := [.data, .data, .data, .data, .sentinel, .sentinel, .pinned], laidTests := true, laidLooks := .later }
def WritesPutCardSaid : Prop := Claim7.holds Tryz.pinned (.plain (OpenSpec.ofChange writesPutSpec)) writesPutCard

/-- THE TIED CARD OF 'munimentlaw20.WritesLast'. -/
def writesLastCard : Claim7 := { stood := { row := writesLastRow, standIns := [], harness := (true, "7e9fb14767f96bc7b2b668a5595c8409b63cccc25178ca5a5a14d92213ac536d"), looks := true }, kinds := [], alts := [], laidByText := true, laidKinds := [.data, .data, .data, .data, .sentinel, .sentinel, .pinned], laidTests := true, laidLooks := .later }
def WritesLastCardSaid : Prop := Claim7.holds Tryz.pinned (.plain (OpenSpec.ofChange writesLastSpec)) writesLastCard

/-- THE TIED CARD OF 'munimentlaw20.WritesSeen'. -/
def writesSeenCard : Claim7 := { stood := { row := writesSeenRow, standIns := [], harness := (true, "7e9fb14767f96bc7b2b668a5595c8409b63cccc25178ca5a5a14d92213ac536d"), looks := true }, kinds := [], alts := [], laidByText := true, laidKinds := [.data, .data, .data, .data, .sentinel, .sentinel, .pinned], laidTests := true, laidLooks := .later }
def WritesSeenCardSaid : Prop := Claim7.holds Tryz.pinned (.plain (OpenSpec.ofChange writesSeenSpec)) writesSeenCard

/-- THE TIED CARD OF 'munimentlaw20.WritesOver'. -/
def writesOverCard : Claim7 := { stood := { row := writesOverRow, standIns := [], harness := (true, "7e9fb14767f96bc7b2b668a5595c8409b63cccc25178ca5a5a14d92213ac536d"), looks := true }, kinds := [], alts := [], laidByText := true, laidKinds := [.data, .data, .data, .data, .sentinel, .sentinel, .pinned], laidTests := true, laidLooks := .later }
def WritesOverCardSaid : Prop := Claim7.holds Tryz.pinned (.plain (OpenSpec.ofChange writesOverSpec)) writesOverCard

/-- THE SECOND FORM's CARD OF 'munimentlaw16.AnswerRuns'. -/
def answerRunsUptoCard : Claim7 := { stood := { row := answerRunsUptoRow, standIns := [], harness := (true, "7e9fb14767f96bc7b2b668a5595c8409b63cccc25178ca5a5a14d92213ac536d"), looks := true }, kinds := [], alts := [], laidByText := true, laidKinds := [.data, .pinned], laidTests := true, laidLooks := .later }
def AnswerRunsUptoCardSaid : Prop := Claim7.holds Tryz.pinned (.plain (OpenSpec.upto answerRunsSpec)) answerRunsUptoCard

/-- THE SECOND FORM's CARD OF 'munimentlaw16.AnswerTells'. -/
def answerTellsUptoCard : Claim7 := { stood := { row := answerTellsUptoRow, standIns := [], harness := (true, "7e9fb14767f96bc7b2b668a5595c8409b63cccc25178ca5a5a14d92213ac536d"), looks := true }, kinds := [], alts := [], laidByText := true, laidKinds := [.data, .pinned], laidTests := true, laidLooks := .later }
def AnswerTellsUptoCardSaid : Prop := Claim7.holds Tryz.pinned (.plain (OpenSpec.upto answerTellsSpec)) answerTellsUptoCard

/-- THE SECOND FORM's CARD OF 'munimentlaw20.WritesForm'. -/
def writesFormUptoCard : Claim7 := { stood := { row := writesFormUptoRow, standIns := [], harness := (true, "7e9fb14767f96bc7b2b668a5595c8409b63cccc25178ca5a5a14d92213ac536d"), looks := true }, kinds := [], alts := [], laidByText := true, laidKinds := [.data, .data, .data, .data, .sentinel, .sentinel, .pinned], laidTests := true, laidLooks := .later }
def WritesFormUptoCardSaid : Prop := Claim7.holds Tryz.pinned (.plain (OpenSpec.upto writesFormSpec)) writesFormUptoCard

/-- THE SECOND FORM's CARD OF 'munimentlaw20.WritesPut'. -/
def writesPutUptoCard : Claim7 := { stood := { row := writesPutUptoRow, standIns := [], harness := (true, "7e9fb14767f96bc7b2b668a5595c8409b63cccc25178ca5a5a14d92213ac536d"), looks := true }, kinds := [], alts := [], laidByText := true, laidKinds := [.data, .data, .data, .data, .sentinel, .sentinel, .pinned], laidTests := true, laidLooks := .later }
def WritesPutUptoCardSaid : Prop := Claim7.holds Tryz.pinned (.plain (OpenSpec.upto writesPutSpec)) writesPutUptoCard

/-- THE SECOND FORM's CARD OF 'munimentlaw20.WritesLast'. -/
def writesLastUptoCard : Claim7 := { stood := { row := writesLastUptoRow, standIns := [], harness := (true, "7e9fb14767f96bc7b2b668a5595c8409b63cccc25178ca5a5a14d92213ac536d"), looks := true }, kinds := [], alts := [], laidByText := true, laidKinds := [.data, .data, .data, .data, .sentinel, .sentinel, .pinned], laidTests := true, laidLooks := .later }
def WritesLastUptoCardSaid : Prop := Claim7.holds Tryz.pinned (.plain (OpenSpec.upto writesLastSpec)) writesLastUptoCard

/-- THE SECOND FORM's CARD OF 'munimentlaw20.WritesSeen'. -/
def writesSeenUptoCard : Claim7 := { stood := { row := writesSeenUptoRow, standIns := [], harness := (true, "7e9fb14767f96bc7b2b668a5595c8409b63cccc25178ca5a5a14d92213ac536d"), looks := true }, kinds := [], alts := [], laidByText := true, laidKinds := [.data, .data, .data, .data, .sentinel, .sentinel, .pinned], laidTests := true, laidLooks := .later }
def WritesSeenUptoCardSaid : Prop := Claim7.holds Tryz.pinned (.plain (OpenSpec.upto writesSeenSpec)) writesSeenUptoCard

/-- THE SECOND FORM's CARD OF 'munimentlaw20.WritesOver'. -/
def writesOverUptoCard : Claim7 := { stood := { row := writesOverUptoRow, standIns := [], harness := (true, "7e9fb14767f96bc7b2b668a5595c8409b63cccc25178ca5a5a14d92213ac536d"), looks := true }, kinds := [], alts := [], laidByText := true, laidKinds := [.data, .data, .data, .data, .sentinel, .sentinel, .pinned], laidTests := true, laidLooks := .later }
def WritesOverUptoCardSaid : Prop := Claim7.holds Tryz.pinned (.plain (OpenSpec.upto writesOverSpec)) writesOverUptoCard
end Rows
end Go.Proofs.YtkhhbckpddkhlaaGreatDoor
