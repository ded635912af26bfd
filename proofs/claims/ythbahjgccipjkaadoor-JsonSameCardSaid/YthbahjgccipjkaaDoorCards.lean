/-
  DERIVED. GIVEN WITH THE SEED: THE CARDS: each row of YthbahjgccipjkaaDoorRows.lean that lists a variable, with what it lists TIED to the program's text (the seventh form; the later family's looks); each row that meets fmt, with fmt's text TOLD by the authors' own Lean function (tested against real Go, not proved from fmt's source: count such statements apart). THE CARD IS WHAT COUNTS. Prove the row's statement (the work); the ties are given (YthbahjgccipjkaaDoorTie.lean); close each card by the builder's one call (the guide's Derived/Test/ToyasCard.lean, 'card_holds'). Laid BY PROGRAM, IN A SANDBOX (cutbox-door.mjs). By AI agents, Wed Nov 11 2026. No macro, syntax, notation, axiom, sorry.
-/
import Derived.Test.YthbahjgccipjkaaDoorRows
import GoSem.ClaimSeven
namespace Go.Proofs.YthbahjgccipjkaaDoor
namespace Rows

/-- THE TIED CARD OF 'munimentlaw01.JsonForms'. -/
def jsonFormsCard : Claim7 := { stood := { row := jsonFormsRow, standIns := [], harness := (true, "d23be98df3b8fe5461bcd959d52f29eddf74841f70c9d4c463d9938e14680923"), looks := true }, kinds := [], alts := [], laidByText := true, laidKinds := [.data, .pinned], laidTests := true, laidLooks := .later }
def JsonFormsCardSaid : Prop := Claim7.holds Tryd.pinned (.plain (OpenSpec.ofChange jsonFormsSpec)) jsonFormsCard

/-- THE TIED CARD OF 'munimentlaw01.JsonDeep'. -/
def jsonDeepCard : Claim7 := { stood := { row := jsonDeepRow, standIns := [], harness := (true, "d23be98df3b8fe5461bcd959d52f29eddf74841f70c9d4c463d9938e14680923"), looks := true }, kinds := [], alts := [], laidByText := true, laidKinds := [.data, .pinned], laidTests := true, laidLooks := .later }
def JsonDeepCardSaid : Prop := Claim7.holds Tryd.pinned (.plain (OpenSpec.ofChange jsonDeepSpec)) jsonDeepCard

/-- THE TIED CARD OF 'munimentlaw01.JsonPrints'. -/
def jsonPrintsCard : Claim7 := { stood := { row := jsonPrintsRow, standIns := [], harness := (true, "d23be98df3b8fe5461bcd959d52f29eddf74841f70c9d4c463d9938e14680923"), looks := true }, kinds := [], alts := [], laidByText := true, laidKinds := [.data, .data, .data, .data, .pinned], laidTests := true, laidLooks := .later }
def JsonPrintsCardSaid : Prop := Claim7.holds Tryd.pinned (.plain (OpenSpec.ofChange jsonPrintsSpec)) jsonPrintsCard

/-- THE TIED CARD OF 'munimentlaw01.JsonSame'. -/
def jsonSameCard : Claim7 := { stood := { row := jsonSameRow, standIns := [], harness := (true, "d23be98df3b8fe5461bcd959d52f29eddf74841f70c9d4c463d9938e14680923"), looks := true }, kinds := [], alts := [], laidByText := true, laidKinds := [.data, .data, .data, .data, .pinned], laidTests := true, laidLooks := .later }
def JsonSameCardSaid : Prop := Claim7.holds Tryd.pinned (.plain (OpenSpec.ofChange jsonSameSpec)) jsonSameCard

/-- THE TIED CARD OF 'munimentlaw01.JsonReads'. -/
def jsonReadsCard : Claim7 := { stood := { row := jsonReadsRow, standIns := [], harness := (true, "d23be98df3b8fe5461bcd959d52f29eddf74841f70c9d4c463d9938e14680923"), looks := true }, kinds := [], alts := [], laidByText := true, laidKinds := [.data, .data, .data, .data, .sentinel, .sentinel, .pinned], laidTests := true, laidLooks := .later }
def JsonReadsCardSaid : Prop := Claim7.holds Tryd.pinned (.plain (OpenSpec.ofChange jsonReadsSpec)) jsonReadsCard

/-- THE TIED CARD OF 'munimentlaw01.JsonAgain'. -/
def jsonAgainCard : Claim7 := { stood := { row := jsonAgainRow, standIns := [], harness := (true, "d23be98df3b8fe5461bcd959d52f29eddf74841f70c9d4c463d9938e14680923"), looks := true }, kinds := [], alts := [], laidByText := true, laidKinds := [.data, .data, .data, .data, .sentinel, .sentinel, .pinned], laidTests := true, laidLooks := .later }
def JsonAgainCardSaid : Prop := Claim7.holds Tryd.pinned (.plain (OpenSpec.ofChange jsonAgainSpec)) jsonAgainCard

/-- THE TIED CARD OF 'munimentlaw01.JsonNumbers'. -/
def jsonNumbersCard : Claim7 := { stood := { row := jsonNumbersRow, standIns := [], harness := (true, "d23be98df3b8fe5461bcd959d52f29eddf74841f70c9d4c463d9938e14680923"), looks := true }, kinds := [], alts := [], laidByText := true, laidKinds := [.data, .data, .data, .data, .sentinel, .sentinel, .pinned], laidTests := true, laidLooks := .later }
def JsonNumbersCardSaid : Prop := Claim7.holds Tryd.pinned (.plain (OpenSpec.ofChange jsonNumbersSpec)) jsonNumbersCard

/-- THE SECOND FORM's CARD OF 'munimentlaw01.JsonForms'. -/
def jsonFormsUptoCard : Claim7 := { stood := { row := jsonFormsUptoRow, standIns := [], harness := (true, "d23be98df3b8fe5461bcd959d52f29eddf74841f70c9d4c463d9938e14680923"), looks := true }, kinds := [], alts := [], laidByText := true, laidKinds := [.data, .pinned], laidTests := true, laidLooks := .later }
def JsonFormsUptoCardSaid : Prop := Claim7.holds Tryd.pinned (.plain (OpenSpec.upto jsonFormsSpec)) jsonFormsUptoCard

/-- THE SECOND FORM's CARD OF 'munimentlaw01.JsonDeep'. -/
def jsonDeepUptoCard : Claim7 := { stood := { row := jsonDeepUptoRow, standIns := [], harness := (true, "d23be98df3b8fe5461bcd959d52f29eddf74841f70c9d4c463d9938e14680923"), looks := true }, kinds := [], alts := [], laidByText := true, laidKinds := [.data, .pinned], laidTests := true, laidLooks := .later }
def JsonDeepUptoCardSaid : Prop := Claim7.holds Tryd.pinned (.plain (OpenSpec.upto jsonDeepSpec)) jsonDeepUptoCard

/-- THE SECOND FORM's CARD OF 'munimentlaw01.JsonPrints'. -/
def jsonPrintsUptoCard : Claim7 := { stood := { row := jsonPrintsUptoRow, standIns := [], harness := (true, "d23be98df3b8fe5461bcd959d52f29eddf74841f70c9d4c463d9938e14680923"), looks := true }, kinds := [], alts := [], laidByText := true, laidKinds := [.data, .data, .data, .data, .pinned], laidTests := true, laidLooks := .later }
def JsonPrintsUptoCardSaid : Prop := Claim7.holds Tryd.pinned (.plain (OpenSpec.upto jsonPrintsSpec)) jsonPrintsUptoCard

/-- THE SECOND FORM's CARD OF 'munimentlaw01.JsonSame'. -/
def jsonSameUptoCard : Claim7 := { stood := { row := jsonSameUptoRow, standIns := [], harness := (true, "d23be98df3b8fe5461bcd959d52f29eddf74841f70c9d4c463d9938e14680923"), looks := true }, kinds := [], alts := [], laidByText := true, laidKinds := [.data, .data, .data, .data, .pinned], laidTests := true, laidLooks := .later }
def JsonSameUptoCardSaid : Prop := Claim7.holds Tryd.pinned (.plain (OpenSpec.upto jsonSameSpec)) jsonSameUptoCard

/-- THE SECOND FORM's CARD OF 'munimentlaw01.JsonReads'. -/
def jsonReadsUptoCard : Claim7 := { stood := { row := jsonReadsUptoRow, standIns := [], harness := (true, "d23be98df3b8fe5461bcd959d52f29eddf74841f70c9d4c463d9938e14680923"), looks := true }, kinds := [], alts := [], laidByText := true, laidKinds := [.data, .data, .data, .data, .sentinel, .sentinel, .pinned], laidTests := true, laidLooks := .later }
def JsonReadsUptoCardSaid : Prop := Claim7.holds Tryd.pinned (.plain (OpenSpec.upto jsonReadsSpec)) jsonReadsUptoCard

/-- THE SECOND FORM's CARD OF 'munimentlaw01.JsonAgain'. -/
def jsonAgainUptoCard : Claim7 := { stood := { row := jsonAgainUptoRow, standIns := [], harness := (true, "d23be98df3b8fe5461bcd959d52f29eddf74841f70c9d4c463d9938e14680923"), looks := true }, kinds := [], alts := [], laidByText := true, laidKinds := [.data, .data, .data, .data, .sentinel, .sentinel, .pinned], laidTests := true, laidLooks := .later }
def JsonAgainUptoCardSaid : Prop := Claim7.holds Tryd.pinned (.plain (OpenSpec.upto jsonAgainSpec)) jsonAgainUptoCard

/-- THE SECOND FORM's CARD OF 'munimentlaw01.JsonNumbers'. -/
def jsonNumbersUptoCard : Claim7 := { stood := { row := jsonNumbersUptoRow, standIns := [], harness := (true, "d23be98df3b8fe5461bcd959d52f29eddf74841f70c9d4c463d9938e14680923"), looks := true }, kinds := [], alts := [], laidByText := true, laidKinds := [.data, .data, .data, .data, .sentinel, .sentinel, .pinned], laidTests := true, laidLooks := .later }
def JsonNumbersUptoCardSaid : Prop := Claim7.holds Tryd.pinned (.plain (OpenSpec.upto jsonNumbersSpec)) jsonNumbersUptoCard
end Rows
end Go.Proofs.YthbahjgccipjkaaDoor
