/-
  DERIVED. GIVEN WITH THE SEED: THE CARDS: each row of YtfllnlmanopfaaaDoorRows.lean that lists a variable, with what it lists TIED to the program's text (the seventh form; the later family's looks); each row that meets fmt, with fmt's text TOLD by the authors' own Lean function (tested against real Go, not proved from fmt's source: count such statements apart). THE CARD IS WHAT COUNTS. Prove the row's statement (the work); the ties are given (YtfllnlmanopfaaaDoorTie.lean); close each card by the builder's one call (the guide's Derived/Test/ToyasCard.lean, 'card_holds'). Laid BY PROGRAM, IN A SANDBOX (cutbox-door.mjs). By AI agents, Wed Nov 11 2026. No macro, syntax, notation, axiom, sorry.
-/
import Derived.Test.YtfllnlmanopfaaaDoorRows
import GoSem.ClaimSeven
namespace Go.Proofs.YtfllnlmanopfaaaDoor
namespace Rows

/-- THE TIED CARD OF 'munimentlaw15.FilterHolds'. -/
def filterHoldsCard : Claim7 := { stood := { row := filterHoldsRow, standIns := [], harness := (true, "ca01794b8f313e9eb2f554a20811a2b36de467b6aabfd59dd7f717e2548302d5"), looks := false }, kinds := [], alts := [], laidByText := true, laidKinds := [.data, .pinned], laidTests := true, laidLooks := .later }
def FilterHoldsCardSaid : Prop := Claim7.holds Tryd.pinned (.plain (OpenSpec.ofChange filterHoldsSpec)) filterHoldsCard

/-- THE TIED CARD OF 'munimentlaw15.FilterLogic'. -/
def filterLogicCard : Claim7 := { stood := { row := filterLogicRow, standIns := [], harness := (true, "ca01794b8f313e9eb2f554a20811a2b36de467b6aabfd59dd7f717e2548302d5"), looks := false }, kinds := [], alts := [], laidByText := true, laidKinds := [.data, .pinned], laidTests := true, laidLooks := .later }
def FilterLogicCardSaid : Prop := Claim7.holds Tryd.pinned (.plain (OpenSpec.ofChange filterLogicSpec)) filterLogicCard

/-- THE TIED CARD OF 'munimentlaw15.FilterTests'. -/
def filterTestsCard : Claim7 := { stood := { row := filterTestsRow, standIns := [], harness := (true, "ca01794b8f313e9eb2f554a20811a2b36de467b6aabfd59dd7f717e2548302d5"), looks := false }, kinds := [], alts := [], laidByText := true, laidKinds := [.data, .pinned], laidTests := true, laidLooks := .later }
def FilterTestsCardSaid : Prop := Claim7.holds Tryd.pinned (.plain (OpenSpec.ofChange filterTestsSpec)) filterTestsCard

/-- THE TIED CARD OF 'munimentlaw15.FilterIn'. -/
def filterInCard : Claim7 := { stood := { row := filterInRow, standIns := [], harness := (true, "ca01794b8f313e9eb2f554a20811a2b36de467b6aabfd59dd7f717e2548302d5"), looks := false }, kinds := [], alts := [], laidByText := true, laidKinds := [.data, .pinned], laidTests := true, laidLooks := .later }
def FilterInCardSaid : Prop := Claim7.holds Tryd.pinned (.plain (OpenSpec.ofChange filterInSpec)) filterInCard

/-- THE TIED CARD OF 'munimentlaw17.EntriesForms'. -/
def entriesFormsCard : Claim7 := { stood := { row := entriesFormsRow, standIns := [], harness := (true, "ca01794b8f313e9eb2f554a20811a2b36de467b6aabfd59dd7f717e2548302d5"), looks := false }, kinds := [], alts := [], laidByText := true, laidKinds := [.data, .pinned, .pinned], laidTests := true, laidLooks := .later }
def EntriesFormsCardSaid : Prop := Claim7.holds Tryd.pinned (.plain (OpenSpec.ofChange entriesFormsSpec)) entriesFormsCard

/-- THE TIED CARD OF 'munimentlaw17.EntriesShow'. -/
def entriesShowCard : Claim7 := { stood := { row := entriesShowRow, standIns := [], harness := (true, "ca01794b8f313e9eb2f554a20811a2b36de467b6aabfd59dd7f717e2548302d5"), looks := false }, kinds := [], alts := [], laidByText := true, laidKinds := [.data, .pinned, .pinned], laidTests := true, laidLooks := .later }
def EntriesShowCardSaid : Prop := Claim7.holds Tryd.pinned (.plain (OpenSpec.ofChange entriesShowSpec)) entriesShowCard

/-- THE TIED CARD OF 'munimentlaw17.EntriesKeys'. -/
def entriesKeysCard : Claim7 := { stood := { row := entriesKeysRow, standIns := [], harness := (true, "ca01794b8f313e9eb2f554a20811a2b36de467b6aabfd59dd7f717e2548302d5"), looks := false }, kinds := [], alts := [], laidByText := true, laidKinds := [.data, .pinned, .pinned], laidTests := true, laidLooks := .later }
def EntriesKeysCardSaid : Prop := Claim7.holds Tryd.pinned (.plain (OpenSpec.ofChange entriesKeysSpec)) entriesKeysCard

/-- THE TIED CARD OF 'munimentlaw17.EntriesAll'. -/
def entriesAllCard : Claim7 := { stood := { row := entriesAllRow, standIns := [], harness := (true, "ca01794b8f313e9eb2f554a20811a2b36de467b6aabfd59dd7f717e2548302d5"), looks := false }, kinds := [], alts := [], laidByText := true, laidKinds := [.data, .pinned, .pinned], laidTests := true, laidLooks := .later }
def EntriesAllCardSaid : Prop := Claim7.holds Tryd.pinned (.plain (OpenSpec.ofChange entriesAllSpec)) entriesAllCard

/-- THE TIED CARD OF 'munimentlaw15.FilterChecks'. -/
def filterChecksCard : Claim7 := { stood := { row := filterChecksRow, standIns := [], harness := (true, "ca01794b8f313e9eb2f554a20811a2b36de467b6aabfd59dd7f717e2548302d5"), looks := false }, kinds := [], alts := [], laidByText := true, laidKinds := [.data, .pinned], laidTests := true, laidLooks := .later }
def FilterChecksCardSaid : Prop := Claim7.holds Tryd.pinned (.plain (OpenSpec.ofChange filterChecksSpec)) filterChecksCard

/-- THE TIED CARD OF 'munimentlaw17.EntriesOrder'. -/
def entriesOrderCard : Claim7 := { stood := { row := entriesOrderRow, standIns := [], harness := (true, "ca01794b8f313e9eb2f554a20811a2b36de467b6aabfd59dd7f717e2548302d5"), looks := false }, kinds := [], alts := [], laidByText := true, laidKinds := [.data, .pinned, .pinned], laidTests := true, laidLooks := .later }
def EntriesOrderCardSaid : Prop := Claim7.holds Tryd.pinned (.plain (OpenSpec.ofChange entriesOrderSpec)) entriesOrderCard

/-- THE SECOND FORM's CARD OF 'munimentlaw15.FilterHolds'. -/
def filterHoldsUptoCard : Claim7 := { stood := { row := filterHoldsUptoRow, standIns := [], harness := (true, "ca01794b8f313e9eb2f554a20811a2b36de467b6aabfd59dd7f717e2548302d5"), looks := false }, kinds := [], alts := [], laidByText := true, laidKinds := [.data, .pinned], laidTests := true, laidLooks := .later }
def FilterHoldsUptoCardSaid : Prop := Claim7.holds Tryd.pinned (.plain (OpenSpec.upto filterHoldsSpec)) filterHoldsUptoCard

/-- THE SECOND FORM's CARD OF 'munimentlaw15.FilterLogic'. -/
def filterLogicUptoCard : Claim7 := { stood := { row := filterLogicUptoRow, standIns := [], harness := (true, "ca01794b8f313e9eb2f554a20811a2b36de467b6aabfd59dd7f717e2548302d5"), looks := false }, kinds := [], alts := [], laidByText := true, laidKinds := [.data, .pinned], laidTests := true, laidLooks := .later }
def FilterLogicUptoCardSaid : Prop := Claim7.holds Tryd.pinned (.plain (OpenSpec.upto filterLogicSpec)) filterLogicUptoCard

/-- THE SECOND FORM's CARD OF 'munimentlaw15.FilterTests'. -/
def filterTestsUptoCard : Claim7 := { stood := { row := filterTestsUptoRow, standIns := [], harness := (true, "ca01794b8f313e9eb2f554a20811a2b36de467b6aabfd59dd7f717e2548302d5"), looks := false }, kinds := [], alts := [], laidByText := true, laidKinds := [.data, .pinned], laidTests := true, laidLooks := .later }
def FilterTestsUptoCardSaid : Prop := Claim7.holds Tryd.pinned (.plain (OpenSpec.upto filterTestsSpec)) filterTestsUptoCard

/-- THE SECOND FORM's CARD OF 'munimentlaw15.FilterIn'. -/
def filterInUptoCard : Claim7 := { stood := { row := filterInUptoRow, standIns := [], harness := (true, "ca01794b8f313e9eb2f554a20811a2b36de467b6aabfd59dd7f717e2548302d5"), looks := false }, kinds := [], alts := [], laidByText := true, laidKinds := [.data, .pinned], laidTests := true, laidLooks := .later }
def FilterInUptoCardSaid : Prop := Claim7.holds Tryd.pinned (.plain (OpenSpec.upto filterInSpec)) filterInUptoCard

/-- THE SECOND FORM's CARD OF 'munimentlaw17.EntriesForms'. -/
def entriesFormsUptoCard : Claim7 := { stood := { row := entriesFormsUptoRow, standIns := [], harness := (true, "ca01794b8f313e9eb2f554a20811a2b36de467b6aabfd59dd7f717e2548302d5"), looks := false }, kinds := [], alts := [], laidByText := true, laidKinds := [.data, .pinned, .pinned], laidTests := true, laidLooks := .later }
def EntriesFormsUptoCardSaid : Prop := Claim7.holds Tryd.pinned (.plain (OpenSpec.upto entriesFormsSpec)) entriesFormsUptoCard

/-- THE SECOND FORM's CARD OF 'munimentlaw17.EntriesShow'. -/
def entriesShowUptoCard : Claim7 := { stood := { row := entriesShowUptoRow, standIns := [], harness := (true, "ca01794b8f313e9eb2f554a20811a2b36de467b6aabfd59dd7f717e2548302d5"), looks := false }, kinds := [], alts := [], laidByText := true, laidKinds := [.data, .pinned, .pinned], laidTests := true, laidLooks := .later }
def EntriesShowUptoCardSaid : Prop := Claim7.holds Tryd.pinned (.plain (OpenSpec.upto entriesShowSpec)) entriesShowUptoCard

/-- THE SECOND FORM's CARD OF 'munimentlaw17.EntriesKeys'. -/
def entriesKeysUptoCard : Claim7 := { stood := { row := entriesKeysUptoRow, standIns := [], harness := (true, "ca01794b8f313e9eb2f554a20811a2b36de467b6aabfd59dd7f717e2548302d5"), looks := false }, kinds := [], alts := [], laidByText := true, laidKinds := [.data, .pinned, .pinned], laidTests := true, laidLooks := .later }
def EntriesKeysUptoCardSaid : Prop := Claim7.holds Tryd.pinned (.plain (OpenSpec.upto entriesKeysSpec)) entriesKeysUptoCard

/-- THE SECOND FORM's CARD OF 'munimentlaw17.EntriesAll'. -/
def entriesAllUptoCard : Claim7 := { stood := { row := entriesAllUptoRow, standIns := [], harness := (true, "ca01794b8f313e9eb2f554a20811a2b36de467b6aabfd59dd7f717e2548302d5"), looks := false }, kinds := [], alts := [], laidByText := true, laidKinds := [.data, .pinned, .pinned], laidTests := true, laidLooks := .later }
def EntriesAllUptoCardSaid : Prop := Claim7.holds Tryd.pinned (.plain (OpenSpec.upto entriesAllSpec)) entriesAllUptoCard

/-- THE SECOND FORM's CARD OF 'munimentlaw15.FilterChecks'. -/
def filterChecksUptoCard : Claim7 := { stood := { row := filterChecksUptoRow, standIns := [], harness := (true, "ca01794b8f313e9eb2f554a20811a2b36de467b6aabfd59dd7f717e2548302d5"), looks := false }, kinds := [], alts := [], laidByText := true, laidKinds := [.data, .pinned], laidTests := true, laidLooks := .later }
def FilterChecksUptoCardSaid : Prop := Claim7.holds Tryd.pinned (.plain (OpenSpec.upto filterChecksSpec)) filterChecksUptoCard

/-- THE SECOND FORM's CARD OF 'munimentlaw17.EntriesOrder'. -/
def entriesOrderUptoCard : Claim7 := { stood := { row := entriesOrderUptoRow, standIns := [], harness := (true, "ca01794b8f313e9eb2f554a20811a2b36de467b6aabfd59dd7f717e2548302d5"), looks := false }, kinds := [], alts := [], laidByText := true, laidKinds := [.data, .pinned, .pinned], laidTests := true, laidLooks := .later }
def EntriesOrderUptoCardSaid : Prop := Claim7.holds Tryd.pinned (.plain (OpenSpec.upto entriesOrderSpec)) entriesOrderUptoCard
end Rows
end Go.Proofs.YtfllnlmanopfaaaDoor
