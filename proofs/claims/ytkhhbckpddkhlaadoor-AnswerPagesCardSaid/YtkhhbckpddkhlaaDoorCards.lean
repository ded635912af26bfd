/-
  DERIVED. GIVEN WITH THE SEED: THE CARDS: each row of YtkhhbckpddkhlaaDoorRows.lean that lists a variable, with what it lists TIED to the program's text (the seventh form; the later family's looks); each row that meets fmt, with fmt's text TOLD by the authors' own Lean function (tested against real Go, not proved from fmt's source: count such statements apart). THE CARD IS WHAT COUNTS. Prove the row's statement (the work); the ties are given (YtkhhbckpddkhlaaDoorTie.lean); close each card by the builder's one call (the guide's Derived/Test/ToyasCard.lean, 'card_holds'). Laid BY PROGRAM, IN A SANDBOX (cutbox-door.mjs). By AI agents, Wed Nov 11 2026. No macro, syntax, notation, axiom, sorry.
-/
import Derived.Test.YtkhhbckpddkhlaaDoorRows
import GoSem.ClaimSeven
namespace Go.Proofs.YtkhhbckpddkhlaaDoor
namespace Rows

/-- THE TIED CARD OF 'munimentlaw16.AnswerOrder'. -/
def answerOrderCard : Claim7 := { stood := { row := answerOrderRow, standIns := [], harness := (true, "62041f0f1604ada2af42692dd6f4450e026458dd79c14d12c85ed4a3c3d00d7c"), looks := false }, kinds := [], alts := [], laidByText := true, laidKinds := [.data, .pinned], laidTests := true, laidLooks := .later }
def AnswerOrderCardSaid : Prop := Claim7.holds Tryd.pinned (.plain (OpenSpec.ofChange answerOrderSpec)) answerOrderCard

/-- THE TIED CARD OF 'munimentlaw16.AnswerPages'. -/
def answerPagesCard : Claim7 := { stood := { row := answerPagesRow, standIns := [], harness := (true, "62041f0f1604ada2af42692dd6f4450e026458dd79c14d12c85ed4a3c3d00d7c"), looks := false }, kinds := [], alts := [], laidByText := true, laidKinds := [.data, .pinned], laidTests := true, laidLooks := .later }
def AnswerPagesCardSaid : Prop := Claim7.holds Tryd.pinned (.plain (OpenSpec.ofChange answerPagesSpec)) answerPagesCard

/-- THE TIED CARD OF 'munimentlaw16.AnswerAll'. -/
def answerAllCard : Claim7 := { stood := { row := answerAllRow, standIns := [], harness := (true, "62041f0f1604ada2af42692dd6f4450e026458dd79c14d12c85ed4a3c3d00d7c"), looks := false }, kinds := [], alts := [], laidByText := true, laidKinds := [.data, .pinned], laidTests := true, laidLooks := .later }
def AnswerAllCardSaid : Prop := Claim7.holds Tryd.pinned (.plain (OpenSpec.ofChange answerAllSpec)) answerAllCard

/-- THE SECOND FORM's CARD OF 'munimentlaw16.AnswerOrder'. -/
def answerOrderUptoCard : Claim7 := { stood := { row := answerOrderUptoRow, standIns := [], harness := (true, "62041f0f1604ada2af42692dd6f4450e026458dd79c14d12c85ed4a3c3d00d7c"), looks := false }, kinds := [], alts := [], laidByText := true, laidKinds := [.data, .pinned], laidTests := true, laidLooks := .later }
def AnswerOrderUptoCardSaid : Prop := Claim7.holds Tryd.pinned (.plain (OpenSpec.upto answerOrderSpec)) answerOrderUptoCard

/-- THE SECOND FORM's CARD OF 'munimentlaw16.AnswerPages'. -/
def answerPagesUptoCard : Claim7 := { stood := { row := answerPagesUptoRow, standIns := [], harness := (true, "62041f0f1604ada2af42692dd6f4450e026458dd79c14d12c85ed4a3c3d00d7c"), looks := false }, kinds := [], alts := [], laidByText := true, laidKinds := [.data, .pinned], laidTests := true, laidLooks := .later }
def AnswerPagesUptoCardSaid : Prop := Claim7.holds Tryd.pinned (.plain (OpenSpec.upto answerPagesSpec)) answerPagesUptoCard

/-- THE SECOND FORM's CARD OF 'munimentlaw16.AnswerAll'. -/
def answerAllUptoCard : Claim7 := { stood := { row := answerAllUptoRow, standIns := [], harness := (true, "62041f0f1604ada2af42692dd6f4450e026458dd79c14d12c85ed4a3c3d00d7c"), looks := false }, kinds := [], alts := [], laidByText := true, laidKinds := [.data, .pinned], laidTests := true, laidLooks := .later }
def AnswerAllUptoCardSaid : Prop := Claim7.holds Tryd.pinned (.plain (OpenSpec.upto answerAllSpec)) answerAllUptoCard
end Rows
end Go.Proofs.YtkhhbckpddkhlaaDoor
