/-
  NARROWER THAN 'FOR EVERY INPUT', by the rows' own cells (each row's printed sentence says how): FilterHolds: loops, laid · FilterLogic: loops, laid · FilterTests: loops, laid · FilterIn: loops, laid · EntriesForms: laid · EntriesShow: loops, laid · EntriesKeys: loops, laid · EntriesAll: loops, laid · FilterChecks: loops, laid · EntriesOrder: loops, laid.
  DERIVED. THE GIVEN ROWS OF THIS SEAT. 10 by the template 'for every input the law returns true; each argument reads behind the call as it read before'; 0 by the template 'total and deterministic' (their statements: YtfllnlmanopfaaaDoorTotals.lean).
  GIVEN WITH THE SEED: the statements are not yours to turn. If you find one false, say at which input.
  Laid BY PROGRAM, IN A SANDBOX (cutbox-rows.mjs): the forced cells as the released guide's own fill.sh prints them over the translation b5ffaf3ac3734f41… (all of the seat's roots in one cut). By AI agents, Wed Nov 11 2026. No macro, syntax, notation, axiom, sorry.
-/
import Derived.Test.YtfllnlmanopfaaaDoorChecked
import GoSem.PinnedTables
import GoSem.Claim
import GoSem.ClaimJoined
import GoSem.ClaimMapViews
import Derived.JoinedTies
import Derived.KernelRfl
namespace Go.Proofs.YtfllnlmanopfaaaDoor
/- THE CELL 'sum', in the pinned program and in every row, IS THE sha256 OF THE DUMP (.gsa) THAT YtfllnlmanopfaaaDoorProg.lean LOADS. Nothing in Lean hashes anything: it is a label: what it is worth is what the hold of that sum in a sandbox is worth. -/
noncomputable def Tryd.pinned : Pinned := { name := "ytfllnlmanopfaaadoor", sum := "b5ffaf3ac3734f4185fe30c60ad36e1609ec412b47a01e2e9e4728c5d18fa68a", checked := Tryd.checked }
namespace Rows
def none {H : Type} : Left H := { results := [], args := [] }

/- WHAT THE LISTED PACKAGE-LEVEL VARIABLES READ AS WHEN THE CALL BEGINS. Each datum BY PROGRAM (the guide's laid-datum.mjs) off the statement by which the dump's own 'gosem.cut.vars' lays the variable. In a bare row this is a premise. The card (YtfllnlmanopfaaaDoorCards.lean) ties it to the program's text. -/
def laid_unicode_utf8_acceptRanges {H : Type} : DataW H := .agg [.agg [.lit (.int .u8 128), .lit (.int .u8 191)], .agg [.lit (.int .u8 160), .lit (.int .u8 191)], .agg [.lit (.int .u8 128), .lit (.int .u8 159)], .agg [.lit (.int .u8 144), .lit (.int .u8 191)], .agg [.lit (.int .u8 128), .lit (.int .u8 143)], .agg [.lit (.int .u8 0), .lit (.int .u8 0)], .agg [.lit (.int .u8 0), .lit (.int .u8 0)], .agg [.lit (.int .u8 0), .lit (.int .u8 0)], .agg [.lit (.int .u8 0), .lit (.int .u8 0)], .agg [.lit (.int .u8 0), .lit (.int .u8 0)], .agg [.lit (.int .u8 0), .lit (.int .u8 0)], .agg [.lit (.int .u8 0), .lit (.int .u8 0)], .agg [.lit (.int .u8 0), .lit (.int .u8 0)], .agg [.lit (.int .u8 0), .lit (.int .u8 0)], .agg [.lit (.int .u8 0), .lit (.int .u8 0)], .agg [.lit (.int .u8 0), .lit (.int .u8 0)]]
/-- One of Go's own tables, pinned by name: the form's constant. -/
def laid_unicode_utf8_first : DataW Unit := Go.Pinned.utf8First
/-- One of Go's own tables, pinned by name: the form's constant. -/
def laid_unicode_CaseRanges : DataW Unit := Go.Pinned.caseRanges

/-- 'munimentlaw15.FilterHolds': WHATEVER THE INPUT: true; the input reads as it did. -/
def filterHoldsSpec : ChangeSpec := { name := "filterHolds", fn := fun _ => fun
  | [d1, d2] => { results := [.lit (.bool true)], args := [d1, d2] }
  | _ => none }
def filterHoldsRow : OpenClaim := { program := "ytfllnlmanopfaaadoor", sum := "b5ffaf3ac3734f4185fe30c60ad36e1609ec412b47a01e2e9e4728c5d18fa68a", func := "muniment/munimentlaw15.FilterHolds", spec := "filterHolds", unfollowed := true, recurses := true, named := ["unicode/utf8.first", "unicode/utf8.acceptRanges"], loops := true, apart := false, laid := [("unicode/utf8.acceptRanges", laid_unicode_utf8_acceptRanges), ("unicode/utf8.first", laid_unicode_utf8_first)] }
def FilterHoldsSaid : Prop := filterHoldsRow.holds Tryd.pinned (OpenSpec.ofChange filterHoldsSpec)

/-- ITS FALSE NEIGHBOUR: 'it returns false'. Refute it at one input. -/
def filterHoldsWrong : ChangeSpec := { name := "filterHolds", fn := fun _ => fun
  | [d1, d2] => { results := [.lit (.bool false)], args := [d1, d2] }
  | _ => none }
def FilterHoldsWrongFalsely : Prop := filterHoldsRow.holds Tryd.pinned (OpenSpec.ofChange filterHoldsWrong)

/-- 'munimentlaw15.FilterLogic': WHATEVER THE INPUT: true; the input reads as it did. -/
def filterLogicSpec : ChangeSpec := { name := "filterLogic", fn := fun _ => fun
  | [d1, d2, d3] => { results := [.lit (.bool true)], args := [d1, d2, d3] }
  | _ => none }
def filterLogicRow : OpenClaim := { program := "ytfllnlmanopfaaadoor", sum := "b5ffaf3ac3734f4185fe30c60ad36e1609ec412b47a01e2e9e4728c5d18fa68a", func := "muniment/munimentlaw15.FilterLogic", spec := "filterLogic", unfollowed := true, recurses := true, named := ["unicode/utf8.first", "unicode/utf8.acceptRanges"], loops := true, apart := false, laid := [("unicode/utf8.acceptRanges", laid_unicode_utf8_acceptRanges), ("unicode/utf8.first", laid_unicode_utf8_first)] }
def FilterLogicSaid : Prop := filterLogicRow.holds Tryd.pinned (OpenSpec.ofChange filterLogicSpec)

/-- ITS FALSE NEIGHBOUR: 'it returns false'. Refute it at one input. -/
def filterLogicWrong : ChangeSpec := { name := "filterLogic", fn := fun _ => fun
  | [d1, d2, d3] => { results := [.lit (.bool false)], args := [d1, d2, d3] }
  | _ => none }
def FilterLogicWrongFalsely : Prop := filterLogicRow.holds Tryd.pinned (OpenSpec.ofChange filterLogicWrong)

/-- 'munimentlaw15.FilterTests': WHATEVER THE INPUT: true; the input reads as it did. -/
def filterTestsSpec : ChangeSpec := { name := "filterTests", fn := fun _ => fun
  | [d1, d2] => { results := [.lit (.bool true)], args := [d1, d2] }
  | _ => none }
def filterTestsRow : OpenClaim := { program := "ytfllnlmanopfaaadoor", sum := "b5ffaf3ac3734f4185fe30c60ad36e1609ec412b47a01e2e9e4728c5d18fa68a", func := "muniment/munimentlaw15.FilterTests", spec := "filterTests", unfollowed := true, recurses := true, named := ["unicode/utf8.first", "unicode/utf8.acceptRanges"], loops := true, apart := false, laid := [("unicode/utf8.acceptRanges", laid_unicode_utf8_acceptRanges), ("unicode/utf8.first", laid_unicode_utf8_first)] }
def FilterTestsSaid : Prop := filterTestsRow.holds Tryd.pinned (OpenSpec.ofChange filterTestsSpec)

/-- ITS FALSE NEIGHBOUR: 'it returns false'. Refute it at one input. -/
def filterTestsWrong : ChangeSpec := { name := "filterTests", fn := fun _ => fun
  | [d1, d2] => { results := [.lit (.bool false)], args := [d1, d2] }
  | _ => none }
def FilterTestsWrongFalsely : Prop := filterTestsRow.holds Tryd.pinned (OpenSpec.ofChange filterTestsWrong)

/-- 'munimentlaw15.FilterIn': WHATEVER THE INPUT: true; the input reads as it did. -/
def filterInSpec : ChangeSpec := { name := "filterIn", fn := fun _ => fun
  | [d1, d2, d3] => { results := [.lit (.bool true)], args := [d1, d2, d3] }
  | _ => none }
def filterInRow : OpenClaim := { program := "ytfllnlmanopfaaadoor", sum := "b5ffaf3ac3734f4185fe30c60ad36e1609ec412b47a01e2e9e4728c5d18fa68a", func := "muniment/munimentlaw15.FilterIn", spec := "filterIn", unfollowed := true, recurses := true, named := ["unicode/utf8.first", "unicode/utf8.acceptRanges"], loops := true, apart := false, laid := [("unicode/utf8.acceptRanges", laid_unicode_utf8_acceptRanges), ("unicode/utf8.first", laid_unicode_utf8_first)] }
def FilterInSaid : Prop := filterInRow.holds Tryd.pinned (OpenSpec.ofChange filterInSpec)

/-- ITS FALSE NEIGHBOUR: 'it returns false'. Refute it at one input. -/
def filterInWrong : ChangeSpec := { name := "filterIn", fn := fun _ => fun
  | [d1, d2, d3] => { results := [.lit (.bool false)], args := [d1, d2, d3] }
  | _ => none }
def FilterInWrongFalsely : Prop := filterInRow.holds Tryd.pinned (OpenSpec.ofChange filterInWrong)

/-- 'munimentlaw17.EntriesForms': WHATEVER THE INPUT: true; the input reads as it did. -/
def entriesFormsSpec : ChangeSpec := { name := "entriesForms", fn := fun _ => fun
  | [d1, d2] => { results := [.lit (.bool true)], args := [d1, d2] }
  | _ => none }
def entriesFormsRow : OpenClaim := { program := "ytfllnlmanopfaaadoor", sum := "b5ffaf3ac3734f4185fe30c60ad36e1609ec412b47a01e2e9e4728c5d18fa68a", func := "muniment/munimentlaw17.EntriesForms", spec := "entriesForms", inPlace := ["internal/abi.NoEscape", "internal/bytealg.MakeNoZero", "internal/bytealg.IndexByteString", "internal/bytealg.IndexString"], unfollowed := true, recurses := true, named := ["unicode/utf8.first", "unicode/utf8.acceptRanges", "unicode.CaseRanges", "internal/bytealg.MaxLen"], apart := false, laid := [("unicode/utf8.acceptRanges", laid_unicode_utf8_acceptRanges), ("unicode.CaseRanges", laid_unicode_CaseRanges), ("unicode/utf8.first", laid_unicode_utf8_first)] }
def EntriesFormsSaid : Prop := entriesFormsRow.holds Tryd.pinned (OpenSpec.ofChange entriesFormsSpec)

/-- ITS FALSE NEIGHBOUR: 'it returns false'. Refute it at one input. -/
def entriesFormsWrong : ChangeSpec := { name := "entriesForms", fn := fun _ => fun
  | [d1, d2] => { results := [.lit (.bool false)], args := [d1, d2] }
  | _ => none }
def EntriesFormsWrongFalsely : Prop := entriesFormsRow.holds Tryd.pinned (OpenSpec.ofChange entriesFormsWrong)

/-- 'munimentlaw17.EntriesShow': WHATEVER THE INPUT: true; the input reads as it did. -/
def entriesShowSpec : ChangeSpec := { name := "entriesShow", fn := fun _ => fun
  | [d1, d2] => { results := [.lit (.bool true)], args := [d1, d2] }
  | _ => none }
def entriesShowRow : OpenClaim := { program := "ytfllnlmanopfaaadoor", sum := "b5ffaf3ac3734f4185fe30c60ad36e1609ec412b47a01e2e9e4728c5d18fa68a", func := "muniment/munimentlaw17.EntriesShow", spec := "entriesShow", inPlace := ["internal/abi.NoEscape", "internal/bytealg.MakeNoZero", "internal/bytealg.IndexByteString", "internal/bytealg.IndexString"], unfollowed := true, recurses := true, named := ["unicode/utf8.first", "unicode/utf8.acceptRanges", "unicode.CaseRanges", "internal/bytealg.MaxLen"], loops := true, apart := false, laid := [("unicode/utf8.acceptRanges", laid_unicode_utf8_acceptRanges), ("unicode.CaseRanges", laid_unicode_CaseRanges), ("unicode/utf8.first", laid_unicode_utf8_first)] }
def EntriesShowSaid : Prop := entriesShowRow.holds Tryd.pinned (OpenSpec.ofChange entriesShowSpec)

/-- ITS FALSE NEIGHBOUR: 'it returns false'. Refute it at one input. -/
def entriesShowWrong : ChangeSpec := { name := "entriesShow", fn := fun _ => fun
  | [d1, d2] => { results := [.lit (.bool false)], args := [d1, d2] }
  | _ => none }
def EntriesShowWrongFalsely : Prop := entriesShowRow.holds Tryd.pinned (OpenSpec.ofChange entriesShowWrong)

/-- 'munimentlaw17.EntriesKeys': WHATEVER THE INPUT: true; the input reads as it did. -/
def entriesKeysSpec : ChangeSpec := { name := "entriesKeys", fn := fun _ => fun
  | [d1, d2] => { results := [.lit (.bool true)], args := [d1, d2] }
  | _ => none }
def entriesKeysRow : OpenClaim := { program := "ytfllnlmanopfaaadoor", sum := "b5ffaf3ac3734f4185fe30c60ad36e1609ec412b47a01e2e9e4728c5d18fa68a", func := "muniment/munimentlaw17.EntriesKeys", spec := "entriesKeys", inPlace := ["internal/abi.NoEscape", "internal/bytealg.MakeNoZero", "internal/bytealg.IndexByteString", "internal/bytealg.IndexString"], unfollowed := true, recurses := true, named := ["unicode/utf8.first", "unicode/utf8.acceptRanges", "unicode.CaseRanges", "internal/bytealg.MaxLen"], loops := true, apart := false, laid := [("unicode/utf8.acceptRanges", laid_unicode_utf8_acceptRanges), ("unicode.CaseRanges", laid_unicode_CaseRanges), ("unicode/utf8.first", laid_unicode_utf8_first)] }
def EntriesKeysSaid : Prop := entriesKeysRow.holds Tryd.pinned (OpenSpec.ofChange entriesKeysSpec)

/-- ITS FALSE NEIGHBOUR: 'it returns false'. Refute it at one input. -/
def entriesKeysWrong : ChangeSpec := { name := "entriesKeys", fn := fun _ => fun
  | [d1, d2] => { results := [.lit (.bool false)], args := [d1, d2] }
  | _ => none }
def EntriesKeysWrongFalsely : Prop := entriesKeysRow.holds Tryd.pinned (OpenSpec.ofChange entriesKeysWrong)

/-- 'munimentlaw17.EntriesAll': WHATEVER THE INPUT: true; the input reads as it did. -/
def entriesAllSpec : ChangeSpec := { name := "entriesAll", fn := fun _ => fun
  | [d1, d2] => { results := [.lit (.bool true)], args := [d1, d2] }
  | _ => none }
def entriesAllRow : OpenClaim := { program := "ytfllnlmanopfaaadoor", sum := "b5ffaf3ac3734f4185fe30c60ad36e1609ec412b47a01e2e9e4728c5d18fa68a", func := "muniment/munimentlaw17.EntriesAll", spec := "entriesAll", inPlace := ["internal/abi.NoEscape", "internal/bytealg.MakeNoZero", "internal/bytealg.IndexByteString", "internal/bytealg.IndexString"], unfollowed := true, recurses := true, named := ["unicode/utf8.first", "unicode/utf8.acceptRanges", "unicode.CaseRanges", "internal/bytealg.MaxLen"], loops := true, apart := false, laid := [("unicode/utf8.acceptRanges", laid_unicode_utf8_acceptRanges), ("unicode.CaseRanges", laid_unicode_CaseRanges), ("unicode/utf8.first", laid_unicode_utf8_first)] }
def EntriesAllSaid : Prop := entriesAllRow.holds Tryd.pinned (OpenSpec.ofChange entriesAllSpec)

/-- ITS FALSE NEIGHBOUR: 'it returns false'. Refute it at one input. -/
def entriesAllWrong : ChangeSpec := { name := "entriesAll", fn := fun _ => fun
  | [d1, d2] => { results := [.lit (.bool false)], args := [d1, d2] }
  | _ => none }
def EntriesAllWrongFalsely : Prop := entriesAllRow.holds Tryd.pinned (OpenSpec.ofChange entriesAllWrong)

/-- 'munimentlaw15.FilterChecks': WHATEVER THE INPUT: true; the input reads as it did. -/
def filterChecksSpec : ChangeSpec := { name := "filterChecks", fn := fun _ => fun
  | [d] => { results := [.lit (.bool true)], args := [d] }
  | _ => none }
def filterChecksRow : OpenClaim := { program := "ytfllnlmanopfaaadoor", sum := "b5ffaf3ac3734f4185fe30c60ad36e1609ec412b47a01e2e9e4728c5d18fa68a", func := "muniment/munimentlaw15.FilterChecks", spec := "filterChecks", unfollowed := true, recurses := true, named := ["unicode/utf8.first", "unicode/utf8.acceptRanges"], loops := true, apart := false, laid := [("unicode/utf8.acceptRanges", laid_unicode_utf8_acceptRanges), ("unicode/utf8.first", laid_unicode_utf8_first)] }
def FilterChecksSaid : Prop := filterChecksRow.holds Tryd.pinned (OpenSpec.ofChange filterChecksSpec)

/-- ITS FALSE NEIGHBOUR: 'it returns false'. Refute it at one input. -/
def filterChecksWrong : ChangeSpec := { name := "filterChecks", fn := fun _ => fun
  | [d] => { results := [.lit (.bool false)], args := [d] }
  | _ => none }
def FilterChecksWrongFalsely : Prop := filterChecksRow.holds Tryd.pinned (OpenSpec.ofChange filterChecksWrong)

/-- 'munimentlaw17.EntriesOrder': WHATEVER THE INPUT: true; the input reads as it did. -/
def entriesOrderSpec : ChangeSpec := { name := "entriesOrder", fn := fun _ => fun
  | [d1, d2, d3] => { results := [.lit (.bool true)], args := [d1, d2, d3] }
  | _ => none }
def entriesOrderRow : OpenClaim := { program := "ytfllnlmanopfaaadoor", sum := "b5ffaf3ac3734f4185fe30c60ad36e1609ec412b47a01e2e9e4728c5d18fa68a", func := "muniment/munimentlaw17.EntriesOrder", spec := "entriesOrder", inPlace := ["internal/abi.NoEscape", "internal/bytealg.MakeNoZero", "internal/bytealg.IndexByteString", "internal/bytealg.IndexString"], unfollowed := true, recurses := true, named := ["unicode/utf8.first", "unicode/utf8.acceptRanges", "unicode.CaseRanges", "internal/bytealg.MaxLen"], loops := true, apart := false, laid := [("unicode/utf8.acceptRanges", laid_unicode_utf8_acceptRanges), ("unicode.CaseRanges", laid_unicode_CaseRanges), ("unicode/utf8.first", laid_unicode_utf8_first)] }
def EntriesOrderSaid : Prop := entriesOrderRow.holds Tryd.pinned (OpenSpec.ofChange entriesOrderSpec)

/-- ITS FALSE NEIGHBOUR: 'it returns false'. Refute it at one input. -/
def entriesOrderWrong : ChangeSpec := { name := "entriesOrder", fn := fun _ => fun
  | [d1, d2, d3] => { results := [.lit (.bool false)], args := [d1, d2, d3] }
  | _ => none }
def EntriesOrderWrongFalsely : Prop := entriesOrderRow.holds Tryd.pinned (OpenSpec.ofChange entriesOrderWrong)

/- THE SECOND FORM. 'bulk': how many values and letters a reading holds, each counted each time it is reached (what is shared counts as often as it is met; a slice's spare places count too). A statement '..UptoSaid' is the law's where the arguments, and the package variables that the reading takes, are together of bulk at most 1048576: NARROWER than '..Said'. Prove '..Said' where nothing that the law and all that it calls make is longer than what came in: it says more and counts as full. Else prove '..UptoSaid'. A law counts once. -/
mutual
def uptoBulk {H : Type} : DataW H → Nat
  | .lit (.string bytes) => bytes.length + 1
  | .lit _ => 1
  | .nil => 1
  | .ptr d => uptoBulk d + 1
  | .slice elems spare => uptoBulkAll elems + uptoBulkAll spare + 1
  | .agg parts => uptoBulkAll parts + 1
  | .iface _ d => uptoBulk d + 1
  | .map entries => uptoBulkEntries entries + 1
  | .held _ => 1
def uptoBulkAll {H : Type} : List (DataW H) → Nat
  | [] => 0
  | d :: r => uptoBulk d + uptoBulkAll r
def uptoBulkEntries {H : Type} : List (Lit × DataW H) → Nat
  | [] => 0
  | x :: r => uptoBulkEntry x + uptoBulkEntries r
def uptoBulkEntry {H : Type} : Lit × DataW H → Nat
  | (.string bytes, d) => bytes.length + uptoBulk d + 1
  | (_, d) => uptoBulk d + 1
 end
def uptoSmall : (H : Type) → List (DataW H) → Bool := fun _ ds => decide (uptoBulkAll ds ≤ 1048576)
def OpenSpec.upto (s : _root_.Go.ChangeSpec) : _root_.Go.OpenSpec := { _root_.Go.OpenSpec.ofChange s with cond := some uptoSmall }

/-- 'munimentlaw15.FilterHolds', WHERE WHAT IT READS IS OF BULK AT MOST 1048576: true; the input reads as it did. -/
def filterHoldsUptoRow : OpenClaim := { program := "ytfllnlmanopfaaadoor", sum := "b5ffaf3ac3734f4185fe30c60ad36e1609ec412b47a01e2e9e4728c5d18fa68a", func := "muniment/munimentlaw15.FilterHolds", spec := "filterHolds", unfollowed := true, recurses := true, named := ["unicode/utf8.first", "unicode/utf8.acceptRanges"], loops := true, apart := false, laid := [("unicode/utf8.acceptRanges", laid_unicode_utf8_acceptRanges), ("unicode/utf8.first", laid_unicode_utf8_first)], narrowed := true }
def FilterHoldsUptoSaid : Prop := filterHoldsUptoRow.holds Tryd.pinned (OpenSpec.upto filterHoldsSpec)

/-- 'munimentlaw15.FilterLogic', WHERE WHAT IT READS IS OF BULK AT MOST 1048576: true; the input reads as it did. -/
def filterLogicUptoRow : OpenClaim := { program := "ytfllnlmanopfaaadoor", sum := "b5ffaf3ac3734f4185fe30c60ad36e1609ec412b47a01e2e9e4728c5d18fa68a", func := "muniment/munimentlaw15.FilterLogic", spec := "filterLogic", unfollowed := true, recurses := true, named := ["unicode/utf8.first", "unicode/utf8.acceptRanges"], loops := true, apart := false, laid := [("unicode/utf8.acceptRanges", laid_unicode_utf8_acceptRanges), ("unicode/utf8.first", laid_unicode_utf8_first)], narrowed := true }
def FilterLogicUptoSaid : Prop := filterLogicUptoRow.holds Tryd.pinned (OpenSpec.upto filterLogicSpec)

/-- 'munimentlaw15.FilterTests', WHERE WHAT IT READS IS OF BULK AT MOST 1048576: true; the input reads as it did. -/
def filterTestsUptoRow : OpenClaim := { program := "ytfllnlmanopfaaadoor", sum := "b5ffaf3ac3734f4185fe30c60ad36e1609ec412b47a01e2e9e4728c5d18fa68a", func := "muniment/munimentlaw15.FilterTests", spec := "filterTests", unfollowed := true, recurses := true, named := ["unicode/utf8.first", "unicode/utf8.acceptRanges"], loops := true, apart := false, laid := [("unicode/utf8.acceptRanges", laid_unicode_utf8_acceptRanges), ("unicode/utf8.first", laid_unicode_utf8_first)], narrowed := true }
def FilterTestsUptoSaid : Prop := filterTestsUptoRow.holds Tryd.pinned (OpenSpec.upto filterTestsSpec)

/-- 'munimentlaw15.FilterIn', WHERE WHAT IT READS IS OF BULK AT MOST 1048576: true; the input reads as it did. -/
def filterInUptoRow : OpenClaim := { program := "ytfllnlmanopfaaadoor", sum := "b5ffaf3ac3734f4185fe30c60ad36e1609ec412b47a01e2e9e4728c5d18fa68a", func := "muniment/munimentlaw15.FilterIn", spec := "filterIn", unfollowed := true, recurses := true, named := ["unicode/utf8.first", "unicode/utf8.acceptRanges"], loops := true, apart := false, laid := [("unicode/utf8.acceptRanges", laid_unicode_utf8_acceptRanges), ("unicode/utf8.first", laid_unicode_utf8_first)], narrowed := true }
def FilterInUptoSaid : Prop := filterInUptoRow.holds Tryd.pinned (OpenSpec.upto filterInSpec)

/-- 'munimentlaw17.EntriesForms', WHERE WHAT IT READS IS OF BULK AT MOST 1048576: true; the input reads as it did. -/
def entriesFormsUptoRow : OpenClaim := { program := "ytfllnlmanopfaaadoor", sum := "b5ffaf3ac3734f4185fe30c60ad36e1609ec412b47a01e2e9e4728c5d18fa68a", func := "muniment/munimentlaw17.EntriesForms", spec := "entriesForms", inPlace := ["internal/abi.NoEscape", "internal/bytealg.MakeNoZero", "internal/bytealg.IndexByteString", "internal/bytealg.IndexString"], unfollowed := true, recurses := true, named := ["unicode/utf8.first", "unicode/utf8.acceptRanges", "unicode.CaseRanges", "internal/bytealg.MaxLen"], apart := false, laid := [("unicode/utf8.acceptRanges", laid_unicode_utf8_acceptRanges), ("unicode.CaseRanges", laid_unicode_CaseRanges), ("unicode/utf8.first", laid_unicode_utf8_first)], narrowed := true }
def EntriesFormsUptoSaid : Prop := entriesFormsUptoRow.holds Tryd.pinned (OpenSpec.upto entriesFormsSpec)

/-- 'munimentlaw17.EntriesShow', WHERE WHAT IT READS IS OF BULK AT MOST 1048576: true; the input reads as it did. -/
def entriesShowUptoRow : OpenClaim := { program := "ytfllnlmanopfaaadoor", sum := "b5ffaf3ac3734f4185fe30c60ad36e1609ec412b47a01e2e9e4728c5d18fa68a", func := "muniment/munimentlaw17.EntriesShow", spec := "entriesShow", inPlace := ["internal/abi.NoEscape", "internal/bytealg.MakeNoZero", "internal/bytealg.IndexByteString", "internal/bytealg.IndexString"], unfollowed := true, recurses := true, named := ["unicode/utf8.first", "unicode/utf8.acceptRanges", "unicode.CaseRanges", "internal/bytealg.MaxLen"], loops := true, apart := false, laid := [("unicode/utf8.acceptRanges", laid_unicode_utf8_acceptRanges), ("unicode.CaseRanges", laid_unicode_CaseRanges), ("unicode/utf8.first", laid_unicode_utf8_first)], narrowed := true }
def EntriesShowUptoSaid : Prop := entriesShowUptoRow.holds Tryd.pinned (OpenSpec.upto entriesShowSpec)

/-- 'munimentlaw17.EntriesKeys', WHERE WHAT IT READS IS OF BULK AT MOST 1048576: true; the input reads as it did. -/
def entriesKeysUptoRow : OpenClaim := { program := "ytfllnlmanopfaaadoor", sum := "b5ffaf3ac3734f4185fe30c60ad36e1609ec412b47a01e2e9e4728c5d18fa68a", func := "muniment/munimentlaw17.EntriesKeys", spec := "entriesKeys", inPlace := ["internal/abi.NoEscape", "internal/bytealg.MakeNoZero", "internal/bytealg.IndexByteString", "internal/bytealg.IndexString"], unfollowed := true, recurses := true, named := ["unicode/utf8.first", "unicode/utf8.acceptRanges", "unicode.CaseRanges", "internal/bytealg.MaxLen"], loops := true, apart := false, laid := [("unicode/utf8.acceptRanges", laid_unicode_utf8_acceptRanges), ("unicode.CaseRanges", laid_unicode_CaseRanges), ("unicode/utf8.first", laid_unicode_utf8_first)], narrowed := true }
def EntriesKeysUptoSaid : Prop := entriesKeysUptoRow.holds Tryd.pinned (OpenSpec.upto entriesKeysSpec)

/-- 'munimentlaw17.EntriesAll', WHERE WHAT IT READS IS OF BULK AT MOST 1048576: true; the input reads as it did. -/
def entriesAllUptoRow : OpenClaim := { program := "ytfllnlmanopfaaadoor", sum := "b5ffaf3ac3734f4185fe30c60ad36e1609ec412b47a01e2e9e4728c5d18fa68a", func := "muniment/munimentlaw17.EntriesAll", spec := "entriesAll", inPlace := ["internal/abi.NoEscape", "internal/bytealg.MakeNoZero", "internal/bytealg.IndexByteString", "internal/bytealg.IndexString"], unfollowed := true, recurses := true, named := ["unicode/utf8.first", "unicode/utf8.acceptRanges", "unicode.CaseRanges", "internal/bytealg.MaxLen"], loops := true, apart := false, laid := [("unicode/utf8.acceptRanges", laid_unicode_utf8_acceptRanges), ("unicode.CaseRanges", laid_unicode_CaseRanges), ("unicode/utf8.first", laid_unicode_utf8_first)], narrowed := true }
def EntriesAllUptoSaid : Prop := entriesAllUptoRow.holds Tryd.pinned (OpenSpec.upto entriesAllSpec)

/-- 'munimentlaw15.FilterChecks', WHERE WHAT IT READS IS OF BULK AT MOST 1048576: true; the input reads as it did. -/
def filterChecksUptoRow : OpenClaim := { program := "ytfllnlmanopfaaadoor", sum := "b5ffaf3ac3734f4185fe30c60ad36e1609ec412b47a01e2e9e4728c5d18fa68a", func := "muniment/munimentlaw15.FilterChecks", spec := "filterChecks", unfollowed := true, recurses := true, named := ["unicode/utf8.first", "unicode/utf8.acceptRanges"], loops := true, apart := false, laid := [("unicode/utf8.acceptRanges", laid_unicode_utf8_acceptRanges), ("unicode/utf8.first", laid_unicode_utf8_first)], narrowed := true }
def FilterChecksUptoSaid : Prop := filterChecksUptoRow.holds Tryd.pinned (OpenSpec.upto filterChecksSpec)

/-- 'munimentlaw17.EntriesOrder', WHERE WHAT IT READS IS OF BULK AT MOST 1048576: true; the input reads as it did. -/
def entriesOrderUptoRow : OpenClaim := { program := "ytfllnlmanopfaaadoor", sum := "b5ffaf3ac3734f4185fe30c60ad36e1609ec412b47a01e2e9e4728c5d18fa68a", func := "muniment/munimentlaw17.EntriesOrder", spec := "entriesOrder", inPlace := ["internal/abi.NoEscape", "internal/bytealg.MakeNoZero", "internal/bytealg.IndexByteString", "internal/bytealg.IndexString"], unfollowed := true, recurses := true, named := ["unicode/utf8.first", "unicode/utf8.acceptRanges", "unicode.CaseRanges", "internal/bytealg.MaxLen"], loops := true, apart := false, laid := [("unicode/utf8.acceptRanges", laid_unicode_utf8_acceptRanges), ("unicode.CaseRanges", laid_unicode_CaseRanges), ("unicode/utf8.first", laid_unicode_utf8_first)], narrowed := true }
def EntriesOrderUptoSaid : Prop := entriesOrderUptoRow.holds Tryd.pinned (OpenSpec.upto entriesOrderSpec)

end Rows
end Go.Proofs.YtfllnlmanopfaaaDoor
