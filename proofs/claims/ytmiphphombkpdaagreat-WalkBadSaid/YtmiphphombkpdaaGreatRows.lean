/-
  No cell of these rows narrows 'for every input' (looked for: loops, veiled, ifaces, maps, wideKeys, modest, calm, conditions, laid).
  DERIVED. THE GIVEN ROWS OF THIS SEAT. 5 by the template 'for every input the law returns true; each argument reads behind the call as it read before'; 0 by the template 'total and deterministic' (their statements: YtmiphphombkpdaaGreatTotals.lean).
  GIVEN WITH THE SEED: the statements are not yours to turn. If you find one false, say at which input.
  Laid BY PROGRAM, IN A SANDBOX (cutbox-rows.mjs): the forced cells as the released guide's own fill.sh prints them over the translation 951f91c6cbf7d7de… (all of the seat's roots in one cut). By AI agents, Wed Nov 11 2026. No macro, syntax, notation, axiom, sorry.
-/
import Derived.Test.YtmiphphombkpdaaGreatChecked
import GoSem.Claim
import GoSem.ClaimJoined
import GoSem.ClaimMapViews
import Derived.JoinedTies
import Derived.KernelRfl
namespace Go.Proofs.YtmiphphombkpdaaGreat
/- THE CELL 'sum', in the pinned program and in every row, IS THE sha256 OF THE DUMP (.gsa) THAT YtmiphphombkpdaaGreatProg.lean LOADS. Nothing in Lean hashes anything: it is a label: what it is worth is what the hold of that sum in a sandbox is worth. -/
noncomputable def Tryz.pinned : Pinned := { name := "ytmiphphombkpdaagreat", sum := "951f91c6cbf7d7de1d830ecc0e89e380fade5086082712712b8e0dc589ac4cf7", checked := Tryz.checked }
namespace Rows
def none {H : Type} : Left H := { results := [], args := [] }

/-- 'munimentlaw12.WalkMeets': WHATEVER THE INPUT: true; the input reads as it did. -/
def walkMeetsSpec : ChangeSpec := { name := "walkMeets", fn := fun _ => fun
  | [d1, d2, d3] => { results := [.lit (.bool true)], args := [d1, d2, d3] }
  | _ => none }
def walkMeetsRow : OpenClaim := { program := "ytmiphphombkpdaagreat", sum := "951f91c6cbf7d7de1d830ecc0e89e380fade5086082712712b8e0dc589ac4cf7", func := "muniment/munimentlaw12.WalkMeets", spec := "walkMeets", inPlace := ["sync/atomic.AddInt64", "slices.overlaps[int]", "internal/bytealg.Compare", "slices.overlaps[[]byte]"], unfollowed := true, recurses := true, apart := false }
def WalkMeetsSaid : Prop := walkMeetsRow.holds Tryz.pinned (OpenSpec.ofChange walkMeetsSpec)

/-- ITS FALSE NEIGHBOUR: 'it returns false'. Refute it at one input. -/
def walkMeetsWrong : ChangeSpec := { name := "walkMeets", fn := fun _ => fun
  | [d1, d2, d3] => { results := [.lit (.bool false)], args := [d1, d2, d3] }
  | _ => none }
def WalkMeetsWrongFalsely : Prop := walkMeetsRow.holds Tryz.pinned (OpenSpec.ofChange walkMeetsWrong)

/-- 'munimentlaw12.WalkTurns': WHATEVER THE INPUT: true; the input reads as it did. -/
def walkTurnsSpec : ChangeSpec := { name := "walkTurns", fn := fun _ => fun
  | [d1, d2] => { results := [.lit (.bool true)], args := [d1, d2] }
  | _ => none }
def walkTurnsRow : OpenClaim := { program := "ytmiphphombkpdaagreat", sum := "951f91c6cbf7d7de1d830ecc0e89e380fade5086082712712b8e0dc589ac4cf7", func := "muniment/munimentlaw12.WalkTurns", spec := "walkTurns", inPlace := ["sync/atomic.AddInt64", "slices.overlaps[int]", "internal/bytealg.Compare", "slices.overlaps[[]byte]"], unfollowed := true, recurses := true, apart := false }
def WalkTurnsSaid : Prop := walkTurnsRow.holds Tryz.pinned (OpenSpec.ofChange walkTurnsSpec)

/-- ITS FALSE NEIGHBOUR: 'it returns false'. Refute it at one input. -/
def walkTurnsWrong : ChangeSpec := { name := "walkTurns", fn := fun _ => fun
  | [d1, d2] => { results := [.lit (.bool false)], args := [d1, d2] }
  | _ => none }
def WalkTurnsWrongFalsely : Prop := walkTurnsRow.holds Tryz.pinned (OpenSpec.ofChange walkTurnsWrong)

/-- 'munimentlaw12.WalkRanges': WHATEVER THE INPUT: true; the input reads as it did. -/
def walkRangesSpec : ChangeSpec := { name := "walkRanges", fn := fun _ => fun
  | [d1, d2] => { results := [.lit (.bool true)], args := [d1, d2] }
  | _ => none }
def walkRangesRow : OpenClaim := { program := "ytmiphphombkpdaagreat", sum := "951f91c6cbf7d7de1d830ecc0e89e380fade5086082712712b8e0dc589ac4cf7", func := "muniment/munimentlaw12.WalkRanges", spec := "walkRanges", inPlace := ["sync/atomic.AddInt64", "slices.overlaps[int]", "internal/bytealg.Compare", "slices.overlaps[[]byte]"], unfollowed := true, recurses := true, apart := false }
def WalkRangesSaid : Prop := walkRangesRow.holds Tryz.pinned (OpenSpec.ofChange walkRangesSpec)

/-- ITS FALSE NEIGHBOUR: 'it returns false'. Refute it at one input. -/
def walkRangesWrong : ChangeSpec := { name := "walkRanges", fn := fun _ => fun
  | [d1, d2] => { results := [.lit (.bool false)], args := [d1, d2] }
  | _ => none }
def WalkRangesWrongFalsely : Prop := walkRangesRow.holds Tryz.pinned (OpenSpec.ofChange walkRangesWrong)

/-- 'munimentlaw12.WalkBad': WHATEVER THE INPUT: true; the input reads as it did. -/
def walkBadSpec : ChangeSpec := { name := "walkBad", fn := fun _ => fun
  | [d1, d2, d3] => { results := [.lit (.bool true)], args := [d1, d2, d3] }
  | _ => none }
def walkBadRow : OpenClaim := { program := "ytmiphphombkpdaagreat", sum := "951f91c6cbf7d7de1d830ecc0e89e380fade5086082712712b8e0dc589ac4cf7", func := "muniment/munimentlaw12.WalkBad", spec := "walkBad", inPlace := ["sync/atomic.AddInt64", "slices.overlaps[int]", "internal/bytealg.Compare", "slices.overlaps[[]byte]"], unfollowed := true, recurses := true, apart := false }
def WalkBadSaid : Prop := walkBadRow.holds Tryz.pinned (OpenSpec.ofChange walkBadSpec)

/-- ITS FALSE NEIGHBOUR: 'it returns false'. Refute it at one input. -/
def walkBadWrong : ChangeSpec := { name := "walkBad", fn := fun _ => fun
  | [d1, d2, d3] => { results := [.lit (.bool false)], args := [d1, d2, d3] }
  | _ => none }
def WalkBadWrongFalsely : Prop := walkBadRow.holds Tryz.pinned (OpenSpec.ofChange walkBadWrong)

/-- 'munimentlaw11.TreeSizes': WHATEVER THE INPUT: true; the input reads as it did. -/
def treeSizesSpec : ChangeSpec := { name := "treeSizes", fn := fun _ => fun
  | [d1, d2] => { results := [.lit (.bool true)], args := [d1, d2] }
  | _ => none }
def treeSizesRow : OpenClaim := { program := "ytmiphphombkpdaagreat", sum := "951f91c6cbf7d7de1d830ecc0e89e380fade5086082712712b8e0dc589ac4cf7", func := "muniment/munimentlaw11.TreeSizes", spec := "treeSizes", inPlace := ["sync/atomic.AddInt64", "slices.overlaps[int]", "internal/bytealg.Compare", "slices.overlaps[[]byte]"], unfollowed := true, recurses := true, apart := false }
def TreeSizesSaid : Prop := treeSizesRow.holds Tryz.pinned (OpenSpec.ofChange treeSizesSpec)

/-- ITS FALSE NEIGHBOUR: 'it returns false'. Refute it at one input. -/
def treeSizesWrong : ChangeSpec := { name := "treeSizes", fn := fun _ => fun
  | [d1, d2] => { results := [.lit (.bool false)], args := [d1, d2] }
  | _ => none }
def TreeSizesWrongFalsely : Prop := treeSizesRow.holds Tryz.pinned (OpenSpec.ofChange treeSizesWrong)

/- THE SECOND FORM. 'bulk': how many values and letters a reading holds, each counted each time it is reached (what is shared counts as often as it is met; a slice's spare places count too). A statement '..UptoSaid' is the law's where the arguments, and the package variables that the reading takes, are together of bulk at most 1048576: NARROWER than '..Said'. Prove '..Said' where nothing that the law and all that it calls make is longer than what came in: it says more and counts as full. Else prove '..UptoSaid'. A law counts once. -/
mutual
def uptoBulk {H : Type} : DataW H → Nat
  | .lit (.string bytes) => bytes.length + 1
  | .lit _ => 1
  | .nil => 1
  | .ptr d => uptoBulk d + 1
  | .slice elems spare => uptoBulkAll elems + uptoBulkAll spare + 1
  | .agg parts => uptoBulkAll parts + 1
  | .iface _ d => uptoBulk d + 1
  | .map entries => uptoBulkEntries entries + 1
  | .held _ => 1
def uptoBulkAll {H : Type} : List (DataW H) → Nat
  | [] => 0
  | d :: r => uptoBulk d + uptoBulkAll r
def uptoBulkEntries {H : Type} : List (Lit × DataW H) → Nat
  | [] => 0
  | x :: r => uptoBulkEntry x + uptoBulkEntries r
def uptoBulkEntry {H : Type} : Lit × DataW H → Nat
  | (.string bytes, d) => bytes.length + uptoBulk d + 1
  | (_, d) => uptoBulk d + 1
 end
def uptoSmall : (H : Type) → List (DataW H) → Bool := fun _ ds => decide (uptoBulkAll ds ≤ 1048576)
def OpenSpec.upto (s : _root_.Go.ChangeSpec) : _root_.Go.OpenSpec := { _root_.Go.OpenSpec.ofChange s with cond := some uptoSmall }

/-- 'munimentlaw12.WalkMeets', WHERE WHAT IT READS IS OF BULK AT MOST 1048576: true; the input reads as it did. -/
def walkMeetsUptoRow : OpenClaim := { program := "ytmiphphombkpdaagreat", sum := "951f91c6cbf7d7de1d830ecc0e89e380fade5086082712712b8e0dc589ac4cf7", func := "muniment/munimentlaw12.WalkMeets", spec := "walkMeets", inPlace := ["sync/atomic.AddInt64", "slices.overlaps[int]", "internal/bytealg.Compare", "slices.overlaps[[]byte]"], unfollowed := true, recurses := true, apart := false, narrowed := true }
def WalkMeetsUptoSaid : Prop := walkMeetsUptoRow.holds Tryz.pinned (OpenSpec.upto walkMeetsSpec)

/-- 'munimentlaw12.WalkTurns', WHERE WHAT IT READS IS OF BULK AT MOST 1048576: true; the input reads as it did. -/
def walkTurnsUptoRow : OpenClaim := { program := "ytmiphphombkpdaagreat", sum := "951f91c6cbf7d7de1d830ecc0e89e380fade5086082712712b8e0dc589ac4cf7", func := "muniment/munimentlaw12.WalkTurns", spec := "walkTurns", inPlace := ["sync/atomic.AddInt64", "slices.overlaps[int]", "internal/bytealg.Compare", "slices.overlaps[[]byte]"], unfollowed := true, recurses := true, apart := false, narrowed := true }
def WalkTurnsUptoSaid : Prop := walkTurnsUptoRow.holds Tryz.pinned (OpenSpec.upto walkTurnsSpec)

/-- 'munimentlaw12.WalkRanges', WHERE WHAT IT READS IS OF BULK AT MOST 1048576: true; the input reads as it did. -/
def walkRangesUptoRow : OpenClaim := { program := "ytmiphphombkpdaagreat", sum := "951f91c6cbf7d7de1d830ecc0e89e380fade5086082712712b8e0dc589ac4cf7", func := "muniment/munimentlaw12.WalkRanges", spec := "walkRanges", inPlace := ["sync/atomic.AddInt64", "slices.overlaps[int]", "internal/bytealg.Compare", "slices.overlaps[[]byte]"], unfollowed := true, recurses := true, apart := false, narrowed := true }
def WalkRangesUptoSaid : Prop := walkRangesUptoRow.holds Tryz.pinned (OpenSpec.upto walkRangesSpec)

/-- 'munimentlaw12.WalkBad', WHERE WHAT IT READS IS OF BULK AT MOST 1048576: true; the input reads as it did. -/
def walkBadUptoRow : OpenClaim := { program := "ytmiphphombkpdaagreat", sum := "951f91c6cbf7d7de1d830ecc0e89e380fade5086082712712b8e0dc589ac4cf7", func := "muniment/munimentlaw12.WalkBad", spec := "walkBad", inPlace := ["sync/atomic.AddInt64", "slices.overlaps[int]", "internal/bytealg.Compare", "slices.overlaps[[]byte]"], unfollowed := true, recurses := true, apart := false, narrowed := true }
def WalkBadUptoSaid : Prop := walkBadUptoRow.holds Tryz.pinned (OpenSpec.upto walkBadSpec)

/-- 'munimentlaw11.TreeSizes', WHERE WHAT IT READS IS OF BULK AT MOST 1048576: true; the input reads as it did. -/
def treeSizesUptoRow : OpenClaim := { program := "ytmiphphombkpdaagreat", sum := "951f91c6cbf7d7de1d830ecc0e89e380fade5086082712712b8e0dc589ac4cf7", func := "muniment/munimentlaw11.TreeSizes", spec := "treeSizes", inPlace := ["sync/atomic.AddInt64", "slices.overlaps[int]", "internal/bytealg.Compare", "slices.overlaps[[]byte]"], unfollowed := true, recurses := true, apart := false, narrowed := true }
def TreeSizesUptoSaid : Prop := treeSizesUptoRow.holds Tryz.pinned (OpenSpec.upto treeSizesSpec)

end Rows
end Go.Proofs.YtmiphphombkpdaaGreat
