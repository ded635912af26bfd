/- What the cards of the printing laws share: the world with all five tables. -/
import Derived.Test.YtkhhbckpddkhlaaGreatDoorJFrame
import Derived.Test.YtkhhbckpddkhlaaGreatDoorPE
import Derived.Stop.LaidErr
import Derived.Lib.LaidTab
namespace Go.Proofs.YtkhhbckpddkhlaaGreatDoor
open Go.Shelf
open Go.ChangeShapes Go.WideShapes Go.ChangeAt Go.RowKit

abbrev laid5 : List (String × DataW Unit) := [("math/bits.deBruijn32tab", Rows.laid_math_bits_deBruijn32tab), ("math/bits.deBruijn64tab", Rows.laid_math_bits_deBruijn64tab), ("internal/strconv.uint64pow10", Rows.laid_internal_strconv_uint64pow10), ("unicode/utf8.acceptRanges", Rows.laid_unicode_utf8_acceptRanges), ("unicode/utf8.first", Rows.laid_unicode_utf8_first)]

def tabOf (d : DataW Unit) : Array Value := match d with
  | .agg l => (l.map fun x => match x with
    | .lit (.int k z) => Value.int k z
    | _ => .bool false).toArray
  | _ => #[]
/-- the settled world, the tables holding what their initialisers lay -/
noncomputable def laidWorld5 (os : Os) : World :=
  let w0 := World.holding Tryz.prog os ⟨#[], #[], []⟩
  let put (h : Array Obj) (g : Nat) (cs : Array Value) : Array Obj := h.modify g fun
    | .cells _ t frozen => .cells cs t frozen
    | o => o
  let h1 := put w0.heap 0 (Lib.firstTab.map fun z => Value.int .u8 z).toArray
  let h2 := put h1 1 ((List.range 16).flatMap fun i => [Value.int .u8 (Lib.accLo i), Value.int .u8 (Lib.accHi i)]).toArray
  let h3 := put h2 3 (Lib.pow10Tab.map fun z => Value.int .u64 z).toArray
  let h4 := put h3 7 (tabOf Rows.laid_math_bits_deBruijn64tab)
  let h5 := put h4 6 (tabOf Rows.laid_math_bits_deBruijn32tab)
  { w0 with heap := h5 }

theorem laid_met5 (os : Os) (args : Array Value) : laidMet Tryz.prog laid5 ((laidWorld5 os).forCall (fun _ _ => 0) ⟨#[], args, []⟩).memory := by
  unfold laid5
  rw [accept_eq, first_eq]
  exact (LaidIn.of_run (l := [("math/bits.deBruijn32tab", Rows.laid_math_bits_deBruijn32tab), ("math/bits.deBruijn64tab", Rows.laid_math_bits_deBruijn64tab), ("internal/strconv.uint64pow10", Rows.laid_internal_strconv_uint64pow10), ("unicode/utf8.acceptRanges", Lib.acceptData), ("unicode/utf8.first", Lib.firstData)]) [6, 7, 3, 0, 1] 8 (by kernel_rfl) (by kernel_rfl) (by kernel_rfl) (by kernel_rfl)).met

theorem tabs_of_laid5 {W : World} (hL : laidMet Tryz.prog laid5 W) : Tabs W := by
  unfold laid5 at hL
  rw [accept_eq, first_eq] at hL
  exact utf8Tabs_of_readsT (U8Types.of196 Tryz.laysValid) ⟨by kernel_rfl, by kernel_rfl, by kernel_rfl, by kernel_rfl, by kernel_rfl, by kernel_rfl, by kernel_rfl⟩ (Lib.laidMet.reads hL (.tail _ (.tail _ (.tail _ (.tail _ (.head _)))))) (Lib.laidMet.reads hL (.tail _ (.tail _ (.tail _ (.head _)))))

theorem pow_eq : (Rows.laid_internal_strconv_uint64pow10 : DataW Unit) = Lib.tabData .u64 Lib.pow10Tab := by kernel_rfl
theorem pow_of_laid5 {W : World} (hL : laidMet Tryz.prog laid5 W) : Pow W.heap.size W := by
  unfold laid5 at hL
  rw [pow_eq] at hL
  have h1 : Lib.TabIs Tryz.prog W "internal/strconv.uint64pow10" .u64 Lib.pow10Tab := Lib.tabIs_of_head (t := 247) (e := 180) (n := 20) (g := 3) (by kernel_rfl) (by kernel_rfl) (by kernel_rfl) (by kernel_rfl) (by kernel_rfl) (by kernel_rfl) hL.tail.tail
  refine ⟨h1, ?_⟩
  unfold Lib.TabIs World.var? at h1
  rw [show Tryz.prog.globalNamed "internal/strconv.uint64pow10" = some 3 by kernel_rfl] at h1
  simp only [Option.bind_some] at h1
  rcases Nat.lt_or_ge 3 W.heap.size with h | h
  · exact h
  · rw [Array.getElem?_eq_none h] at h1; cases h1

end Go.Proofs.YtkhhbckpddkhlaaGreatDoor
