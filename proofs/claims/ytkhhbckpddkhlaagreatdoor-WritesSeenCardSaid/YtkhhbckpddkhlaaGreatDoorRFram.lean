/- What the cards of the reading laws share: the world with all seven variables. -/
import Derived.Test.YtkhhbckpddkhlaaGreatDoorJFrame
import Derived.Stop.LaidErr
import Derived.Lib.LaidTab
import Derived.Test.YtkhhbckpddkhlaaGreatDoorRD
import Derived.Lay
namespace Go.Proofs.YtkhhbckpddkhlaaGreatDoor
open Go.Shelf
open Go.ChangeShapes Go.WideShapes Go.ChangeAt Go.RowKit

abbrev laid7 : List (String × DataW Unit) := [("math/bits.deBruijn32tab", Rows.laid_math_bits_deBruijn32tab), ("math/bits.deBruijn64tab", Rows.laid_math_bits_deBruijn64tab), ("internal/strconv.uint64pow10", Rows.laid_internal_strconv_uint64pow10), ("unicode/utf8.acceptRanges", Rows.laid_unicode_utf8_acceptRanges), ("strconv.ErrRange", Rows.laid_strconv_ErrRange), ("strconv.ErrSyntax", Rows.laid_strconv_ErrSyntax), ("unicode/utf8.first", Rows.laid_unicode_utf8_first)]

noncomputable def laidWorld7 (os : Os) : World := World.laidAll Tryz.prog os laid7
theorem laid_met7 (os : Os) (args : Array Value) : laidMet Tryz.prog laid7 ((laidWorld7 os).forCall (fun _ _ => 0) ⟨#[], args, []⟩).memory :=
  laidMet_laidAll args (by kernel_rfl) (by kernel_rfl)

theorem tabs_of_laid7 {W : World} (hL : laidMet Tryz.prog laid7 W) : Tabs W := by
  unfold laid7 at hL
  rw [accept_eq, first_eq] at hL
  exact utf8Tabs_of_readsT (U8Types.of196 Tryz.laysValid) ⟨by kernel_rfl, by kernel_rfl, by kernel_rfl, by kernel_rfl, by kernel_rfl, by kernel_rfl, by kernel_rfl⟩ (Lib.laidMet.reads hL (.tail _ (.tail _ (.tail _ (.tail _ (.tail _ (.tail _ (.head _)))))))) (Lib.laidMet.reads hL (.tail _ (.tail _ (.tail _ (.head _)))))
theorem lt_of_cell7 {w : World} {b o : Nat} {v : Value} (h : w.cell? ⟨b, o, none⟩ = some v) : b < w.heap.size := by
  rcases Nat.lt_or_ge b w.heap.size with h' | h'
  · exact h'
  · simp [World.cell?, Array.getElem?_eq_none h'] at h
theorem star7 (u : TypeId) (h : Tryz.prog.typeName? 3 u = some "*errors.errorString") : u = 253 :=
  typeName_ptr_named (nm := "errors.errorString") (by kernel_rfl) (by kernel_rfl) (by decide) u h
theorem errs_of_laid7 {W : World} (hL : laidMet Tryz.prog laid7 W) : Errs W.heap.size W := by
  have h4 := hL.tail.tail.tail.tail
  obtain ⟨a, _, hv, _⟩ := laid_sentinel (g := 5) (ti := 196) (te := 255) (ts := 9) h4 (by kernel_rfl) (by kernel_rfl) Tryz.underlying196 star7 Tryz.underlying253 Tryz.underlying255 rfl rfl Tryz.underlying9 (by kernel_rfl) (by kernel_rfl)
  obtain ⟨b, _, hw, _⟩ := laid_sentinel (g := 4) (ti := 196) (te := 255) (ts := 9) h4.tail (by kernel_rfl) (by kernel_rfl) Tryz.underlying196 star7 Tryz.underlying253 Tryz.underlying255 rfl rfl Tryz.underlying9 (by kernel_rfl) (by kernel_rfl)
  have c1 : W.cell? ⟨5, 0, none⟩ = some (.iface 253 (.pointer (some a))) := by simpa using World.var?_cell (by kernel_rfl) hv 0
  have c2 : W.cell? ⟨4, 0, none⟩ = some (.iface 253 (.pointer (some b))) := by simpa using World.var?_cell (by kernel_rfl) hw 0
  first
    | exact ⟨lt_of_cell7 c1, lt_of_cell7 c2, ⟨_, _, c1⟩, ⟨_, _, c2⟩⟩
    | exact ⟨lt_of_cell7 c2, lt_of_cell7 c1, ⟨_, _, c2⟩, ⟨_, _, c1⟩⟩

end Go.Proofs.YtkhhbckpddkhlaaGreatDoor
