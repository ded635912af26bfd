/- What the cards of the reading laws share: the world with all seven variables. -/
import Derived.Test.YtdhilnnohokoeaaDoorPFrame
import Derived.Test.YtdhilnnohokoeaaDoorRF
import Derived.Lay
namespace Go.Proofs.YtdhilnnohokoeaaDoor
open Go.Shelf
open Go.ChangeShapes Go.WideShapes Go.ChangeAt Go.RowKit

abbrev laid7 : List (String × DataW Unit) := [("math/bits.deBruijn32tab", Rows.laid_math_bits_deBruijn32tab), ("math/bits.deBruijn64tab", Rows.laid_math_bits_deBruijn64tab), ("internal/strconv.uint64pow10", Rows.laid_internal_strconv_uint64pow10), ("unicode/utf8.acceptRanges", Rows.laid_unicode_utf8_acceptRanges), ("strconv.ErrRange", Rows.laid_strconv_ErrRange), ("strconv.ErrSyntax", Rows.laid_strconv_ErrSyntax), ("unicode/utf8.first", Rows.laid_unicode_utf8_first)]

noncomputable def laidWorld7 (os : Os) : World := World.laidAll Tryd.prog os laid7
theorem laid_met7 (os : Os) (args : Array Value) : laidMet Tryd.prog laid7 ((laidWorld7 os).forCall (fun _ _ => 0) ⟨#[], args, []⟩).memory :=
  laidMet_laidAll args (by kernel_rfl) (by kernel_rfl)

theorem tabs_of_laid7 {W : World} (hL : laidMet Tryd.prog laid7 W) : Tabs W := by
  unfold laid7 at hL
  rw [accept_eq, first_eq] at hL
  exact utf8Tabs_of_readsT (U8Types.of196 Tryd.laysValid) ⟨by kernel_rfl, by kernel_rfl, by kernel_rfl, by kernel_rfl, by kernel_rfl, by kernel_rfl, by kernel_rfl⟩ (Lib.laidMet.reads hL (.tail _ (.tail _ (.tail _ (.tail _ (.tail _ (.tail _ (.head _)))))))) (Lib.laidMet.reads hL (.tail _ (.tail _ (.tail _ (.head _)))))
theorem pow_of_laid7 {W : World} (hL : laidMet Tryd.prog laid7 W) : Pow W.heap.size W := by
  unfold laid7 at hL
  rw [pow_eq] at hL
  have h1 : Lib.TabIs Tryd.prog W "internal/strconv.uint64pow10" .u64 Lib.pow10Tab := Lib.tabIs_of_head (t := 114) (e := 79) (n := 20) (g := 3) (by kernel_rfl) (by kernel_rfl) (by kernel_rfl) (by kernel_rfl) (by kernel_rfl) (by kernel_rfl) hL.tail.tail
  refine ⟨h1, ?_⟩
  unfold Lib.TabIs World.var? at h1
  rw [show Tryd.prog.globalNamed "internal/strconv.uint64pow10" = some 3 by kernel_rfl] at h1
  simp only [Option.bind_some] at h1
  rcases Nat.lt_or_ge 3 W.heap.size with h | h
  · exact h
  · rw [Array.getElem?_eq_none h] at h1; cases h1
theorem lt_of_cell7 {w : World} {b o : Nat} {v : Value} (h : w.cell? ⟨b, o, none⟩ = some v) : b < w.heap.size := by
  rcases Nat.lt_or_ge b w.heap.size with h' | h'
  · exact h'
  · simp [World.cell?, Array.getElem?_eq_none h'] at h
theorem star7 (u : TypeId) (h : Tryd.prog.typeName? 3 u = some "*errors.errorString") : u = 127 :=
  typeName_ptr_named (nm := "errors.errorString") (by kernel_rfl) (by kernel_rfl) (by decide) u h
theorem errs_of_laid7 {W : World} (hL : laidMet Tryd.prog laid7 W) : Errs W.heap.size W := by
  have h4 := hL.tail.tail.tail.tail
  obtain ⟨a, _, hv, _⟩ := laid_sentinel (g := 5) (ti := 72) (te := 129) (ts := 9) h4 (by kernel_rfl) (by kernel_rfl) Tryd.underlying72 star7 Tryd.underlying127 Tryd.underlying129 rfl rfl Tryd.underlying9 (by kernel_rfl) (by kernel_rfl)
  obtain ⟨b, _, hw, _⟩ := laid_sentinel (g := 4) (ti := 72) (te := 129) (ts := 9) h4.tail (by kernel_rfl) (by kernel_rfl) Tryd.underlying72 star7 Tryd.underlying127 Tryd.underlying129 rfl rfl Tryd.underlying9 (by kernel_rfl) (by kernel_rfl)
  have c1 : W.cell? ⟨5, 0, none⟩ = some (.iface 127 (.pointer (some a))) := by simpa using World.var?_cell (by kernel_rfl) hv 0
  have c2 : W.cell? ⟨4, 0, none⟩ = some (.iface 127 (.pointer (some b))) := by simpa using World.var?_cell (by kernel_rfl) hw 0
  first
    | exact ⟨lt_of_cell7 c1, lt_of_cell7 c2, ⟨_, _, c1⟩, ⟨_, _, c2⟩⟩
    | exact ⟨lt_of_cell7 c2, lt_of_cell7 c1, ⟨_, _, c2⟩, ⟨_, _, c1⟩⟩
theorem u8_of_cell {P : Program} {W : World} {b : Nat} {t : TypeId} {v : Value} (ht : P.underlying t = some (.int .u8)) (h : Cell.okWide P W .any b t v) : ∃ p : Nat, v = .int .u8 p := by
  unfold Cell.okWide at h
  rw [ht] at h
  unfold Cell.ok at h
  rw [ht] at h
  cases v <;> simp at h
  obtain ⟨rfl, h⟩ := h
  rename_i n
  exact ⟨n.toNat, by
    have : 0 ≤ n := by simp [IntKind.has, IntKind.min, IntKind.signed] at h; omega
    rw [Int.toNat_of_nonneg this]⟩
theorem pair_of_okWide {P : Program} {W : World} {b : Nat} {t u : TypeId} {v : Value} (ht : P.underlying t = some (.array 2 u)) (hu : P.underlying u = some (.int .u8)) (hc2 : P.cellsOf t = 2) (hct : P.cellTypes P.depth t = some [u, u]) (h : Value.okWide P W .any b t v) : ∃ p q : Nat, v = .agg #[.int .u8 p, .int .u8 q] := by
  unfold Value.okWide at h
  rw [ht] at h
  dsimp only at h
  obtain ⟨cs, rfl, hc, ts, htt, _, hall⟩ := h
  rw [hc2] at hc
  rw [hct] at htt
  obtain rfl := Option.some.inj htt
  obtain ⟨l⟩ := cs
  match l, hc with
  | [x, y], _ =>
    obtain ⟨_, hu1, hx⟩ := hall 0 x rfl
    obtain ⟨_, hu2, hy⟩ := hall 1 y rfl
    obtain rfl := Option.some.inj hu1
    obtain rfl := Option.some.inj hu2
    obtain ⟨p, rfl⟩ := u8_of_cell hu hx
    obtain ⟨q, rfl⟩ := u8_of_cell hu hy
    exact ⟨p, q, rfl⟩
theorem pair_type : Tryd.prog.underlying 35 = some (.array 2 5) := by kernel_rfl
theorem pair_cells : Tryd.prog.cellsOf 35 = 2 := by kernel_rfl
theorem pair_row : Tryd.prog.cellTypes Tryd.prog.depth 35 = some [5, 5] := by kernel_rfl
set_option maxRecDepth 100000 in
theorem pair_of_val {W : World} {b : Nat} {v : Value} (h : Value.okWide Tryd.prog W .any b 35 v) : ∃ p q : Nat, v = .agg #[.int .u8 p, .int .u8 q] :=
  pair_of_okWide (P := Tryd.prog) (W := W) (b := b) (t := 35) (u := 5) (v := v) pair_type Tryd.underlying5 pair_cells pair_row h

end Go.Proofs.YtdhilnnohokoeaaDoor
