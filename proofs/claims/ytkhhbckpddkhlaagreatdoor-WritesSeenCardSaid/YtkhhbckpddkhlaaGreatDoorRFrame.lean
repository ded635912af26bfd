/- What the cards of the reading laws share: the powers of ten; a pair of bytes. -/
import Derived.Test.YtkhhbckpddkhlaaGreatDoorPFrame
import Derived.Test.YtkhhbckpddkhlaaGreatDoorRFram
namespace Go.Proofs.YtkhhbckpddkhlaaGreatDoor
open Go.Shelf
open Go.ChangeShapes Go.WideShapes Go.ChangeAt Go.RowKit

theorem pow_of_laid7 {W : World} (hL : laidMet Tryz.prog laid7 W) : Pow W.heap.size W := by
  unfold laid7 at hL
  rw [pow_eq] at hL
  have h1 : Lib.TabIs Tryz.prog W "internal/strconv.uint64pow10" .u64 Lib.pow10Tab := Lib.tabIs_of_head (t := 247) (e := 180) (n := 20) (g := 3) (by kernel_rfl) (by kernel_rfl) (by kernel_rfl) (by kernel_rfl) (by kernel_rfl) (by kernel_rfl) hL.tail.tail
  refine ⟨h1, ?_⟩
  unfold Lib.TabIs World.var? at h1
  rw [show Tryz.prog.globalNamed "internal/strconv.uint64pow10" = some 3 by kernel_rfl] at h1
  simp only [Option.bind_some] at h1
  rcases Nat.lt_or_ge 3 W.heap.size with h | h
  · exact h
  · rw [Array.getElem?_eq_none h] at h1; cases h1
theorem u8_of_cell {P : Program} {W : World} {b : Nat} {t : TypeId} {v : Value} (ht : P.underlying t = some (.int .u8)) (h : Cell.okWide P W .any b t v) : ∃ p : Nat, v = .int .u8 p := by
  unfold Cell.okWide at h
  rw [ht] at h
  unfold Cell.ok at h
  rw [ht] at h
  cases v <;> simp at h
  obtain ⟨rfl, h⟩ := h
  rename_i n
  exact ⟨n.toNat, by
    have : 0 ≤ n := by simp [IntKind.has, IntKind.min, IntKind.signed] at h; omega
    rw [Int.toNat_of_nonneg this]⟩
theorem pair_of_okWide {P : Program} {W : World} {b : Nat} {t u : TypeId} {v : Value} (ht : P.underlying t = some (.array 2 u)) (hu : P.underlying u = some (.int .u8)) (hc2 : P.cellsOf t = 2) (hct : P.cellTypes P.depth t = some [u, u]) (h : Value.okWide P W .any b t v) : ∃ p q : Nat, v = .agg #[.int .u8 p, .int .u8 q] := by
  unfold Value.okWide at h
  rw [ht] at h
  dsimp only at h
  obtain ⟨cs, rfl, hc, ts, htt, _, hall⟩ := h
  rw [hc2] at hc
  rw [hct] at htt
  obtain rfl := Option.some.inj htt
  obtain ⟨l⟩ := cs
  match l, hc with
  | [x, y], _ =>
    obtain ⟨_, hu1, hx⟩ := hall 0 x rfl
    obtain ⟨_, hu2, hy⟩ := hall 1 y rfl
    obtain rfl := Option.some.inj hu1
    obtain rfl := Option.some.inj hu2
    obtain ⟨p, rfl⟩ := u8_of_cell hu hx
    obtain ⟨q, rfl⟩ := u8_of_cell hu hy
    exact ⟨p, q, rfl⟩
end Go.Proofs.YtkhhbckpddkhlaaGreatDoor
