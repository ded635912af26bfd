/- What the cards of the catalog laws share: acts and catalogs that come in, opened. -/
import Derived.Test.YtcmfanfkcbjeoaaGreatDoorCO
import Derived.Test.YtcmfanfkcbjeoaaGreatDoorKFrame
import Derived.Test.YtcmfanfkcbjeoaaGreatDoorEFrame
namespace Go.Proofs.YtcmfanfkcbjeoaaGreatDoor
open Go.Shelf
open Go.ChangeShapes Go.WideShapes Go.ChangeAt Go.RowKit

theorem list5Z {α : Type} {l : List α} (h : l.length = 5) : ∃ a b c d e, l = [a, b, c, d, e] := by
  match l, h with
  | [a, b, c, d, e], _ => exact ⟨a, b, c, d, e, rfl⟩
theorem list4Z {α : Type} {l : List α} (h : l.length = 4) : ∃ a b c d, l = [a, b, c, d] := by
  match l, h with
  | [a, b, c, d], _ => exact ⟨a, b, c, d, rfl⟩
theorem cells_intZ : Tryz.prog.cellsOf 3 = 1 := by kernel_rfl
theorem cells_strZ : Tryz.prog.cellsOf 9 = 1 := by kernel_rfl
set_option maxRecDepth 100000 in
theorem op_of_trod {H : Type} {enc : TypeId × Value → H} {W : World} (fuel : Nat) (cs : List Value) (x : DataW H × List MemPlace)
    (h : DataW.trod enc Tryz.prog W 0 (fun _ => true) true fuel 62 cs = some x) (_ : cs.length = 5) : ∃ e : OpX, ROp (cf W) e cs := by
  obtain ⟨xs, n, hfu, _, hlen, hxl, hg⟩ := DataW.trod_struct Tryz.underlying62 h
  rw [show Tryz.prog.cellsOf 62 = 5 by kernel_rfl] at hlen
  obtain ⟨c0, c1, c2, c3, c4, rfl⟩ := list5Z hlen
  obtain ⟨y0, y1, y2, rfl⟩ := list3 hxl
  have g0 : DataW.trod enc Tryz.prog W 0 (fun _ => true) true n 3 [c0] = some y0 := by have := hg 0 _ rfl; simpa [cells_intZ] using this
  have g1 : DataW.trod enc Tryz.prog W 0 (fun _ => true) true n 9 [c1] = some y1 := by have := hg 1 _ rfl; simpa [cells_intZ, cells_strZ] using this
  have g2 : DataW.trod enc Tryz.prog W 0 (fun _ => true) true n 44 [c2, c3, c4] = some y2 := by have := hg 2 _ rfl; simpa [cells_intZ, cells_strZ, cells_ix] using this
  obtain ⟨kd, e0, _, w0⟩ := DataW.trod_int Tryz.underlying3 g0
  obtain ⟨s, e1, _, ws⟩ := DataW.trod_string Tryz.underlying9 g1
  obtain rfl := (List.cons.inj e0).1
  obtain rfl := (List.cons.inj e1).1
  obtain ⟨⟨nm, fl, u⟩, hnm, fv, e, hf⟩ := index_of_trod g2
  have e2 : [c2, c3, c4] = [.string nm, fv, .bool u] := by
    have := Value.agg.inj e
    exact congrArg Array.toList this
  simp only [List.cons.injEq, and_true] at e2
  obtain ⟨rfl, rfl, rfl⟩ := e2
  obtain ⟨a, cap, rfl, _⟩ := id hf
  exact ⟨⟨kd, s, ⟨nm, fl, u⟩⟩, a, cap, rfl, by unfold maxLen at ws; exact (by omega : s.size ≤ 9223372036854775807), hnm, hf, w0⟩
set_option maxRecDepth 100000 in
theorem ops_of_Trod {H : Type} {enc : TypeId × Value → H} {W : World} {base : Nat} {v : Value} {d : DataW H} {p : List MemPlace} (hv : Value.okWide Tryz.prog W .any base 52 v)
    (h : DataW.Trod enc Tryz.prog W 0 (fun _ => true) true 52 v d p) : ∃ l : List OpX, SAt 5 ROp (cf W) v l :=
  slice_of_Trod Tryz.underlying52 (by kernel_rfl) (by decide) (fun fuel cs x h hl => op_of_trod fuel cs x h hl) hv h

end Go.Proofs.YtcmfanfkcbjeoaaGreatDoor
