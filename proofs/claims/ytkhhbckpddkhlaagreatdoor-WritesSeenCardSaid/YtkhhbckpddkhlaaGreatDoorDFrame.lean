/- Documents that come in, opened. -/
import Derived.Test.YtkhhbckpddkhlaaGreatDoorDA
import Derived.Test.YtkhhbckpddkhlaaGreatDoorWFrame
namespace Go.Proofs.YtkhhbckpddkhlaaGreatDoor
open Go.Shelf
open Go.ChangeShapes Go.WideShapes Go.ChangeAt Go.RowKit

theorem list6 {α : Type} {l : List α} (h : l.length = 6) : ∃ a b c d e f, l = [a, b, c, d, e, f] := by
  match l, h with
  | [a, b, c, d, e, f], _ => exact ⟨a, b, c, d, e, f, rfl⟩
theorem list2D {α : Type} {l : List α} (h : l.length = 2) : ∃ a b, l = [a, b] := by
  match l, h with
  | [a, b], _ => exact ⟨a, b, rfl⟩
theorem doc_of_trod {H : Type} {enc : TypeId × Value → H} {W : World} (fuel : Nat) (cs : List Value) (x : DataW H × List MemPlace)
    (h : DataW.trod enc Tryz.prog W 0 (fun _ => true) true fuel 47 cs = some x) (_ : cs.length = 6) : ∃ e : DR, RD (cf W) e cs := by
  obtain ⟨xs, n, hfu, _, hlen, hxl, hg⟩ := DataW.trod_struct Tryz.underlying47 h
  rw [show Tryz.prog.cellsOf 47 = 6 by kernel_rfl] at hlen
  have hS : Tryz.prog.cellsOf 9 = 1 := by kernel_rfl
  have hV : Tryz.prog.cellsOf 25 = 5 := by kernel_rfl
  obtain ⟨c0, c1, c2, c3, c4, c5, rfl⟩ := list6 hlen
  obtain ⟨y0, y1, rfl⟩ := list2D hxl
  have g0 : DataW.trod enc Tryz.prog W 0 (fun _ => true) true n 9 [c0] = some y0 := by have := hg 0 _ rfl; simpa [hS] using this
  have g1 : DataW.trod enc Tryz.prog W 0 (fun _ => true) true n 25 [c1, c2, c3, c4, c5] = some y1 := by have := hg 1 _ rfl; simpa [hS, hV] using this
  obtain ⟨s, e0, _, ws⟩ := DataW.trod_string Tryz.underlying9 g0
  obtain rfl := (List.cons.inj e0).1
  obtain ⟨v, hj⟩ := json_of_trod n _ _ g1
  obtain ⟨k, m, t, nm, it, na, ncap, ia, icap, rfl, e, _⟩ := hj.open
  have e2 : [c1, c2, c3, c4, c5] = [.int .i64 k, .int .i64 m, .string t, .slice na nm.length ncap, .slice ia it.length icap] := by
    have := Value.agg.inj e
    exact congrArg Array.toList this
  simp only [List.cons.injEq, and_true] at e2
  obtain ⟨rfl, rfl, rfl, rfl, rfl⟩ := e2
  exact ⟨⟨s, .mk k m t nm it⟩, k, m, t, na, nm.length, ncap, ia, it.length, icap, rfl, by unfold maxLen at ws; exact (by omega : s.size ≤ 9223372036854775807), rfl, hj⟩
set_option maxRecDepth 100000 in
theorem docs_of_Trod {H : Type} {enc : TypeId × Value → H} {W : World} {base : Nat} {v : Value} {d : DataW H} {p : List MemPlace} (hv : Value.okWide Tryz.prog W .any base 29 v)
    (h : DataW.Trod enc Tryz.prog W 0 (fun _ => true) true 29 v d p) : ∃ l : List DR, SAt 6 RD (cf W) v l :=
  slice_of_Trod Tryz.underlying29 (by kernel_rfl) (by decide) (fun fuel cs x h hl => doc_of_trod fuel cs x h hl) hv h

end Go.Proofs.YtkhhbckpddkhlaaGreatDoor
