/- Writes that come in, opened. -/
import Derived.Test.YtkhhbckpddkhlaaGreatDoorWA
import Derived.Test.YtkhhbckpddkhlaaGreatDoorKFrame
namespace Go.Proofs.YtkhhbckpddkhlaaGreatDoor
open Go.Shelf
open Go.ChangeShapes Go.WideShapes Go.ChangeAt Go.RowKit

theorem list4 {α : Type} {l : List α} (h : l.length = 4) : ∃ a b c d, l = [a, b, c, d] := by
  match l, h with
  | [a, b, c, d], _ => exact ⟨a, b, c, d, rfl⟩
theorem write_of_trod {H : Type} {enc : TypeId × Value → H} {W : World} (fuel : Nat) (cs : List Value) (x : DataW H × List MemPlace)
    (h : DataW.trod enc Tryz.prog W 0 (fun _ => true) true fuel 58 cs = some x) (_ : cs.length = 4) : ∃ e : WR, RW (cf W) e cs := by
  obtain ⟨xs, n, hfu, _, hlen, hxl, hg⟩ := DataW.trod_struct Tryz.underlying58 h
  rw [show Tryz.prog.cellsOf 58 = 4 by kernel_rfl] at hlen
  have hS : Tryz.prog.cellsOf 9 = 1 := by kernel_rfl
  have hI : Tryz.prog.cellsOf 3 = 1 := by kernel_rfl
  have hB : Tryz.prog.cellsOf 4 = 1 := by kernel_rfl
  obtain ⟨c0, c1, c2, c3, rfl⟩ := list4 hlen
  obtain ⟨y0, y1, y2, y3, rfl⟩ := list4 hxl
  have g0 : DataW.trod enc Tryz.prog W 0 (fun _ => true) true n 3 [c0] = some y0 := by have := hg 0 _ rfl; simpa [hI] using this
  have g1 : DataW.trod enc Tryz.prog W 0 (fun _ => true) true n 9 [c1] = some y1 := by have := hg 1 _ rfl; simpa [hI, hS] using this
  have g2 : DataW.trod enc Tryz.prog W 0 (fun _ => true) true n 4 [c2] = some y2 := by have := hg 2 _ rfl; simpa [hI, hS, hB] using this
  have g3 : DataW.trod enc Tryz.prog W 0 (fun _ => true) true n 9 [c3] = some y3 := by have := hg 3 _ rfl; simpa [hI, hS, hB] using this
  obtain ⟨k, e0, _, wk⟩ := DataW.trod_int Tryz.underlying3 g0
  obtain ⟨s, e1, _, ws⟩ := DataW.trod_string Tryz.underlying9 g1
  obtain ⟨b, e2, _⟩ := DataW.trod_bool Tryz.underlying4 g2
  obtain ⟨t, e3, _, wt⟩ := DataW.trod_string Tryz.underlying9 g3
  obtain rfl := (List.cons.inj e0).1
  obtain rfl := (List.cons.inj e1).1
  obtain rfl := (List.cons.inj e2).1
  obtain rfl := (List.cons.inj e3).1
  exact ⟨⟨k, s, b, t⟩, rfl, by unfold maxLen at ws; exact (by omega : s.size ≤ 9223372036854775807), by unfold maxLen at wt; exact (by omega : t.size ≤ 9223372036854775807), wk⟩
set_option maxRecDepth 100000 in
theorem writes_of_Trod {H : Type} {enc : TypeId × Value → H} {W : World} {base : Nat} {v : Value} {d : DataW H} {p : List MemPlace} (hv : Value.okWide Tryz.prog W .any base 54 v)
    (h : DataW.Trod enc Tryz.prog W 0 (fun _ => true) true 54 v d p) : ∃ l : List WR, SAt 4 RW (cf W) v l :=
  slice_of_Trod Tryz.underlying54 (by kernel_rfl) (by decide) (fun fuel cs x h hl => write_of_trod fuel cs x h hl) hv h
set_option maxRecDepth 100000 in
theorem write_of_Trod {H : Type} {enc : TypeId × Value → H} {W : World} {base : Nat} {v : Value} {d : DataW H} {p : List MemPlace} (hv : Value.okWide Tryz.prog W .any base 58 v)
    (h : DataW.Trod enc Tryz.prog W 0 (fun _ => true) true 58 v d p) : ∃ e : WR, v = .agg e.cells ∧ e.id.size ≤ 9223372036854775807 ∧ e.text.size ≤ 9223372036854775807 ∧ (Lit.int .i64 e.sp).wf = true := by
  have hv2 : ∃ cs, v = .agg cs := okWide_agg Tryz.underlying58 hv
  clear hv
  obtain ⟨cs, rfl⟩ := hv2
  obtain ⟨fuel, hf⟩ := h
  have hf' : DataW.trod enc Tryz.prog W 0 (fun _ => true) true fuel 58 cs.toList = some (d, p) := by simpa [Value.cells] using hf
  obtain ⟨xs, n, hfu, _, hlen, _, _⟩ := DataW.trod_struct Tryz.underlying58 hf'
  rw [show Tryz.prog.cellsOf 58 = 4 by kernel_rfl] at hlen
  obtain ⟨e, he, h1⟩ := write_of_trod _ _ _ hf' hlen
  exact ⟨e, by rw [← Array.toList_inj.1 he], h1⟩

end Go.Proofs.YtkhhbckpddkhlaaGreatDoor
