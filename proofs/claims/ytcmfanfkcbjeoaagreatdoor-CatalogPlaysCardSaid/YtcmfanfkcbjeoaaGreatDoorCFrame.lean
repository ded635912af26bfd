/- What the cards of the catalog laws share: acts and catalogs that come in, opened. -/
import Derived.Test.YtcmfanfkcbjeoaaGreatDoorCO
import Derived.Test.YtcmfanfkcbjeoaaGreatDoorKFrame
import Derived.Test.YtcmfanfkcbjeoaaGreatDoorEFrame
namespace Go.Proofs.YtcmfanfkcbjeoaaGreatDoor
open Go.Shelf
open Go.ChangeShapes Go.WideShapes Go.ChangeAt Go.RowKit

theorem list5Z {α : Type} {l : List α} (h : l.length = 5) : ∃ a b c d e, l = [a, b, c, d, e] := by
  match l, h with
  | [a, b, c, d, e], _ => exact ⟨a, b, c, d, e, rfl⟩
theorem list4Z {α : Type} {l : List α} (h : l.length = 4) : ∃ a b c d, l = [a, b, c, d] := by
  match l, h with
  | [a, b, c, d], _ => exact ⟨a, b, c, d, rfl⟩
theorem cells_intZ : Tryz.prog.cellsOf 3 = 1 := by kernel_rfl
theorem cells_strZ : Tryz.prog.cellsOf 9 = 1 := by kernel_rfl
set_option maxRecDepth 100000 in
theorem op_of_trod {H : Type} {enc : TypeId × Value → H} {W : World} (fuel : Nat) (cs : List Value) (x : DataW H × List MemPlace)
    (h : DataW.trod enc Tryz.prog W 0 (fun _ => true) true fuel 62 cs = some x) (_ : cs.length = 5) : ∃ e : OpX, ROp (cf W) e cs := by
  obtain ⟨xs, n, hfu, _, hlen, hxl, hg⟩ := DataW.trod_struct Tryz.underlying62 h
  rw [show Tryz.prog.cellsOf 62 = 5 by kernel_rfl] at hlen
  obtain ⟨c0, c1, c2, c3, c4, rfl⟩ := list5Z hlen
  obtain ⟨y0, y1, y2, rfl⟩ := list3 hxl
  have g0 : DataW.trod enc Tryz.prog W 0 (fun _ => true) true n 3 [c0] = some y0 := by have := hg 0 _ rfl; simpa [cells_intZ] using this
  have g1 : DataW.trod enc Tryz.prog W 0 (fun _ => true) true n 9 [c1] = some y1 := by have := hg 1 _ rfl; simpa [cells_intZ, cells_strZ] using this
  have g2 : DataW.trod enc Tryz.prog W 0 (fun _ => true) true n 44 [c2, c3, c4] = some y2 := by have := hg 2 _ rfl; simpa [cells_intZ, cells_strZ, cells_ix] using this
  obtain ⟨kd, e0, _, w0⟩ := DataW.trod_int Tryz.underlying3 g0
  obtain ⟨s, e1, _, ws⟩ := DataW.trod_string Tryz.underlying9 g1
  obtain rfl := (List.cons.inj e0).1
  obtain rfl := (List.cons.inj e1).1
  obtain ⟨⟨nm, fl, u⟩, hnm, fv, e, hf⟩ := index_of_trod g2
  have e2 : [c2, c3, c4] = [.string nm, fv, .bool u] := by
    have := Value.agg.inj e
    exact congrArg Array.toList this
  simp only [List.cons.injEq, and_true] at e2
  obtain ⟨rfl, rfl, rfl⟩ := e2
  obtain ⟨a, cap, rfl, _⟩ := id hf
  exact ⟨⟨kd, s, ⟨nm, fl, u⟩⟩, a, cap, rfl, by unfold maxLen at ws; exact (by omega : s.size ≤ 9223372036854775807), hnm, hf, w0⟩
set_option maxRecDepth 100000 in
theorem ops_of_Trod {H : Type} {enc : TypeId × Value → H} {W : World} {base : Nat} {v : Value} {d : DataW H} {p : List MemPlace} (hv : Value.okWide Tryz.prog W .any base 52 v)
    (h : DataW.Trod enc Tryz.prog W 0 (fun _ => true) true 52 v d p) : ∃ l : List OpX, SAt 5 ROp (cf W) v l :=
  slice_of_Trod Tryz.underlying52 (by kernel_rfl) (by decide) (fun fuel cs x h hl => op_of_trod fuel cs x h hl) hv h

set_option maxRecDepth 100000 in
theorem placed_of_trod {H : Type} {enc : TypeId × Value → H} {W : World} (fuel : Nat) (cs : List Value) (x : DataW H × List MemPlace)
    (h : DataW.trod enc Tryz.prog W 0 (fun _ => true) true fuel 102 cs = some x) (_ : cs.length = 4) : ∃ e : PX, RPX (cf W) e cs := by
  obtain ⟨xs, n, hfu, _, hlen, hxl, hg⟩ := DataW.trod_struct Tryz.underlying102 h
  rw [show Tryz.prog.cellsOf 102 = 4 by kernel_rfl] at hlen
  obtain ⟨c2, c3, c4, c0, rfl⟩ := list4Z hlen
  obtain ⟨y2, y0, rfl⟩ := list2 hxl
  have g2 : DataW.trod enc Tryz.prog W 0 (fun _ => true) true n 44 [c2, c3, c4] = some y2 := by have := hg 0 _ rfl; simpa [cells_intZ, cells_strZ, cells_ix] using this
  have g0 : DataW.trod enc Tryz.prog W 0 (fun _ => true) true n 3 [c0] = some y0 := by have := hg 1 _ rfl; simpa [cells_intZ, cells_ix] using this
  obtain ⟨kd, e0, _, w0⟩ := DataW.trod_int Tryz.underlying3 g0
  obtain rfl := (List.cons.inj e0).1
  obtain ⟨⟨nm, fl, u⟩, hnm, fv, e, hf⟩ := index_of_trod g2
  have e2 : [c2, c3, c4] = [.string nm, fv, .bool u] := by
    have := Value.agg.inj e
    exact congrArg Array.toList this
  simp only [List.cons.injEq, and_true] at e2
  obtain ⟨rfl, rfl, rfl⟩ := e2
  obtain ⟨a, cap, rfl, _⟩ := id hf
  exact ⟨⟨⟨nm, fl, u⟩, kd⟩, a, cap, rfl, hnm, hf, w0⟩
set_option maxRecDepth 100000 in
theorem coll_of_trod {H : Type} {enc : TypeId × Value → H} {W : World} (fuel : Nat) (cs : List Value) (x : DataW H × List MemPlace)
    (h : DataW.trod enc Tryz.prog W 0 (fun _ => true) true fuel 80 cs = some x) (_ : cs.length = 3) : ∃ e : CX, RCX (cf W) e cs := by
  obtain ⟨xs, n, hfu, _, hlen, hxl, hg⟩ := DataW.trod_struct Tryz.underlying80 h
  rw [show Tryz.prog.cellsOf 80 = 3 by kernel_rfl] at hlen
  obtain ⟨c0, c1, c2, rfl⟩ := list3 hlen
  obtain ⟨y0, y1, y2, rfl⟩ := list3 hxl
  have hP : Tryz.prog.cellsOf 78 = 1 := by kernel_rfl
  have g0 : DataW.trod enc Tryz.prog W 0 (fun _ => true) true n 9 [c0] = some y0 := by have := hg 0 _ rfl; simpa [cells_strZ] using this
  have g1 : DataW.trod enc Tryz.prog W 0 (fun _ => true) true n 3 [c1] = some y1 := by have := hg 1 _ rfl; simpa [cells_intZ, cells_strZ] using this
  have g2 : DataW.trod enc Tryz.prog W 0 (fun _ => true) true n 78 [c2] = some y2 := by have := hg 2 _ rfl; simpa [cells_intZ, cells_strZ, hP] using this
  obtain ⟨s, e0, _, ws⟩ := DataW.trod_string Tryz.underlying9 g0
  obtain ⟨sp, e1, _, w1⟩ := DataW.trod_int Tryz.underlying3 g1
  obtain rfl := (List.cons.inj e0).1
  obtain rfl := (List.cons.inj e1).1
  obtain ⟨ixs, hi⟩ := slice_of_trod (n := 4) (R := RPX) Tryz.underlying78 (by kernel_rfl) (by decide) (fun fuel cs x h hl => placed_of_trod fuel cs x h hl) g2
  obtain ⟨a, cap, rfl, _⟩ := id hi
  exact ⟨⟨s, sp, ixs⟩, a, cap, rfl, by unfold maxLen at ws; exact (by omega : s.size ≤ 9223372036854775807), w1, hi⟩
theorem list1Z {α : Type} {l : List α} (h : l.length = 1) : ∃ a, l = [a] := by
  match l, h with
  | [a], _ => exact ⟨a, rfl⟩
set_option maxRecDepth 100000 in
theorem cat_of_Trod {H : Type} {enc : TypeId × Value → H} {W : World} {base : Nat} {v : Value} {d : DataW H} {p : List MemPlace} (hv : Value.okWide Tryz.prog W .any base 51 v)
    (h : DataW.Trod enc Tryz.prog W 0 (fun _ => true) true 51 v d p) : ∃ l, CatAt (cf W) l v := by
  have hv2 : ∃ cs, v = .agg cs := okWide_agg Tryz.underlying51 hv
  clear hv
  obtain ⟨cs, rfl⟩ := hv2
  obtain ⟨fuel, hf⟩ := h
  obtain ⟨xs, n, hfu, _, hlen, hxl, hg⟩ := DataW.trod_struct Tryz.underlying51 hf
  rw [show Tryz.prog.cellsOf 51 = 1 by kernel_rfl] at hlen
  have hcl : (Value.agg cs).cells = cs := by simp [Value.cells]
  rw [hcl] at hlen hg
  have hP : Tryz.prog.cellsOf 49 = 1 := by kernel_rfl
  obtain ⟨c0, hc⟩ := list1Z hlen
  obtain ⟨y0, rfl⟩ := list1Z hxl
  rw [hc] at hg
  have g0 : DataW.trod enc Tryz.prog W 0 (fun _ => true) true n 49 [c0] = some y0 := by have := hg 0 _ rfl; simpa [hP] using this
  obtain ⟨l, hl⟩ := slice_of_trod (n := 3) (R := RCX) Tryz.underlying49 (by kernel_rfl) (by decide) (fun fuel cs x h hl => coll_of_trod fuel cs x h hl) g0
  obtain ⟨a, cap, rfl, _⟩ := id hl
  have e : cs = #[.slice a l.length cap] := by
    cases cs; simp only at hc; rw [hc]
  exact ⟨l, a, cap, by rw [e], hl⟩

end Go.Proofs.YtcmfanfkcbjeoaaGreatDoor
