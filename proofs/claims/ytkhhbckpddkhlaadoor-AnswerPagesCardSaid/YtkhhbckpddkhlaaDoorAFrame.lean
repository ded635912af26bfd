/- Queries and documents that come in, opened. -/
import Derived.Test.YtkhhbckpddkhlaaDoorAB
import Derived.Test.YtkhhbckpddkhlaaDoorKFrame
import Derived.Test.YtkhhbckpddkhlaaDoorJFrame
namespace Go.Proofs.YtkhhbckpddkhlaaDoor
open Go.Shelf
open Go.ChangeShapes Go.WideShapes Go.ChangeAt Go.RowKit

theorem list6Q {α : Type} {l : List α} (h : l.length = 6) : ∃ a b c d e f, l = [a, b, c, d, e, f] := by
  match l, h with
  | [a, b, c, d, e, f], _ => exact ⟨a, b, c, d, e, f, rfl⟩
theorem list9Q {α : Type} {l : List α} (h : l.length = 9) : ∃ a b c d e f g i j, l = [a, b, c, d, e, f, g, i, j] := by
  match l, h with
  | [a, b, c, d, e, f, g, i, j], _ => exact ⟨a, b, c, d, e, f, g, i, j, rfl⟩
theorem list5Q {α : Type} {l : List α} (h : l.length = 5) : ∃ a b c d e, l = [a, b, c, d, e] := by
  match l, h with
  | [a, b, c, d, e], _ => exact ⟨a, b, c, d, e, rfl⟩
theorem list2Q {α : Type} {l : List α} (h : l.length = 2) : ∃ a b, l = [a, b] := by
  match l, h with
  | [a, b], _ => exact ⟨a, b, rfl⟩
theorem cellsQS : Tryd.prog.cellsOf 9 = 1 := by kernel_rfl
theorem cellsQB : Tryd.prog.cellsOf 4 = 1 := by kernel_rfl
theorem cellsQI : Tryd.prog.cellsOf 3 = 1 := by kernel_rfl
theorem cellsQV : Tryd.prog.cellsOf 25 = 5 := by kernel_rfl
theorem cellsQO : Tryd.prog.cellsOf 26 = 1 := by kernel_rfl
theorem cellsQF : Tryd.prog.cellsOf 22 = 1 := by kernel_rfl
theorem docQ_of_trod {H : Type} {enc : TypeId × Value → H} {W : World} (fuel : Nat) (cs : List Value) (x : DataW H × List MemPlace)
    (h : DataW.trod enc Tryd.prog W 0 (fun _ => true) true fuel 33 cs = some x) (_ : cs.length = 6) : ∃ e : DR, RD (cf W) e cs := by
  obtain ⟨xs, n, hfu, _, hlen, hxl, hg⟩ := DataW.trod_struct Tryd.underlying33 h
  rw [show Tryd.prog.cellsOf 33 = 6 by kernel_rfl] at hlen
  obtain ⟨c0, c1, c2, c3, c4, c5, rfl⟩ := list6Q hlen
  obtain ⟨y0, y1, rfl⟩ := list2Q hxl
  have g0 : DataW.trod enc Tryd.prog W 0 (fun _ => true) true n 9 [c0] = some y0 := by have := hg 0 _ rfl; simpa [cellsQS] using this
  have g1 : DataW.trod enc Tryd.prog W 0 (fun _ => true) true n 25 [c1, c2, c3, c4, c5] = some y1 := by have := hg 1 _ rfl; simpa [cellsQS, cellsQV] using this
  obtain ⟨s, e0, _, ws⟩ := DataW.trod_string Tryd.underlying9 g0
  obtain rfl := (List.cons.inj e0).1
  obtain ⟨v, hj⟩ := json_of_trod n _ _ g1
  obtain ⟨k, m, t, nm, it, na, ncap, ia, icap, rfl, e, _⟩ := hj.open
  have e2 : [c1, c2, c3, c4, c5] = [.int .i64 k, .int .i64 m, .string t, .slice na nm.length ncap, .slice ia it.length icap] := by
    have := Value.agg.inj e
    exact congrArg Array.toList this
  simp only [List.cons.injEq, and_true] at e2
  obtain ⟨rfl, rfl, rfl, rfl, rfl⟩ := e2
  exact ⟨⟨s, .mk k m t nm it⟩, k, m, t, na, nm.length, ncap, ia, it.length, icap, rfl, by unfold maxLen at ws; exact (by omega : s.size ≤ 9223372036854775807), rfl, hj⟩
theorem orderQ_of_trod {H : Type} {enc : TypeId × Value → H} {W : World} (fuel : Nat) (cs : List Value) (x : DataW H × List MemPlace)
    (h : DataW.trod enc Tryd.prog W 0 (fun _ => true) true fuel 60 cs = some x) (_ : cs.length = 2) : ∃ e : OR, RO (cf W) e cs := by
  obtain ⟨xs, n, hfu, _, hlen, hxl, hg⟩ := DataW.trod_struct Tryd.underlying60 h
  rw [show Tryd.prog.cellsOf 60 = 2 by kernel_rfl] at hlen
  obtain ⟨c0, c1, rfl⟩ := list2Q hlen
  obtain ⟨y0, y1, rfl⟩ := list2Q hxl
  have g0 : DataW.trod enc Tryd.prog W 0 (fun _ => true) true n 9 [c0] = some y0 := by have := hg 0 _ rfl; simpa [cellsQS] using this
  have g1 : DataW.trod enc Tryd.prog W 0 (fun _ => true) true n 4 [c1] = some y1 := by have := hg 1 _ rfl; simpa [cellsQS, cellsQB] using this
  obtain ⟨s, e0, _, ws⟩ := DataW.trod_string Tryd.underlying9 g0
  obtain ⟨b, e1, _⟩ := DataW.trod_bool Tryd.underlying4 g1
  obtain rfl := (List.cons.inj e0).1
  obtain rfl := (List.cons.inj e1).1
  exact ⟨⟨s, b⟩, rfl, by unfold maxLen at ws; exact (by omega : s.size ≤ 9223372036854775807)⟩
theorem strQ_of_trod {H : Type} {enc : TypeId × Value → H} {W : World} (fuel : Nat) (cs : List Value) (x : DataW H × List MemPlace)
    (h : DataW.trod enc Tryd.prog W 0 (fun _ => true) true fuel 9 cs = some x) (_ : cs.length = 1) : ∃ e : ByteArray, RS (cf W) e cs := by
  obtain ⟨s, e0, _, ws⟩ := DataW.trod_string Tryd.underlying9 h
  exact ⟨s, e0, by unfold maxLen at ws; exact (by omega : s.size ≤ 9223372036854775807)⟩
theorem queryQ_of_trod {H : Type} {enc : TypeId × Value → H} {W : World} (fuel : Nat) (cs : List Value) (x : DataW H × List MemPlace)
    (h : DataW.trod enc Tryd.prog W 0 (fun _ => true) true fuel 28 cs = some x) (_ : cs.length = 9) : ∃ q : QR, QAt (cf W) q cs := by
  obtain ⟨xs, n, hfu, _, hlen, hxl, hg⟩ := DataW.trod_struct Tryd.underlying28 h
  rw [show Tryd.prog.cellsOf 28 = 9 by kernel_rfl] at hlen
  obtain ⟨c0, c1, c2, c3, c4, c5, c6, c7, c8, rfl⟩ := list9Q hlen
  obtain ⟨y0, y1, y2, y3, y4, rfl⟩ := list5Q hxl
  have g0 : DataW.trod enc Tryd.prog W 0 (fun _ => true) true n 25 [c0, c1, c2, c3, c4] = some y0 := by have := hg 0 _ rfl; simpa [cellsQV] using this
  have g1 : DataW.trod enc Tryd.prog W 0 (fun _ => true) true n 26 [c5] = some y1 := by have := hg 1 _ rfl; simpa [cellsQV, cellsQO] using this
  have g2 : DataW.trod enc Tryd.prog W 0 (fun _ => true) true n 22 [c6] = some y2 := by have := hg 2 _ rfl; simpa [cellsQV, cellsQO, cellsQF] using this
  have g3 : DataW.trod enc Tryd.prog W 0 (fun _ => true) true n 3 [c7] = some y3 := by have := hg 3 _ rfl; simpa [cellsQV, cellsQO, cellsQF, cellsQI] using this
  have g4 : DataW.trod enc Tryd.prog W 0 (fun _ => true) true n 3 [c8] = some y4 := by have := hg 4 _ rfl; simpa [cellsQV, cellsQO, cellsQF, cellsQI] using this
  obtain ⟨v, hj⟩ := json_of_trod n _ _ g0
  obtain ⟨k, m, t, nm, it, na, ncap, ia, icap, rfl, e, _⟩ := hj.open
  have e2 : [c0, c1, c2, c3, c4] = [.int .i64 k, .int .i64 m, .string t, .slice na nm.length ncap, .slice ia it.length icap] := by
    have := Value.agg.inj e
    exact congrArg Array.toList this
  simp only [List.cons.injEq, and_true] at e2
  obtain ⟨rfl, rfl, rfl, rfl, rfl⟩ := e2
  obtain ⟨so, hso⟩ := slice_of_trod (R := RO) (n := 2) Tryd.underlying26 (by kernel_rfl) (by decide) (fun fuel cs x h hl => orderQ_of_trod fuel cs x h hl) g1
  obtain ⟨fl, hfl⟩ := slice_of_trod (R := RS) (n := 1) Tryd.underlying22 (by kernel_rfl) (by decide) (fun fuel cs x h hl => strQ_of_trod fuel cs x h hl) g2
  obtain ⟨sk, e3, _, _⟩ := DataW.trod_int Tryd.underlying3 g3
  obtain ⟨lm, e4, _, _⟩ := DataW.trod_int Tryd.underlying3 g4
  obtain rfl := (List.cons.inj e3).1
  obtain rfl := (List.cons.inj e4).1
  exact ⟨⟨.mk k m t nm it, so, fl, sk, lm⟩, k, m, t, na, nm.length, ncap, ia, it.length, icap, c5, c6, rfl, hj, hso, hfl⟩
set_option maxRecDepth 100000 in
theorem docsQ_of_Trod {H : Type} {enc : TypeId × Value → H} {W : World} {base : Nat} {v : Value} {d : DataW H} {p : List MemPlace} (hv : Value.okWide Tryd.prog W .any base 29 v)
    (h : DataW.Trod enc Tryd.prog W 0 (fun _ => true) true 29 v d p) : ∃ l : List DR, SAt 6 RD (cf W) v l :=
  slice_of_Trod Tryd.underlying29 (by kernel_rfl) (by decide) (fun fuel cs x h hl => docQ_of_trod fuel cs x h hl) hv h
set_option maxRecDepth 100000 in
theorem docQ_of_Trod {H : Type} {enc : TypeId × Value → H} {W : World} {base : Nat} {v : Value} {d : DataW H} {p : List MemPlace} (hv : Value.okWide Tryd.prog W .any base 33 v)
    (h : DataW.Trod enc Tryd.prog W 0 (fun _ => true) true 33 v d p) : ∃ (e : DR) (cs : List Value), v = .agg cs.toArray ∧ RD (cf W) e cs := by
  have hv2 : ∃ cs, v = .agg cs := okWide_agg Tryd.underlying33 hv
  clear hv
  obtain ⟨cs, rfl⟩ := hv2
  obtain ⟨fuel, hf⟩ := h
  have hf' : DataW.trod enc Tryd.prog W 0 (fun _ => true) true fuel 33 cs.toList = some (d, p) := by simpa [Value.cells] using hf
  obtain ⟨xs, n, hfu, _, hlen, _, _⟩ := DataW.trod_struct Tryd.underlying33 hf'
  rw [show Tryd.prog.cellsOf 33 = 6 by kernel_rfl] at hlen
  obtain ⟨e, he⟩ := docQ_of_trod _ _ _ hf' hlen
  exact ⟨e, cs.toList, rfl, he⟩
set_option maxRecDepth 100000 in
theorem queryQ_of_Trod {H : Type} {enc : TypeId × Value → H} {W : World} {base : Nat} {v : Value} {d : DataW H} {p : List MemPlace} (hv : Value.okWide Tryd.prog W .any base 28 v)
    (h : DataW.Trod enc Tryd.prog W 0 (fun _ => true) true 28 v d p) : ∃ (q : QR) (cs : List Value), v = .agg cs.toArray ∧ QAt (cf W) q cs := by
  have hv2 : ∃ cs, v = .agg cs := okWide_agg Tryd.underlying28 hv
  clear hv
  obtain ⟨cs, rfl⟩ := hv2
  obtain ⟨fuel, hf⟩ := h
  have hf' : DataW.trod enc Tryd.prog W 0 (fun _ => true) true fuel 28 cs.toList = some (d, p) := by simpa [Value.cells] using hf
  obtain ⟨xs, n, hfu, _, hlen, _, _⟩ := DataW.trod_struct Tryd.underlying28 hf'
  rw [show Tryd.prog.cellsOf 28 = 9 by kernel_rfl] at hlen
  obtain ⟨e, he⟩ := queryQ_of_trod _ _ _ hf' hlen
  exact ⟨e, cs.toList, rfl, he⟩

end Go.Proofs.YtkhhbckpddkhlaaDoor
