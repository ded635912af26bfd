/- A slice of anything that comes in, opened. -/
import Derived.Test.YtfpphpjobkhalaaGreatDoorZ06
import Derived.Test.YtfpphpjobkhalaaGreatDoorZ15
import Derived.Test.YtfpphpjobkhalaaGreatDoorZ16
import Derived.Test.YtfpphpjobkhalaaGreatDoorZ17
import Derived.Test.YtfpphpjobkhalaaGreatDoorZ19
namespace Go.Proofs.YtfpphpjobkhalaaGreatDoor
open Go.ChangeShapes Go.WideShapes Go.ChangeAt Go.RowKit

theorem slice_of_trod {α : Type} {n : Nat} {R : Rep α} {T Ts : TypeId} (hTs : Tryz.prog.underlying Ts = some (.slice T)) (hc : Tryz.prog.cellsOf T = n) (hn : 0 < n) {H : Type} {enc : TypeId × Value → H} {W : World}
    (hel : ∀ fuel cs x, DataW.trod enc Tryz.prog W 0 (fun _ => true) true fuel T cs = some x → cs.length = n → ∃ e : α, R (cf W) e cs) {fuel : Nat} {c : Value} {x : DataW H × List MemPlace}
    (h : DataW.trod enc Tryz.prog W 0 (fun _ => true) true fuel Ts [c] = some x) : ∃ l : List α, SAt n R (cf W) c l := by
  rcases DataW.trod_slice hTs h with ⟨hcs, _⟩ | ⟨a, len, cap, elems, rest, n', hn', hcs, _, _, hl, hm, hle, hel2, _⟩
  · cases hcs
    exact ⟨[], SAt.none _ _ _⟩
  · cases hcs
    have hx : ∀ i, i < len → ∃ p : Option (α × List Value), ∃ e d, p = some (e, d) ∧ d.length = n ∧ (∀ (j : Nat) u, d[j]? = some u → W.cell? (a.add (i * n + j)) = some u) ∧ R (cf W) e d := by
      intro i hil
      have h1 := hel2 i hil
      rw [List.getElem?_eq_getElem (by omega), Option.bind_eq_some_iff] at h1
      obtain ⟨cs', hc', ht⟩ := h1
      rw [hc] at hc'
      obtain ⟨_, hcl, hat⟩ := World.cells?_some hc'
      obtain ⟨e, he⟩ := hel _ _ _ ht hcl
      refine ⟨some (e, cs'), e, cs', rfl, hcl, fun j u hu => ?_, he⟩
      have hj : j < n := by rw [← hcl]; exact (List.getElem?_eq_some_iff.1 hu).1
      have := hat j hj
      rw [hu] at this
      simpa [Go.Deep.add_add] using this
    obtain ⟨f, hf⟩ := Go.Deep.choose_lt hx
    have hget : ∀ i, i < len → ∃ e d, f i = some (e, d) ∧ d.length = n ∧ (∀ (j : Nat) u, d[j]? = some u → W.cell? (a.add (i * n + j)) = some u) ∧ R (cf W) e d := hf
    have hlist : ∀ m, m ≤ len → ∃ l : List α, l.length = m ∧ ∀ i e, l[i]? = some e → ∃ d, f i = some (e, d) := by
      intro m
      induction m with
      | zero => intro _; exact ⟨[], rfl, fun i e h => by simp at h⟩
      | succ m ih =>
        intro hm2
        obtain ⟨l, hl1, hl2⟩ := ih (by omega)
        obtain ⟨e, d, hfe, _⟩ := hget m (by omega)
        refine ⟨l ++ [e], by simp [hl1], fun i y hy => ?_⟩
        by_cases hi : i < l.length
        · rw [List.getElem?_append_left hi] at hy; exact hl2 i y hy
        · rw [List.getElem?_append_right (by omega)] at hy
          cases he : i - l.length with
          | zero => rw [he] at hy; obtain rfl : e = y := by simpa using hy
                    exact ⟨d, by rw [show i = m by omega]; exact hfe⟩
          | succ q => rw [he] at hy; simp at hy
    obtain ⟨l, hl1, hl2⟩ := hlist len (Nat.le_refl _)
    refine ⟨l, some a, cap, by rw [hl1], by omega, by unfold maxLen at hm; omega, fun i e he => ?_⟩
    have hil : i < len := by rw [← hl1]; exact (List.getElem?_eq_some_iff.1 he).1
    obtain ⟨e2, d, h1, h2, h3, h4⟩ := hget i hil
    obtain ⟨d', h5⟩ := hl2 i e he
    rw [h1] at h5
    obtain ⟨rfl, rfl⟩ : e2 = e ∧ d = d' := by simpa using h5
    obtain ⟨b, off, spot⟩ := a
    obtain ⟨e0, d0, _, k2, k3, _⟩ := hget 0 (by omega)
    have hs := cell_spot ⟨_, by have := k3 0 _ (List.getElem?_eq_getElem (by omega : 0 < d0.length)); simpa using this⟩
    subst hs
    refine ⟨b, off, d, rfl, h2, fun j u hu => ?_, h4⟩
    have := h3 j u hu
    rw [addr_add] at this
    unfold cf; rw [Nat.add_assoc]; exact this
end Go.Proofs.YtfpphpjobkhalaaGreatDoor

/- What the cards of the catalog laws share: acts and catalogs that come in, opened. -/
namespace Go.Proofs.YtfpphpjobkhalaaGreatDoor
open Go.Shelf
open Go.ChangeShapes Go.WideShapes Go.ChangeAt Go.RowKit

theorem list4Z {α : Type} {l : List α} (h : l.length = 4) : ∃ a b c d, l = [a, b, c, d] := by
  match l, h with
  | [a, b, c, d], _ => exact ⟨a, b, c, d, rfl⟩
theorem cells_intZ : Tryz.prog.cellsOf 3 = 1 := by kernel_rfl
theorem cells_strZ : Tryz.prog.cellsOf 9 = 1 := by kernel_rfl
set_option maxRecDepth 100000 in
theorem placed_of_trod {H : Type} {enc : TypeId × Value → H} {W : World} (fuel : Nat) (cs : List Value) (x : DataW H × List MemPlace)
    (h : DataW.trod enc Tryz.prog W 0 (fun _ => true) true fuel 69 cs = some x) (_ : cs.length = 4) : ∃ e : PX, RPX (cf W) e cs := by
  obtain ⟨xs, n, hfu, _, hlen, hxl, hg⟩ := DataW.trod_struct Tryz.underlying69 h
  rw [show Tryz.prog.cellsOf 69 = 4 by kernel_rfl] at hlen
  obtain ⟨c2, c3, c4, c0, rfl⟩ := list4Z hlen
  obtain ⟨y2, y0, rfl⟩ := list2 hxl
  have g2 : DataW.trod enc Tryz.prog W 0 (fun _ => true) true n 38 [c2, c3, c4] = some y2 := by have := hg 0 _ rfl; simpa [cells_intZ, cells_strZ, cells_ix] using this
  have g0 : DataW.trod enc Tryz.prog W 0 (fun _ => true) true n 3 [c0] = some y0 := by have := hg 1 _ rfl; simpa [cells_intZ, cells_ix] using this
  obtain ⟨kd, e0, _, w0⟩ := DataW.trod_int Tryz.underlying3 g0
  obtain rfl := (List.cons.inj e0).1
  obtain ⟨⟨nm, fl, u⟩, hnm, fv, e, hf⟩ := index_of_trod g2
  have e2 : [c2, c3, c4] = [.string nm, fv, .bool u] := by
    have := Value.agg.inj e
    exact congrArg Array.toList this
  simp only [List.cons.injEq, and_true] at e2
  obtain ⟨rfl, rfl, rfl⟩ := e2
  obtain ⟨a, cap, rfl, _⟩ := id hf
  exact ⟨⟨⟨nm, fl, u⟩, kd⟩, a, cap, rfl, hnm, hf, w0⟩
set_option maxRecDepth 100000 in
theorem coll_of_trod {H : Type} {enc : TypeId × Value → H} {W : World} (fuel : Nat) (cs : List Value) (x : DataW H × List MemPlace)
    (h : DataW.trod enc Tryz.prog W 0 (fun _ => true) true fuel 67 cs = some x) (_ : cs.length = 3) : ∃ e : CX, RCX (cf W) e cs := by
  obtain ⟨xs, n, hfu, _, hlen, hxl, hg⟩ := DataW.trod_struct Tryz.underlying67 h
  rw [show Tryz.prog.cellsOf 67 = 3 by kernel_rfl] at hlen
  obtain ⟨c0, c1, c2, rfl⟩ := list3 hlen
  obtain ⟨y0, y1, y2, rfl⟩ := list3 hxl
  have hP : Tryz.prog.cellsOf 65 = 1 := by kernel_rfl
  have g0 : DataW.trod enc Tryz.prog W 0 (fun _ => true) true n 9 [c0] = some y0 := by have := hg 0 _ rfl; simpa [cells_strZ] using this
  have g1 : DataW.trod enc Tryz.prog W 0 (fun _ => true) true n 3 [c1] = some y1 := by have := hg 1 _ rfl; simpa [cells_intZ, cells_strZ] using this
  have g2 : DataW.trod enc Tryz.prog W 0 (fun _ => true) true n 65 [c2] = some y2 := by have := hg 2 _ rfl; simpa [cells_intZ, cells_strZ, hP] using this
  obtain ⟨s, e0, _, ws⟩ := DataW.trod_string Tryz.underlying9 g0
  obtain ⟨sp, e1, _, w1⟩ := DataW.trod_int Tryz.underlying3 g1
  obtain rfl := (List.cons.inj e0).1
  obtain rfl := (List.cons.inj e1).1
  obtain ⟨ixs, hi⟩ := slice_of_trod (n := 4) (R := RPX) Tryz.underlying65 (by kernel_rfl) (by decide) (fun fuel cs x h hl => placed_of_trod fuel cs x h hl) g2
  obtain ⟨a, cap, rfl, _⟩ := id hi
  exact ⟨⟨s, sp, ixs⟩, a, cap, rfl, by unfold maxLen at ws; exact (by omega : s.size ≤ 9223372036854775807), w1, hi⟩
theorem list1Z {α : Type} {l : List α} (h : l.length = 1) : ∃ a, l = [a] := by
  match l, h with
  | [a], _ => exact ⟨a, rfl⟩
set_option maxRecDepth 100000 in
theorem cat_of_Trod {H : Type} {enc : TypeId × Value → H} {W : World} {base : Nat} {v : Value} {d : DataW H} {p : List MemPlace} (hv : Value.okWide Tryz.prog W .any base 24 v)
    (h : DataW.Trod enc Tryz.prog W 0 (fun _ => true) true 24 v d p) : ∃ l, CatAt (cf W) l v := by
  have hv2 : ∃ cs, v = .agg cs := okWide_agg Tryz.underlying24 hv
  clear hv
  obtain ⟨cs, rfl⟩ := hv2
  obtain ⟨fuel, hf⟩ := h
  obtain ⟨xs, n, hfu, _, hlen, hxl, hg⟩ := DataW.trod_struct Tryz.underlying24 hf
  rw [show Tryz.prog.cellsOf 24 = 1 by kernel_rfl] at hlen
  have hcl : (Value.agg cs).cells = cs := by simp [Value.cells]
  rw [hcl] at hlen hg
  have hP : Tryz.prog.cellsOf 22 = 1 := by kernel_rfl
  obtain ⟨c0, hc⟩ := list1Z hlen
  obtain ⟨y0, rfl⟩ := list1Z hxl
  rw [hc] at hg
  have g0 : DataW.trod enc Tryz.prog W 0 (fun _ => true) true n 22 [c0] = some y0 := by have := hg 0 _ rfl; simpa [hP] using this
  obtain ⟨l, hl⟩ := slice_of_trod (n := 3) (R := RCX) Tryz.underlying22 (by kernel_rfl) (by decide) (fun fuel cs x h hl => coll_of_trod fuel cs x h hl) g0
  obtain ⟨a, cap, rfl, _⟩ := id hl
  have e : cs = #[.slice a l.length cap] := by
    cases cs; simp only at hc; rw [hc]
  exact ⟨l, a, cap, by rw [e], hl⟩
end Go.Proofs.YtfpphpjobkhalaaGreatDoor
