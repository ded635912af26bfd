/- Filters: all paths of the program, sorted, each once. -/
import Derived.Test.YtfllnlmanopfaaaDoorLE
import Derived.Test.YtfllnlmanopfaaaDoorFL
import Derived.Shelf.Slices.In.SortNone
import Derived.Lib.OwnBridge
import Derived.Sort.OwnSorted
namespace Go.Proofs.YtfllnlmanopfaaaDoor
open Go.RowKit Go.Sort

/-- all paths of a filter; of what is none no path -/
def pathsR (f : JV) : List ByteArray := if checkF f = 0 then foldP [] (pathsF 6 f) else []
theorem check_formed {f : JV} (h : checkF f = 0) : formedF 6 f = true := by
  cases hf : formedF 6 f with
  | true => rfl
  | false => unfold checkF at h; rw [if_neg (by simp [hf])] at h; cases h
theorem strs_at {w : World} {B k : Nat} {T : TypeId} {sl : Value} {zs : List ByteArray} (h : w.ownsRow B T 1 sl k (zs.map Value.string)) (hz : ∀ s ∈ zs, s.size ≤ 9223372036854775807) : SAt 1 RS (cf w) sl zs := by
  have hl : zs.length = k := by simpa using h.1
  rcases id h.2 with ⟨hv, hn⟩ | ⟨g, cap, cur, hv, hb, _, hle, hcap, _⟩
  · obtain rfl : zs = [] := List.length_eq_zero_iff.1 (by omega)
    exact ⟨none, 0, hv, Nat.le_refl _, by decide, fun i s h => by simp at h⟩
  · refine ⟨some ⟨g, 0, none⟩, cap, by rw [hv, hl], by omega, by unfold maxLen at hcap; omega, fun i x hi => ⟨g, 0, [.string x], rfl, rfl, fun j u hu => ?_, rfl, hz x (List.mem_of_getElem? hi)⟩⟩
    cases j with
    | zero =>
      cases hu
      have := h.cells (g := g) (by rw [hv]; rfl) i (.string x) (by rw [List.getElem?_map, hi]; rfl)
      rw [addr_at] at this
      unfold cf; rw [Nat.zero_add, Nat.mul_one, Nat.add_zero]; exact this
    | succ j => simp at hu
theorem owns_strs {T : TypeId} {B p : Nat} {w : World} {sl : Value} {xs : List ByteArray} {cs : List Value} (h : OwnS 1 RS T B w sl p xs cs) : cs = xs.map Value.string ∧ ∀ s ∈ xs, s.size ≤ 9223372036854775807 := by
  have hc : cs.length = xs.length := by have := h.row.1; omega
  constructor
  · apply List.ext_getElem?
    intro i
    by_cases hi : i < xs.length
    · obtain ⟨d, h1, h2, h3, _⟩ := h.row.2 i xs[i] (List.getElem?_eq_getElem hi)
      have := h2 0 (.string xs[i]) (by rw [h3]; rfl)
      rw [Nat.mul_one, Nat.add_zero] at this
      rw [this, List.getElem?_map, List.getElem?_eq_getElem hi]; rfl
    · rw [List.getElem?_eq_none (by omega), List.getElem?_eq_none (by simp; omega)]
  · intro s hs
    obtain ⟨i, hi, rfl⟩ := List.mem_iff_getElem.1 hs
    obtain ⟨d, h1, h2, h3, h4⟩ := h.row.2 i xs[i] (List.getElem?_eq_getElem hi)
    exact h4
theorem below_grown {B g : Nat} {w w' : World} (h : w.grownBy w' (some g)) (hg : B ≤ g) (hB : B ≤ w.heap.size) : Below B w w' := by
  obtain ⟨h1, h2, h3, h4, h5⟩ := h
  exact ⟨h1, h2, h3, h4, fun k hk => h5 k (by omega) (fun e => by injection e with e; omega)⟩
theorem tb_string (l : List ByteArray) : (l.map tb).map encStr = l.map Value.string := Lib.map_encStr l
theorem foldP_sub : ∀ (ys xs : List ByteArray), ∀ s ∈ foldP xs ys, s ∈ xs ∨ s ∈ ys := by
  intro ys xs s hs
  rcases (foldP_mem ys xs (tb s)).1 (List.mem_map_of_mem hs) with h | h
  · obtain ⟨t, ht, e⟩ := List.mem_map.1 h; rw [← tb_inj e]; exact .inl ht
  · obtain ⟨t, ht, e⟩ := List.mem_map.1 h; rw [← tb_inj e]; exact .inr ht

/-- behind slices.Sort -/
theorem sort_strs (T : TypeId) (B p : Nat) (sl : Value) (xs : List ByteArray) (cs : List Value) (w : World) (h : OwnS 1 RS T B w sl p xs cs) (hp : p ≤ 400000000) :
    Calls Tryd.prog (Tryd.laysSort_ren.f 190) #[sl] w fun e w' => e = .returned (.tuple #[]) ∧ Below B w w' ∧ ∃ ts : List (List UInt8), ts = ((xs.map tb).mergeSort fun x y => decide (x ≤ y)) ∧ w'.ownsRow B T 1 sl p (ts.map encStr) := by
  obtain ⟨e1, _⟩ := owns_strs h
  have hlen := h.len
  rcases id h.own.2 with ⟨hv, hn⟩ | ⟨g, cap, cur, hv, hb, hg, hle, hcap, hs, ht⟩
  · obtain rfl : xs = [] := List.length_eq_zero_iff.1 (by omega)
    subst hv; subst hn
    refine (Any.slices_Sort_string_none Tryd.laysSort none 0 w).mono ?_
    rintro e w' ⟨rfl, rfl⟩
    exact ⟨rfl, Below.refl _ _, [], by simp, World.ownsRow_nil _ _ _ _⟩
  · subst hv
    rw [e1, Nat.mul_one] at ht
    have hH : Holds encStr w g 0 (xs.map tb).toArray := holds_of_block hg (by rw [List.length_map, hlen, ht, tb_string])
    have hlt : g < w.heap.size := heap_lt hg
    have hc := Any.slices_Sort_string Tryd.laysSort g 0 cap (xs.map tb) w hH hlt (by rw [List.length_map]; omega)
    rw [List.length_map, hlen] at hc
    refine hc.mono ?_
    rintro e w' ⟨rfl, n, os, rfl⟩
    refine ⟨rfl, below_grown (grownBy_sorted _) hb h.le, _, rfl, ?_⟩
    have hr := ownsRow_sorted (n := n) (os := os) (ss := xs.map tb) (ts := (xs.map tb).mergeSort fun x y => decide (x ≤ y)) (by rw [List.length_mergeSort]) hb hg (by rw [List.length_map, hlen]; exact hle) hcap hs
    rw [List.length_map, hlen] at hr
    exact hr
/-- behind slices.Compact -/
theorem compact_strs (T : TypeId) (B p : Nat) (sl : Value) (ts : List (List UInt8)) (zs : List ByteArray) (w : World) (h : w.ownsRow B T 1 sl p (ts.map encStr)) (hz : Lib.compact ts = zs.map tb) (hs : ∀ s ∈ zs, s.size ≤ 9223372036854775807) :
    Calls Tryd.prog (Tryd.laysCompact_ren.f 194) #[sl] w fun e w' => ∃ sv, e = .returned sv ∧ SAt 1 RS (cf w') sv zs ∧ Below B w w' := by
  by_cases hv : sl = .slice none 0 0
  · subst hv
    refine (Any.slices_Compact_string_empty Tryd.laysCompact none 0 w).mono ?_
    rintro e w' ⟨rfl, rfl⟩
    have h0 : p = 0 := by
      rcases h.2 with ⟨_, hn⟩ | ⟨g, cap, cur, hv, _⟩
      · exact hn
      · cases hv
    have ht : ts = [] := List.length_eq_zero_iff.1 (by have := h.1; simp at this; omega)
    subst ht
    obtain rfl : zs = [] := by cases zs with
      | nil => rfl
      | cons a l => simp [Lib.compact, Lib.compactUpTo] at hz
    exact ⟨_, rfl, SAt.none _ _ _, Below.refl _ _⟩
  · obtain ⟨g, cap, rfl, hb, hlt, hle, hcap, hl, hH⟩ := Lib.holds_of_ownsRow h hv
    have hc := Any.slices_Compact_string Tryd.laysCompact g 0 cap ts w hH (by unfold maxLen at hcap; omega) (by omega)
    rw [hl] at hc
    refine hc.mono ?_
    rintro e w' ⟨rfl, q, rfl⟩
    have hk := Lib.compact_length_le ts
    have hr := Lib.ownsRow_putRow (q := q) (k := (Lib.compact ts).length) (ys := Lib.compact ts ++ List.replicate (p - (Lib.compact ts).length) []) h (by simp; omega) (by omega)
    rw [List.take_left, hz, tb_string] at hr
    refine ⟨_, rfl, ?_, Lib.below_putRow (Below.refl _ _) hb⟩
    rw [hz]
    exact strs_at hr hs

set_option maxHeartbeats 4000000 in
theorem Paths_any (f : JV) (x : Value) (w : World) (hx : JAt (cf w) f x) (hT : Tabs w) :
    Calls Tryd.prog 40 #[x] w fun e w' => ∃ sv, e = .returned sv ∧ SAt 1 RS (cf w') sv (pathsR f) ∧ Below w.heap.size w w' := by
  obtain ⟨k, n, t, nm, it, na, ncap, ia, icap, hve, rfl, _⟩ := hx.open
  have HB := Hold.mk (Boxed.refl w (.cells #[.int .i64 k, .int .i64 n, .string t, .slice na nm.length ncap, .slice ia it.length icap] 25))
  have HX := Hold.mk (Check_any f _ _ (hx.mono (cle_below HB.out.below)) (hT.below HB.out.below))
  have HJ := Hold.mk hx
  clear hx hT hve
  obtain ⟨q, hq⟩ : ∃ q, q = checkF f := ⟨_, rfl⟩
  rw [← hq] at HX
  have y0 := HB.out.c0
  have y1 := HB.out.c1
  have y2 := HB.out.c2
  have y3 := HB.out.c3
  have y4 := HB.out.c4
  by_cases h0 : q = 0
  · have HF := Hold.mk (check_formed (hq ▸ h0))
    have HR : Hold (pathsR f = foldP [] (pathsF 6 f)) := ⟨by unfold pathsR; rw [if_pos (hq ▸ h0)]⟩
    have HPL := Hold.mk (pathsF_len 6 6 f HF.out)
    subst h0
    clear hq
    go_enter Tryd.func40, Tryd.ntmps40
    go_wp2_with fail
    clear y0 y1 y2 y3 y4
    refine HX.out.mono ?_
    rintro e w1 ⟨rfl, hb1⟩
    replace HB := Hold.mk (HB.out.next hb1)
    clear hb1 HX
    have y0 := HB.out.c0
    have y1 := HB.out.c1
    have y2 := HB.out.c2
    have y3 := HB.out.c3
    have y4 := HB.out.c4
    have HP := Hold.mk (paths_any 6 f _ w.heap.size (.slice none 0 0) 0 [] [] (cf w) w1 HF.out HJ.out ((cle_cfU w).trans (cfU_below HB.out.below)) (OwnS.start 1 RS 9 HB.out.below.size) (by decide))
    go_wp2_with fail
    clear y0 y1 y2 y3 y4
    refine HP.out.mono ?_
    rintro e w2 ⟨s1, cs, rfl, ho, hg⟩
    have HB2 := Hold.mk (HB.out.below.trans (OwnS.below (OwnS.start 1 RS 9 HB.out.below.size) hg))
    obtain ⟨p1, hp1⟩ : ∃ p1, p1 = (pathsF 6 f).length := ⟨_, rfl⟩
    rw [← hp1, Nat.zero_add, List.nil_append] at ho
    have HSZ : Hold (∀ s ∈ foldP [] (pathsF 6 f), s.size ≤ 9223372036854775807) := ⟨fun s hs => by
      rcases foldP_sub _ _ s hs with h | h
      · cases h
      · exact (owns_strs ho).2 s h⟩
    have HS := Hold.mk (sort_strs 9 w.heap.size p1 s1 _ cs w2 ho (by rw [hp1]; exact Nat.le_trans HPL.out (by decide)))
    clear HP ho hg hp1
    go_wp2_with fail
    refine HS.out.mono ?_
    rintro e w3 ⟨rfl, hb3, ts, hts, hown⟩
    replace HB2 := Hold.mk (HB2.out.trans hb3)
    have HC := Hold.mk (compact_strs 9 w.heap.size p1 s1 ts (foldP [] (pathsF 6 f)) w3 hown (by rw [hts]; exact paths_law _) HSZ.out)
    clear hb3 hts hown HS
    go_wp2_with fail
    refine HC.out.mono ?_
    rintro e w4 ⟨sv, rfl, hsv, hb4⟩
    have HO : Hold (∃ sv2, Ending.returned sv = .returned sv2 ∧ SAt 1 RS (cf w4) sv2 (pathsR f) ∧ Below w.heap.size w w4) := ⟨sv, rfl, by rw [HR.out]; exact hsv, HB2.out.trans hb4⟩
    clear hsv hb4 HC
    go_wp2_with fail
    go_ret
    exact HO.out
  · have HR : Hold (pathsR f = []) := ⟨by unfold pathsR; rw [if_neg (fun h => h0 (hq.trans h))]⟩
    clear hq
    go_enter Tryd.func40, Tryd.ntmps40
    go_wp2_with fail
    clear y0 y1 y2 y3 y4
    refine HX.out.mono ?_
    rintro e w1 ⟨rfl, hb1⟩
    replace HB := Hold.mk (HB.out.next hb1)
    clear hb1 HX
    go_wp2_with fail
    go_ret
    exact ⟨_, rfl, by rw [HR.out]; exact SAt.none _ _ _, HB.out.below⟩

end Go.Proofs.YtfllnlmanopfaaaDoor
