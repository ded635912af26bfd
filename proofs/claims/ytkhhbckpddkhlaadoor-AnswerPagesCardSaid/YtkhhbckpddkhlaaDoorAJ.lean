/- Answers: put of the program: what it hands back, the box under way. -/
import Derived.Test.YtkhhbckpddkhlaaDoorAF
import Derived.Test.YtkhhbckpddkhlaaDoorAB
import Derived.Test.YtkhhbckpddkhlaaDoorAL
import Derived.Deep.DeepCutAuto
namespace Go.Proofs.YtkhhbckpddkhlaaDoor
open Go.Shelf Go.RowKit

theorem cfV_to {c : CF} {B B1 : Nat} {w0 w5 w8 : World} (hc : CLe c (cfU B w0)) (hB : B ≤ B1) (h : ∀ b o v, B1 ≤ b → w5.cell? ⟨b, o, none⟩ = some v → w8.cell? ⟨b, o, none⟩ = some v) : CLe (cfV c B1 w5) (cfV c B w8) := fun b o v hv => by
  unfold cfV at hv ⊢
  by_cases h1 : b < B1
  · rw [if_pos h1] at hv
    rw [if_pos (cfU_lt (hc _ _ _ hv)).1]; exact hv
  · rw [if_neg h1] at hv
    rw [if_neg (by omega)]; exact h b o v (by omega) hv
theorem cle_cfV_self {c : CF} {B : Nat} {w0 w : World} (hc : CLe c (cfU B w0)) : CLe c (cfV c B w) := cle_cfV hc
theorem sat_strs {c : CF} {v : Value} {nm : List ByteArray} (h : SAt 1 RS c v nm) : StrsAt c v nm := by
  obtain ⟨a, cap, rfl, hle, hcap, hel⟩ := h
  refine ⟨a, cap, rfl, by omega, fun i s hi => ?_⟩
  obtain ⟨b, off, d, rfl, _, hc, rfl, hs⟩ := hel i s hi
  exact ⟨hs, b, off, rfl, by simpa using hc 0 _ rfl⟩
/-- what put hands back -/
def PutPost (c : CF) (r : Option JV) (w : World) (e : Ending) (w' : World) : Prop := ∃ k n t na nl nc ia il ic, e = .returned (.tuple #[.agg #[.int .i64 k, .int .i64 n, .string t, .slice na nl nc, .slice ia il ic], .bool r.isSome]) ∧
  (∀ y, r = some y → JAt (cfV c w.heap.size w') y (.agg #[.int .i64 k, .int .i64 n, .string t, .slice na nl nc, .slice ia il ic])) ∧ Below w.heap.size w w'
theorem GRow.takeA {α : Type} {n : Nat} {R : Rep α} {c : CF} {l : List α} {cs : List Value} (h : GRow n R c l cs) (k : Nat) : GRow n R c (l.take k) (cs.take (k * n)) := by
  refine ⟨by rw [List.length_take, List.length_take, h.1]; rcases Nat.le_total k l.length with h1 | h1
             · rw [Nat.min_eq_left h1, Nat.min_eq_left (Nat.mul_le_mul_right n h1)]
             · rw [Nat.min_eq_right h1, Nat.min_eq_right (Nat.mul_le_mul_right n h1)], fun i y hy => ?_⟩
  rw [List.getElem?_take] at hy
  split at hy
  · rename_i hik
    obtain ⟨d, h1, h2, h3⟩ := h.2 i y hy
    refine ⟨d, h1, fun j u hu => ?_, h3⟩
    have hj : j < n := by rw [← h1]; exact (List.getElem?_eq_some_iff.1 hu).1
    have : (i + 1) * n ≤ k * n := Nat.mul_le_mul_right n hik
    rw [Nat.add_mul] at this
    rw [List.getElem?_take, if_pos (by omega)]; exact h2 j u hu
  · cases hy
theorem GRow.dropA {α : Type} {n : Nat} {R : Rep α} {c : CF} {l : List α} {cs : List Value} (h : GRow n R c l cs) (k : Nat) : GRow n R c (l.drop k) (cs.drop (k * n)) := by
  refine ⟨by rw [List.length_drop, List.length_drop, h.1, Nat.sub_mul], fun i y hy => ?_⟩
  rw [List.getElem?_drop] at hy
  obtain ⟨d, h1, h2, h3⟩ := h.2 (k + i) y hy
  refine ⟨d, h1, fun j u hu => ?_, h3⟩
  have := h2 j u hu
  rw [Nat.add_mul] at this
  rw [List.getElem?_drop, show k * n + (i * n + j) = k * n + i * n + j by omega]; exact this
theorem GRow.insA {α : Type} {n : Nat} {R : Rep α} {c : CF} {l : List α} {cs d : List Value} {x : α} (h : GRow n R c l cs) (k : Nat) (hd : d.length = n) (hx : R c x d) : GRow n R c (insA k x l) (cs.take (k * n) ++ d ++ cs.drop (k * n)) := by
  have := ((h.takeA k).snoc hd hx).app (h.dropA k)
  unfold Go.Proofs.YtkhhbckpddkhlaaDoor.insA
  simpa using this
/-- five cells of a row are stored -/
abbrev set5A (w : World) (g o : Nat) (c0 c1 c2 c3 c4 : Value) : World := ((((w.setCell ⟨g, o, none⟩ c0).setCell ⟨g, o + 1, none⟩ c1).setCell ⟨g, o + 2, none⟩ c2).setCell ⟨g, o + 3, none⟩ c3).setCell ⟨g, o + 4, none⟩ c4
abbrev set5L (cs : List Value) (o : Nat) (c0 c1 c2 c3 c4 : Value) : List Value := ((((cs.set o c0).set (o + 1) c1).set (o + 2) c2).set (o + 3) c3).set (o + 4) c4
theorem own_set5 {B : Nat} {w : World} {T : TypeId} {n g p cap o : Nat} {cs : List Value} {c0 c1 c2 c3 c4 : Value} (h : w.ownsRow B T n (.slice (some ⟨g, 0, none⟩) p cap) p cs) :
    (set5A w g o c0 c1 c2 c3 c4).ownsRow B T n (.slice (some ⟨g, 0, none⟩) p cap) p (set5L cs o c0 c1 c2 c3 c4) ∧ w.grownBy (set5A w g o c0 c1 c2 c3 c4) (some g) := by
  have h1 := h.stored o c0
  have h2 := h1.1.stored (o + 1) c1
  have h3 := h2.1.stored (o + 2) c2
  have h4 := h3.1.stored (o + 3) c3
  have h5 := h4.1.stored (o + 4) c4
  refine ⟨h5.1, ?_, ?_, ?_, ?_, ?_⟩
  · exact h5.2.os.trans (h4.2.os.trans (h3.2.os.trans (h2.2.os.trans h1.2.os)))
  · exact h5.2.tape.trans (h4.2.tape.trans (h3.2.tape.trans (h2.2.tape.trans h1.2.tape)))
  · exact h5.2.output.trans (h4.2.output.trans (h3.2.output.trans (h2.2.output.trans h1.2.output)))
  · exact Nat.le_trans h1.2.size (Nat.le_trans h2.2.size (Nat.le_trans h3.2.size (Nat.le_trans h4.2.size h5.2.size)))
  · intro q hq hne
    have s1 := h1.2.size
    have s2 := h2.2.size
    have s3 := h3.2.size
    have s4 := h4.2.size
    rw [h5.2.block q (by omega) hne, h4.2.block q (by omega) hne, h3.2.block q (by omega) hne, h2.2.block q (by omega) hne, h1.2.block q hq hne]
theorem GRow.set5 {c : CF} {l : List JV} {cs : List Value} {x : JV} {k : Nat} {c0 c1 c2 c3 c4 : Value} (h : GRow 5 RV c l cs) (hk : k < l.length) (hx : RV c x [c0, c1, c2, c3, c4]) : GRow 5 RV c (l.set k x) (set5L cs (k * 5) c0 c1 c2 c3 c4) := by
  have hcl := h.1
  refine ⟨by simp [hcl], fun i y hy => ?_⟩
  by_cases e : i = k
  · subst e
    rw [List.getElem?_set_self hk] at hy
    obtain rfl := Option.some.inj hy
    refine ⟨_, rfl, fun j u hu => ?_, hx⟩
    have hj : j < 5 := by simpa using (List.getElem?_eq_some_iff.1 hu).1
    match j, hj, hu with
    | 0, _, hu => simp at hu; subst hu; simp [List.getElem?_set]; omega
    | 1, _, hu => simp at hu; subst hu; simp [List.getElem?_set]; omega
    | 2, _, hu => simp at hu; subst hu; simp [List.getElem?_set]; omega
    | 3, _, hu => simp at hu; subst hu; simp [List.getElem?_set]; omega
    | 4, _, hu => simp at hu; subst hu; simp [List.getElem?_set]; omega
  · rw [List.getElem?_set_ne (fun h => e h.symm)] at hy
    obtain ⟨d, h1, h2, h3⟩ := h.2 i y hy
    refine ⟨d, h1, fun j u hu => ?_, h3⟩
    have hj : j < 5 := by rw [← h1]; exact (List.getElem?_eq_some_iff.1 hu).1
    rw [List.getElem?_set_ne (by omega), List.getElem?_set_ne (by omega), List.getElem?_set_ne (by omega), List.getElem?_set_ne (by omega), List.getElem?_set_ne (by omega)]
    exact h2 j u hu
theorem GRow.onesA {c : CF} {l : List JV} {cs : List Value} (h : GRow 5 RV c l cs) : ∀ u ∈ cs, u.oneCell' = true := by
  intro u hu
  obtain ⟨i, hi, rfl⟩ := List.getElem_of_mem hu
  have hcl := h.1
  obtain ⟨y, hy⟩ : ∃ y, l[i / 5]? = some y := ⟨_, List.getElem?_eq_getElem (by omega)⟩
  obtain ⟨d, h1, h2, h3⟩ := h.2 _ y hy
  have := h2 (i % 5) (d[i % 5]'(by omega)) (List.getElem?_eq_getElem _)
  rw [show i / 5 * 5 + i % 5 = i by omega, List.getElem?_eq_getElem hi] at this
  rw [Option.some.inj this]
  exact RV_one _ _ _ h3 _ (List.getElem_mem _)
/-- the object under way: a box, a row of names and one of items, all of the call's own -/
structure PBox (c : CF) (B : Nat) (w : World) (zb : Nat) (nv iv : Value) (nm : List ByteArray) (it : List JV) (cs : List Value) : Prop where
  box : w.heap[zb]? = some (.cells #[.int .i64 6, .int .i64 0, .string ⟨#[]⟩, nv, iv] 25 (0, 0))
  n : w.ownsRow B 9 1 nv nm.length (nm.map .string)
  i : w.ownsRow B 25 5 iv it.length cs
  row : GRow 5 RV c it cs
  low : B ≤ zb
  apart : ∀ g, iv.ownBlock = some g → g ≠ zb
  apart2 : ∀ g, nv.ownBlock = some g → g ≠ zb ∧ iv.ownBlock ≠ some g
theorem PBox.done {c : CF} {B : Nat} {w : World} {zb : Nat} {nv iv : Value} {nm : List ByteArray} {it : List JV} {cs : List Value} (h : PBox c B w zb nv iv nm it cs) (hs : ∀ s ∈ nm, s.size ≤ 9223372036854775807) (hl : nm.length ≤ 1000000) (hi : it.length ≤ 1000000) {d : CF} (hcd : CLe c d) (hw : CLe (cfA B w) d) : JAt d (.mk 6 0 ⟨#[]⟩ nm it) (.agg #[.int .i64 6, .int .i64 0, .string ⟨#[]⟩, nv, iv]) := by
  have hI := items_row h.i rfl h.row hcd hw hi
  have hN : StrsAt d nv nm := by
    rcases id h.n.2 with ⟨hv, hn⟩ | ⟨g, cap, cur, hv, hb, hg, hle, hcap, hs2, ht⟩
    · obtain rfl : nm = [] := List.length_eq_zero_iff.1 hn
      subst hv
      exact ⟨none, 0, rfl, by decide, fun i x h => by simp at h⟩
    · refine ⟨some ⟨g, 0, none⟩, cap, hv, by omega, fun i s hx => ⟨hs s (List.mem_of_getElem? hx), g, 0, rfl, ?_⟩⟩
      have := h.n.cells (g := g) (by rw [hv]; rfl) i (.string s) (by rw [List.getElem?_map, hx]; rfl)
      rw [addr_at] at this
      refine hw _ _ _ ?_
      unfold cfA
      rw [if_pos hb, Nat.zero_add]; exact this
  exact JAt.shut (by kernel_rfl) (by kernel_rfl) (by decide) hN hI
/-- a string has come into a row of texts -/
theorem map_insA (nm : List ByteArray) (k : Nat) (s : ByteArray) : (nm.map Value.string).take (k * 1) ++ [Value.string s] ++ (nm.map Value.string).drop (k * 1) = (insA k s nm).map Value.string := by
  unfold insA; simp [List.map_take, List.map_drop]

theorem own_quietA {w w' : World} {B : Nat} {T : TypeId} {n : Nat} {v : Value} {p : Nat} {cs : List Value} (h : w.ownsRow B T n v p cs) (k : Below w.heap.size w w') : w'.ownsRow B T n v p cs :=
  h.kept (row := none) ⟨k.os, k.tape, k.output, k.size, fun q hq _ => k.block q hq⟩ (by cases v.ownBlock <;> simp)
theorem own_baseA {w : World} {B B' : Nat} {T : TypeId} {n : Nat} {v : Value} {p : Nat} {cs : List Value} (h : w.ownsRow B T n v p cs) (hB : B' ≤ B) : w.ownsRow B' T n v p cs := by
  obtain ⟨h1, h2⟩ := h
  refine ⟨h1, ?_⟩
  rcases h2 with h2 | ⟨q, cap, cur, e, hb, h3⟩
  · exact .inl h2
  · exact .inr ⟨q, cap, cur, e, Nat.le_trans hB hb, h3⟩
theorem own_grownA {w w' : World} {B : Nat} {T : TypeId} {n : Nat} {v : Value} {p : Nat} {cs : List Value} (h : w.ownsRow B T n v p cs) {g : Option Nat} (hg : w.grownBy w' g) (hne : ∀ q, v.ownBlock = some q → g ≠ some q) : w'.ownsRow B T n v p cs := by
  refine h.kept hg ?_
  cases hv : v.ownBlock with
  | none => simp
  | some q => exact .inr (fun e => hne q hv e.symm)
theorem cle_upA {c : CF} {B B' : Nat} {w : World} (hc : CLe c (cfU B w)) (h : B ≤ B') : CLe c (cfU B' w) := fun b o v hv => by
  have := hc _ _ _ hv
  unfold cfU at this ⊢
  split at this
  · rw [if_pos (by omega)]; exact this
  · cases this
/-- what the inner put left, in a box -/
def YBox (c : CF) (B : Nat) (r : Option JV) (wr : World) (p q : Value) (wx : World) : Prop := ∃ (zb : Nat) (k n : Int) (t : ByteArray) (na : Option Addr) (nl nc : Nat) (ia : Option Addr) (il ic : Nat), p = .pointer (some ⟨zb, 0, none⟩) ∧ q = .bool r.isSome ∧
  wx.heap[zb]? = some (.cells #[.int .i64 k, .int .i64 n, .string t, .slice na nl nc, .slice ia il ic] 25 (0, 0)) ∧ (∀ u, r = some u → JAt (cfV c B wx) u (.agg #[.int .i64 k, .int .i64 n, .string t, .slice na nl nc, .slice ia il ic])) ∧ Below wr.heap.size wr wx
theorem put_no {c : CF} {r : Option JV} {w w' : World} {k n : Int} {t : ByteArray} {na : Option Addr} {nl nc : Nat} {ia : Option Addr} {il ic : Nat} (h : r = none) (hb : Below w.heap.size w w') : PutPost c r w (.returned (.tuple #[.agg #[.int .i64 k, .int .i64 n, .string t, .slice na nl nc, .slice ia il ic], .bool false])) w' := by
  subst h
  exact ⟨_, _, _, _, _, _, _, _, _, rfl, (fun y hy => by cases hy), hb⟩
theorem put_yes {c : CF} {r : Option JV} {y : JV} {w w' : World} {k n : Int} {t : ByteArray} {na : Option Addr} {nl nc : Nat} {ia : Option Addr} {il ic : Nat} (h : r = some y) (hj : JAt (cfV c w.heap.size w') y (.agg #[.int .i64 k, .int .i64 n, .string t, .slice na nl nc, .slice ia il ic])) (hb : Below w.heap.size w w') : PutPost c r w (.returned (.tuple #[.agg #[.int .i64 k, .int .i64 n, .string t, .slice na nl nc, .slice ia il ic], .bool true])) w' := by
  subst h
  exact ⟨_, _, _, _, _, _, _, _, _, rfl, (fun z hz => by cases hz; exact hj), hb⟩

theorem cfV_cf2 {c : CF} {B B3 : Nat} {w w' : World} (hc : CLe c (cfU B w)) (hb : Below B w w') : CLe (cfV c B3 w') (cf w') := fun b o v h => by
  unfold cfV at h
  split at h
  · exact cfU_keep hb _ _ _ (hc _ _ _ h)
  · exact h
theorem own_shapeA {w : World} {B : Nat} {T : TypeId} {n : Nat} {v : Value} {p : Nat} {cs : List Value} (h : w.ownsRow B T n v p cs) : ∃ a cap, v = .slice a p cap ∧ p ≤ cap ∧ cap ≤ 9223372036854775807 := by
  rcases h.2 with ⟨hv, hn⟩ | ⟨g, cap, cur, hv, _, _, h1, h2, _⟩
  · exact ⟨none, 0, by rw [hv, hn], by omega, by decide⟩
  · exact ⟨_, cap, hv, h1, by unfold maxLen at h2; exact h2⟩
theorem set5_grown (w : World) (k : Nat) (c0 c1 c2 c3 c4 : Value) : w.grownBy (set5 w k c0 c1 c2 c3 c4) (some k) :=
  have hb := set5_below (c0 := c0) (c1 := c1) (c2 := c2) (c3 := c3) (c4 := c4) (Below.refl k w) (Nat.le_refl k)
  ⟨hb.os, hb.tape, hb.output, hb.size, fun q _ hq => set5_other (fun e => hq (by rw [e]))⟩
theorem PBox.make {c : CF} {B : Nat} {w : World} {zb : Nat} {a0 a1 a2 a3 a4 nv iv : Value} {nm : List ByteArray} {it : List JV} {cs : List Value} (hz : w.heap[zb]? = some (.cells #[a0, a1, a2, a3, a4] 25 (0, 0))) (hn : w.ownsRow B 9 1 nv nm.length (nm.map .string)) (hi : w.ownsRow B 25 5 iv it.length cs) (hr : GRow 5 RV c it cs) (hB : B ≤ zb) (h1 : ∀ g, iv.ownBlock = some g → g ≠ zb) (h2 : ∀ g, nv.ownBlock = some g → g ≠ zb ∧ iv.ownBlock ≠ some g) :
    PBox c B (set5 w zb (.int .i64 6) (.int .i64 0) (.string ⟨#[]⟩) nv iv) zb nv iv nm it cs :=
  ⟨set5_self hz, own_grownA hn (set5_grown _ _ _ _ _ _ _) (fun q hq e => (h2 q hq).1 (Option.some.inj e).symm), own_grownA hi (set5_grown _ _ _ _ _ _ _) (fun q hq e => h1 q hq (Option.some.inj e).symm), hr, hB, h1, h2⟩
theorem PBox.set5 {c : CF} {B : Nat} {w : World} {zb g p cap k : Nat} {nv : Value} {nm : List ByteArray} {it : List JV} {cs : List Value} {y : JV} {c0 c1 c2 c3 c4 : Value} (h : PBox c B w zb nv (.slice (some ⟨g, 0, none⟩) p cap) nm it cs) (hp : it.length = p) (hk : k < it.length) (hx : RV c y [c0, c1, c2, c3, c4]) :
    PBox c B (set5A w g (k * 5) c0 c1 c2 c3 c4) zb nv (.slice (some ⟨g, 0, none⟩) p cap) nm (it.set k y) (set5L cs (k * 5) c0 c1 c2 c3 c4) ∧ w.grownBy (set5A w g (k * 5) c0 c1 c2 c3 c4) (some g) := by
  subst hp
  obtain ⟨h1, h2⟩ := own_set5 (o := k * 5) (c0 := c0) (c1 := c1) (c2 := c2) (c3 := c3) (c4 := c4) h.i
  have hgz : zb ≠ g := fun e => h.apart g rfl e.symm
  refine ⟨⟨?_, own_grownA h.n h2 (fun q hq e => (h.apart2 q hq).2 (by rw [← Option.some.inj e]; rfl)), by rw [List.length_set]; exact h1, h.row.set5 hk hx, h.low, h.apart, h.apart2⟩, h2⟩
  rw [h2.block zb (heap_lt h.box) (fun e => hgz (Option.some.inj e))]; exact h.box
/-- between the inserts: rows of the call's own, a box that stands -/
structure ISt (B zb : Nat) (nv iv : Value) (nm : List ByteArray) (p : Nat) (cs : List Value) (wp w : World) : Prop where
  bel : Below B wp w
  box : w.heap[zb]? = wp.heap[zb]?
  zlt : zb < wp.heap.size
  n : w.ownsRow B 9 1 nv nm.length (nm.map .string)
  i : w.ownsRow B 25 5 iv p cs
  ap : ∀ g, nv.ownBlock = some g → g ≠ zb ∧ iv.ownBlock ≠ some g
  ap2 : ∀ g, iv.ownBlock = some g → g ≠ zb
theorem ISt.alloc {B zb : Nat} {nv iv : Value} {nm : List ByteArray} {p : Nat} {cs : List Value} {wp w : World} (h : ISt B zb nv iv nm p cs wp w) (hB : B ≤ wp.heap.size) (o : Obj) : ISt B zb nv iv nm p cs wp (w.alloc o) :=
  have hb : Below w.heap.size w (w.alloc o) := (Below.refl _ w).alloc (Nat.le_refl _) o
  ⟨h.bel.alloc (Nat.le_trans hB h.bel.size) o, by rw [hb.block zb (Nat.lt_of_lt_of_le h.zlt h.bel.size)]; exact h.box, h.zlt, own_quietA h.n hb, own_quietA h.i hb, h.ap, h.ap2⟩
theorem ISt.insN {B zb : Nat} {nv iv : Value} {nm : List ByteArray} {p k : Nat} {cs : List Value} {s : ByteArray} {wp w w' : World} {e : Ending} (h : ISt B zb nv iv nm p cs wp w) (hB : B ≤ wp.heap.size) (hk : k ≤ nm.length) (hp : InsPost 9 1 B w nv nm.length ((nm.map Value.string).take (k * 1) ++ [Value.string s] ++ (nm.map Value.string).drop (k * 1)) e w') :
    ∃ a cap, e = .returned (.slice a (nm.length + 1) cap) ∧ ISt B zb (.slice a (nm.length + 1) cap) iv (insA k s nm) p cs wp w' ∧ w.grownBy w' nv.ownBlock := by
  obtain ⟨sl', rfl, ho, hg, hgg⟩ := hp
  rw [map_insA] at ho
  obtain ⟨a, cap, rfl, _, _⟩ := own_shapeA ho
  have hlen : (insA k s nm).length = nm.length + 1 := insA_len _ _ _ hk
  have hws := h.bel.size
  have hni : ∀ g, nv.ownBlock = some g → B ≤ g ∧ g < w.heap.size := fun g hq => h.n.lt g hq
  refine ⟨a, cap, rfl, ⟨h.bel.grown hg (Nat.le_trans hB hws) (fun q hq => (hni q hq).1), ?_, h.zlt, by rw [hlen]; exact ho, own_grownA h.i hg (fun q hq e => (h.ap q e).2 hq), fun g hq => ?_, h.ap2⟩, hg⟩
  · rw [hg.block zb (Nat.lt_of_lt_of_le h.zlt hws) (fun e => (h.ap zb e.symm).1 rfl)]; exact h.box
  · rcases hgg g hq with h1 | h1
    · exact h.ap g h1
    · exact ⟨by have := h.zlt; omega, fun e => by have := (h.i.lt g e).2; omega⟩
theorem ISt.insI {B zb : Nat} {nv iv : Value} {nm : List ByteArray} {p k : Nat} {cs d : List Value} {wp w w' : World} {e : Ending} (h : ISt B zb nv iv nm p cs wp w) (hB : B ≤ wp.heap.size) (hp : InsPost 25 5 B w iv p (cs.take (k * 5) ++ d ++ cs.drop (k * 5)) e w') :
    ∃ a cap, e = .returned (.slice a (p + 1) cap) ∧ ISt B zb nv (.slice a (p + 1) cap) nm (p + 1) (cs.take (k * 5) ++ d ++ cs.drop (k * 5)) wp w' := by
  obtain ⟨sl', rfl, ho, hg, hgg⟩ := hp
  obtain ⟨a, cap, rfl, _, _⟩ := own_shapeA ho
  have hws := h.bel.size
  have hni : ∀ g, iv.ownBlock = some g → B ≤ g ∧ g < w.heap.size := fun g hq => h.i.lt g hq
  refine ⟨a, cap, rfl, ⟨h.bel.grown hg (Nat.le_trans hB hws) (fun q hq => (hni q hq).1), ?_, h.zlt, own_grownA h.n hg (fun q hq e => (h.ap q hq).2 e), ho, fun g hq => ⟨(h.ap g hq).1, fun e => ?_⟩, fun g hq => ?_⟩⟩
  · rw [hg.block zb (Nat.lt_of_lt_of_le h.zlt hws) (fun e => h.ap2 zb e.symm rfl)]; exact h.box
  · rcases hgg g e with h1 | h1
    · exact (h.ap g hq).2 h1
    · have := (h.n.lt g hq).2; omega
  · rcases hgg g hq with h1 | h1
    · exact h.ap2 g h1
    · have := h.zlt; omega
/-- two fields of the box are stored -/
theorem ISt.done {c : CF} {B zb : Nat} {nv iv a3 a4 : Value} {nm : List ByteArray} {it : List JV} {cs : List Value} {wp w : World} (h : ISt B zb nv iv nm it.length cs wp w) (hz : wp.heap[zb]? = some (.cells #[.int .i64 6, .int .i64 0, .string ⟨#[]⟩, a3, a4] 25 (0, 0))) (hr : GRow 5 RV c it cs) (hl : B ≤ zb) :
    PBox c B ((w.setCell ⟨zb, 3, none⟩ nv).setCell ⟨zb, 4, none⟩ iv) zb nv iv nm it cs ∧ Below B wp ((w.setCell ⟨zb, 3, none⟩ nv).setCell ⟨zb, 4, none⟩ iv) := by
  have hg : w.grownBy ((w.setCell ⟨zb, 3, none⟩ nv).setCell ⟨zb, 4, none⟩ iv) (some zb) := ⟨rfl, rfl, rfl, by simp, fun q _ hq => by rw [Below.heap_setCell _ _ _ _ (fun e => hq (by rw [e])), Below.heap_setCell _ _ _ _ (fun e => hq (by rw [e]))]⟩
  refine ⟨⟨?_, own_grownA h.n hg (fun q hq e => (h.ap q hq).1 (Option.some.inj e).symm), own_grownA h.i hg (fun q hq e => h.ap2 q hq (Option.some.inj e).symm), hr, hl, h.ap2, h.ap⟩, ?_⟩
  · have := set_self (o := 4) (c := iv) (set_self (o := 3) (c := nv) (h.box.trans hz))
    simpa using this
  · exact (h.bel.setCell (p := ⟨zb, 3, none⟩) hl _).setCell (p := ⟨zb, 4, none⟩) hl _

theorem ISt.drew {B zb : Nat} {nv iv : Value} {nm : List ByteArray} {p : Nat} {cs : List Value} {wp w : World} (h : ISt B zb nv iv nm p cs wp w) : ISt B zb nv iv nm p cs wp w.drew := ⟨h.bel.drew, h.box, h.zlt, h.n, h.i, h.ap, h.ap2⟩
theorem setN_mem {nm : List ByteArray} {s x : ByteArray} (h : x ∈ setN nm s) : x = s ∨ x ∈ nm := by
  unfold setN at h
  split at h
  · exact .inr h
  · unfold insA at h
    rcases List.mem_append.1 h with h | h
    · exact .inr (List.mem_of_mem_take h)
    · rcases List.mem_cons.1 h with h | h
      · exact .inl h
      · exact .inr (List.mem_of_mem_drop h)
theorem setN_len (nm : List ByteArray) (s : ByteArray) : (setN nm s).length ≤ nm.length + 1 := by
  unfold setN
  split
  · omega
  · rw [insA_len _ _ _ (placeN_le nm s)]; omega
theorem setI_len (nm : List ByteArray) (it : List JV) (s : ByteArray) (y : JV) (h : nm.length = it.length) : (setI nm it s y).length ≤ it.length + 1 := by
  unfold setI
  split
  · rw [List.length_set]; omega
  · rw [insA_len _ _ _ (by rw [← h]; exact placeN_le nm s)]; omega
theorem strs_sizes {c : CF} {v : Value} {nm : List ByteArray} (h : StrsAt c v nm) : ∀ s ∈ nm, s.size ≤ 9223372036854775807 := fun s hs => by
  obtain ⟨a, cap, _, _, hel⟩ := h
  obtain ⟨i, hi, rfl⟩ := List.getElem_of_mem hs
  exact (hel i _ (List.getElem?_eq_getElem hi)).1

end Go.Proofs.YtkhhbckpddkhlaaDoor
