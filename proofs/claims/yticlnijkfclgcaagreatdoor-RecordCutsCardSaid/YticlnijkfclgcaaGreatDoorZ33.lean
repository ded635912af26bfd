/- Values that are built: a box whose Items grow by append. -/
import Derived.Test.YticlnijkfclgcaaGreatDoorZ32
namespace Go.Proofs.YticlnijkfclgcaaGreatDoor
open Go.RowKit

/-- a box of a value whose Items are a row of the call's own -/
structure AB (wr : World) (k : Nat) (c0 c1 c2 c3 : Value) (sv : Value) (n : Nat) (cs : List Value) : Prop where
  box : wr.heap[k]? = some (.cells #[c0, c1, c2, c3, sv] 58 (0, 0))
  own : wr.ownsRow (k + 1) 58 5 sv n cs
theorem AB.alloc {wr : World} {k : Nat} {c0 c1 c2 c3 : Value} {sv : Value} {n : Nat} {cs : List Value} (h : AB wr k c0 c1 c2 c3 sv n cs) (o : Obj) : AB (wr.alloc o) k c0 c1 c2 c3 sv n cs :=
  ⟨kept h.box ((Below.refl _ wr).alloc (Nat.le_refl _) o), h.own.alloc o⟩
theorem AB.mid {wr w2 : World} {k : Nat} {c0 c1 c2 c3 : Value} {sv : Value} {n : Nat} {cs : List Value} (h : AB wr k c0 c1 c2 c3 sv n cs) (hg : wr.grownBy w2 sv.ownBlock) : w2.heap[k]? = some (.cells #[c0, c1, c2, c3, sv] 58 (0, 0)) := by
  rw [hg.block k (heap_lt h.box) (fun e => by have := (h.own.lt k e.symm).1; omega)]; exact h.box
theorem AB.push {wr w2 : World} {k : Nat} {c0 c1 c2 c3 : Value} {sv : Value} {n m g cap : Nat} {cs news : List Value} (h : AB wr k c0 c1 c2 c3 sv n cs) (hg : wr.grownBy w2 sv.ownBlock)
    (hown : w2.ownsRow (k + 1) 58 5 (.slice (some ⟨g, 0, none⟩) m cap) m (cs ++ news)) :
    AB (w2.setCell ⟨k, 4, none⟩ (.slice (some ⟨g, 0, none⟩) m cap)) k c0 c1 c2 c3 (.slice (some ⟨g, 0, none⟩) m cap) m (cs ++ news) ∧ Below k wr (w2.setCell ⟨k, 4, none⟩ (.slice (some ⟨g, 0, none⟩) m cap)) := by
  have hb := h.mid hg
  have hlt := heap_lt h.box
  refine ⟨⟨?_, own_set hown (by omega)⟩, ?_⟩
  · have := set_self (o := 4) (c := .slice (some ⟨g, 0, none⟩) m cap) hb
    simpa using this
  · have h2 : Below k wr w2 := (Below.refl k wr).grown hg (by omega) (fun q hq => by have := (h.own.lt q hq).1; omega)
    exact h2.setCell (p := ⟨k, 4, none⟩) (Nat.le_refl _) _
/-- cells of a row hold values -/
def VRow (c : CF) (l : List JV) (cs : List Value) : Prop := cs.length = l.length * 5 ∧ ∀ (i : Nat) x, l[i]? = some x → ∃ c0 c1 c2 c3 c4, cs[i * 5]? = some c0 ∧ cs[i * 5 + 1]? = some c1 ∧ cs[i * 5 + 2]? = some c2 ∧ cs[i * 5 + 3]? = some c3 ∧ cs[i * 5 + 4]? = some c4 ∧ JAt c x (.agg #[c0, c1, c2, c3, c4])
theorem VRow.nil (c : CF) : VRow c [] [] := ⟨rfl, fun i x h => by simp at h⟩
theorem VRow.mono {c c' : CF} {l : List JV} {cs : List Value} (h : VRow c l cs) (hc : CLe c c') : VRow c' l cs := ⟨h.1, fun i x hx => by
  obtain ⟨c0, c1, c2, c3, c4, a0, a1, a2, a3, a4, hj⟩ := h.2 i x hx
  exact ⟨c0, c1, c2, c3, c4, a0, a1, a2, a3, a4, hj.mono hc⟩⟩
theorem VRow.snoc {c : CF} {l : List JV} {cs : List Value} {x : JV} {c0 c1 c2 c3 c4 : Value} (h : VRow c l cs) (hx : JAt c x (.agg #[c0, c1, c2, c3, c4])) : VRow c (l ++ [x]) (cs ++ [c0, c1, c2, c3, c4]) := by
  refine ⟨by simp [h.1]; omega, fun i y hy => ?_⟩
  by_cases hi : i < l.length
  · rw [List.getElem?_append_left hi] at hy
    obtain ⟨d0, d1, d2, d3, d4, a0, a1, a2, a3, a4, hj⟩ := h.2 i y hy
    refine ⟨d0, d1, d2, d3, d4, ?_, ?_, ?_, ?_, ?_, hj⟩
    all_goals rw [List.getElem?_append_left (by rw [h.1]; omega)]; assumption
  · rw [List.getElem?_append_right (by omega)] at hy
    obtain ⟨rfl, rfl⟩ : i = l.length ∧ y = x := by
      cases he : i - l.length with
      | zero => rw [he] at hy; exact ⟨by omega, by simpa using hy.symm⟩
      | succ q => rw [he] at hy; simp at hy
    refine ⟨c0, c1, c2, c3, c4, ?_, ?_, ?_, ?_, ?_, hx⟩
    all_goals rw [List.getElem?_append_right (by rw [h.1]; omega), h.1]
    · simp
    · rw [show l.length * 5 + 1 - l.length * 5 = 1 by omega]; rfl
    · rw [show l.length * 5 + 2 - l.length * 5 = 2 by omega]; rfl
    · rw [show l.length * 5 + 3 - l.length * 5 = 3 by omega]; rfl
    · rw [show l.length * 5 + 4 - l.length * 5 = 4 by omega]; rfl
/-- a row of values of the call's own -/
theorem items_of_own {w : World} {B : Nat} {e : TypeId} {v : Value} {l : List JV} {cs : List Value} (h : w.ownsRow B e 5 v l.length cs) (hr : VRow (cf w) l cs) : ItemsAt (cf w) v l := by
  have h2 := h.2
  rcases h2 with ⟨hv, hn⟩ | ⟨g, cap, cur, hv, hb, _, hle, hcap, _⟩
  · obtain rfl : l = [] := List.length_eq_zero_iff.1 hn
    exact ⟨none, 0, hv, by simp, fun i s h => by simp at h⟩
  · refine ⟨some ⟨g, 0, none⟩, cap, hv, by unfold maxLen at hcap; omega, fun i x hi => ?_⟩
    obtain ⟨c0, c1, c2, c3, c4, a0, a1, a2, a3, a4, hj⟩ := hr.2 i x hi
    have hc : ∀ (j : Nat) u, cs[j]? = some u → cf w g (0 + j) = some u := fun j u hu => by
      have := h.cells (g := g) (by rw [hv]; rfl) j u hu
      rw [addr_at] at this
      unfold cf; rw [Nat.zero_add]; exact this
    obtain ⟨k, n, t, nm, it, na, ncap, ia, icap, hxe, e, _⟩ := id hj.open
    simp only [Value.agg.injEq, Array.mk.injEq, List.cons.injEq, and_true] at e
    obtain ⟨rfl, rfl, rfl, rfl, rfl⟩ := e
    exact ⟨g, 0, k, n, t, nm, it, na, ncap, ia, icap, rfl, hxe, hc _ _ a0, hc _ _ a1, hc _ _ a2, hc _ _ a3, hc _ _ a4, hj⟩
theorem keptB {w w' : World} {k q : Nat} {o : Obj} (h : w.heap[q]? = some o) (hq : q < k) (hb : Below k w w') : w'.heap[q]? = some o := by rw [hb.block q hq]; exact h
/-- the walk stands still here -/
structure StopE (p : Prop) : Prop where out : p
theorem stop_buildE {P : Program} {ops : Array Oper} {Q : Exit → Act → World → Prop} {rest : List Oper} {a : Act} {dst : Option Nat} {t ty : TypeId} {n : Nat} {xs : Array (Nat × Operand)} {pos : String} {after : Array Edge} {g : Option (Nat × Bool)} (W : World)
    (h : StopE (wpList P ops Q (⟨dst, Op.buildSlice t n xs, ty, pos, after, g⟩ :: rest) a W)) : wpList P ops Q (⟨dst, Op.buildSlice t n xs, ty, pos, after, g⟩ :: rest) a W := h.out
theorem own_below {w w' : World} {B k : Nat} {e : TypeId} {n sz : Nat} {v : Value} {xs : List Value} (h : w.ownsRow B e sz v n xs) (hb : Below k w w') (hk : ∀ g, v.ownBlock = some g → g < k) : w'.ownsRow B e sz v n xs := by
  obtain ⟨h1, h2⟩ := h
  refine ⟨h1, ?_⟩
  rcases h2 with h2 | ⟨g, cap, cur, hv, hB, hc, hrest⟩
  · exact .inl h2
  · exact .inr ⟨g, cap, cur, hv, hB, by rw [hb.block g (hk g (by rw [hv]; rfl))]; exact hc, hrest⟩
theorem twoE (w : World) (o0 o1 : Obj) : ∃ W, W = ((w.alloc o0).alloc o1) ∧ Below w.heap.size w W ∧ W.heap[w.heap.size]? = some o0 ∧ W.heap[w.heap.size + 1]? = some o1 :=
  ⟨_, rfl, ((Below.refl _ w).alloc (Nat.le_refl _) o0).alloc (by simp) o1, kept (heap_alloc_new w o0) ((Below.refl _ _).alloc (Nat.le_refl _) o1), by have := heap_alloc_new (w.alloc o0) o1; simpa using this⟩
theorem items_block {w : World} {b : Nat} {cs : Array Value} {t : TypeId} {fr : Nat × Nat} {l : List JV} (h : w.heap[b]? = some (.cells cs t fr)) (hl : l.length ≤ 9223372036854775807) (hr : VRow (cf w) l cs.toList) : ItemsAt (cf w) (.slice (some ⟨b, 0, none⟩) l.length l.length) l := by
  refine ⟨some ⟨b, 0, none⟩, l.length, rfl, hl, fun i x hi => ?_⟩
  obtain ⟨c0, c1, c2, c3, c4, a0, a1, a2, a3, a4, hj⟩ := hr.2 i x hi
  have hc : ∀ (j : Nat) u, cs.toList[j]? = some u → cf w b (0 + j) = some u := fun j u hu => by
    have := World.news_of_block h j u hu
    rw [addr_at] at this
    unfold cf; rw [Nat.zero_add]; exact this
  obtain ⟨k, n, t, nm, it, na, ncap, ia, icap, hxe, e, _⟩ := id hj.open
  simp only [Value.agg.injEq, Array.mk.injEq, List.cons.injEq, and_true] at e
  obtain ⟨rfl, rfl, rfl, rfl, rfl⟩ := e
  exact ⟨b, 0, k, n, t, nm, it, na, ncap, ia, icap, rfl, hxe, hc _ _ a0, hc _ _ a1, hc _ _ a2, hc _ _ a3, hc _ _ a4, hj⟩
theorem strs_block {w : World} {b : Nat} {cs : Array Value} {t : TypeId} {fr : Nat × Nat} {l : List ByteArray} (h : w.heap[b]? = some (.cells cs t fr)) (hc : cs.toList = l.map Value.string) (hl : l.length ≤ 9223372036854775807) (hs : ∀ s ∈ l, s.size ≤ 9223372036854775807) : StrsAt (cf w) (.slice (some ⟨b, 0, none⟩) l.length l.length) l := by
  refine ⟨some ⟨b, 0, none⟩, l.length, rfl, hl, fun i s hi => ⟨hs s (List.mem_of_getElem? hi), b, 0, rfl, ?_⟩⟩
  have := World.news_of_block h i (.string s) (by rw [hc, List.getElem?_map, hi]; rfl)
  rw [addr_at] at this
  unfold cf; rw [Nat.zero_add]; exact this
theorem own_set5 {w : World} {B k : Nat} {e : TypeId} {n sz : Nat} {v c0 c1 c2 c3 c4 : Value} {xs : List Value} (h : w.ownsRow B e sz v n xs) (hk : k < B) : (set5 w k c0 c1 c2 c3 c4).ownsRow B e sz v n xs :=
  own_set (own_set (own_set (own_set (own_set h hk) hk) hk) hk) hk
/-! an index as a value -/
def dashS (s : ByteArray) (d : Bool) : ByteArray := if d then ⟨#[45]⟩ ++ s else s
def strJ (s : ByteArray) : JV := .mk 4 0 s [] []
def kindJ (k : Int) : JV := .mk k 0 ⟨#[]⟩ [] []
abbrev wFields : ByteArray := ⟨#[102, 105, 101, 108, 100, 115]⟩
abbrev wName : ByteArray := ⟨#[110, 97, 109, 101]⟩
abbrev wUnique : ByteArray := ⟨#[117, 110, 105, 113, 117, 101]⟩
def showItems (x : IX) : List JV := x.fields.map fun f => strJ (dashS f.1 f.2)
def showJ (x : IX) : JV := .mk 6 0 ⟨#[]⟩ [wFields, wName, wUnique] [.mk 5 0 ⟨#[]⟩ [] (showItems x), strJ x.name, kindJ (if x.uniq then 2 else 1)]
theorem good_sizes {all : List Fd} : ∀ (l : List Fd) (j : Nat), goodF all j l = true → ∀ f ∈ l, f.1.size ≤ 24
  | [], _, _, f, hf => by cases hf
  | g :: l, j, h, f, hf => by
    rw [goodF, Bool.and_eq_true, Bool.and_eq_true] at h
    rcases List.mem_cons.1 hf with rfl | hf
    · have := h.1.1
      unfold pathOk simpleF at this
      rw [Bool.and_eq_true, Bool.and_eq_true] at this
      exact of_decide_eq_true this.2.2
    · exact good_sizes l (j + 1) h.2 f hf
theorem form_parts {x : IX} (h : formI x = true) : nameF x.name = true ∧ (1 ≤ x.fields.length ∧ x.fields.length ≤ 3) ∧ ∀ f ∈ x.fields, f.1.size ≤ 24 := by
  unfold formI at h
  rw [Bool.and_eq_true, Bool.and_eq_true] at h
  exact ⟨h.1.1, of_decide_eq_true h.1.2, good_sizes _ _ h.2⟩
/-- what Show hands back -/
def ShowPost (x : IX) (w : World) (e : Ending) (w' : World) : Prop := (if formI x = true then ∃ y, e = .returned (.tuple #[y, .int .i64 0]) ∧ JAt (cf w') (showJ x) y
    else e = .returned (.tuple #[.agg #[.int .i64 0, .int .i64 0, .string ⟨#[]⟩, .slice none 0 0, .slice none 0 0], .int .i64 2])) ∧ Below w.heap.size w w'
end Go.Proofs.YticlnijkfclgcaaGreatDoor
