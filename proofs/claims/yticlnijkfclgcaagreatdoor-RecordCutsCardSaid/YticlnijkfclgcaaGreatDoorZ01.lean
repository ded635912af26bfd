/- JSON values in memory: what a world's cells hold, as a tree. Nodes and Few of the reference. -/
import Derived.Test.YticlnijkfclgcaaGreatDoorRows
import Derived.WalkKit
import Derived.WalkSpells
import Derived.WalkLawsBesides
import Derived.Lib.Hide
import Derived.ProofKit
import Derived.Deep.Slices
import Derived.Maps.OwnSet
namespace Go.Proofs.YticlnijkfclgcaaGreatDoor
open Go.RowKit

/-- a value: kind, number, text, names, items -/
inductive JV where
  | mk (kind n : Int) (text : ByteArray) (names : List ByteArray) (items : List JV)
def JV.kind : JV → Int | .mk k _ _ _ _ => k
def JV.n : JV → Int | .mk _ n _ _ _ => n
def JV.text : JV → ByteArray | .mk _ _ t _ _ => t
def JV.names : JV → List ByteArray | .mk _ _ _ n _ => n
def JV.items : JV → List JV | .mk _ _ _ _ i => i
/-- cells by block and offset -/
abbrev CF := Nat → Nat → Option Value
def cf (w : World) : CF := fun b o => w.cell? ⟨b, o, none⟩
def CLe (c d : CF) : Prop := ∀ b o v, c b o = some v → d b o = some v
theorem CLe.refl (c : CF) : CLe c c := fun _ _ _ h => h
theorem CLe.trans {a b c : CF} (h : CLe a b) (k : CLe b c) : CLe a c := fun x o v hv => k x o v (h x o v hv)
theorem lt_of_cell {w : World} {b o : Nat} {v : Value} (h : w.cell? ⟨b, o, none⟩ = some v) : b < w.heap.size := by
  rcases Nat.lt_or_ge b w.heap.size with h' | h'
  · exact h'
  · simp [World.cell?, Array.getElem?_eq_none h'] at h
theorem cle_below {w w' : World} (h : Below w.heap.size w w') : CLe (cf w) (cf w') := fun b o v hv => by
  unfold cf at *; rw [h.cell (p := ⟨b, o, none⟩) (lt_of_cell hv)]; exact hv
theorem cle_alloc (w : World) (x : Obj) : CLe (cf w) (cf (w.alloc x)) := cle_below ((Below.refl _ w).alloc (Nat.le_refl _) x)
/-- a slice of strings -/
def StrsAt (c : CF) (v : Value) (names : List ByteArray) : Prop :=
  ∃ a cap, v = .slice a names.length cap ∧ names.length ≤ 9223372036854775807 ∧ ∀ (i : Nat) s, names[i]? = some s → s.size ≤ 9223372036854775807 ∧ ∃ b off, a = some ⟨b, off, none⟩ ∧ c b (off + i) = some (.string s)
theorem StrsAt.mono {c d : CF} {v : Value} {names : List ByteArray} (h : StrsAt c v names) (hl : CLe c d) : StrsAt d v names := by
  obtain ⟨a, cap, hv, hm, hs⟩ := h
  refine ⟨a, cap, hv, hm, fun i s hi => ?_⟩
  obtain ⟨h1, b, off, h2, h3⟩ := hs i s hi
  exact ⟨h1, b, off, h2, hl _ _ _ h3⟩
/-- five cells in a row -/
def Cells5 (c : CF) (b o : Nat) (v : Value) : Prop :=
  ∃ c0 c1 c2 c3 c4, v = .agg #[c0, c1, c2, c3, c4] ∧ c b o = some c0 ∧ c b (o + 1) = some c1 ∧ c b (o + 2) = some c2 ∧ c b (o + 3) = some c3 ∧ c b (o + 4) = some c4
theorem Cells5.mono {c d : CF} {b o : Nat} {v : Value} (h : Cells5 c b o v) (hl : CLe c d) : Cells5 d b o v := by
  obtain ⟨c0, c1, c2, c3, c4, e, h0, h1, h2, h3, h4⟩ := h
  exact ⟨c0, c1, c2, c3, c4, e, hl _ _ _ h0, hl _ _ _ h1, hl _ _ _ h2, hl _ _ _ h3, hl _ _ _ h4⟩
/-- a value that cells hold -/
inductive JAt (c : CF) : JV → Value → Prop
  | mk (kind n : Int) (text : ByteArray) (names : List ByteArray) (items : List JV) (nv : Value) (a : Option Addr) (cap : Nat) (cell : Nat → Value)
    (hk : (Lit.int .i64 kind).wf = true) (hn : (Lit.int .i64 n).wf = true) (ht : text.size ≤ 9223372036854775807) (hs : StrsAt c nv names) (hl : items.length ≤ 9223372036854775807)
    (hc : ∀ (i : Nat) v, items[i]? = some v → ∃ b off, a = some ⟨b, off, none⟩ ∧ Cells5 c b (off + i * 5) (cell i))
    (hi : ∀ (i : Nat) v, items[i]? = some v → JAt c v (cell i)) :
    JAt c (.mk kind n text names items) (.agg #[.int .i64 kind, .int .i64 n, .string text, nv, .slice a items.length cap])
theorem JAt.mono {c d : CF} (hl : CLe c d) {v : JV} {x : Value} (h : JAt c v x) : JAt d v x := by
  induction h with
  | mk kind n text names items nv a cap cell hk hn ht hs hlen hc hi ih =>
    refine .mk kind n text names items nv a cap cell hk hn ht (hs.mono hl) hlen (fun i v hv => ?_) (fun i v hv => ih i v hv)
    obtain ⟨b, off, h1, h2⟩ := hc i v hv
    exact ⟨b, off, h1, h2.mono hl⟩
/-- a slice of values -/
def ItemsAt (c : CF) (v : Value) (items : List JV) : Prop :=
  ∃ a cap, v = .slice a items.length cap ∧ items.length ≤ 9223372036854775807 ∧ ∀ (i : Nat) x, items[i]? = some x → ∃ b off k n t nm it na ncap ia icap, a = some ⟨b, off, none⟩ ∧ x = .mk k n t nm it ∧
    c b (off + i * 5) = some (.int .i64 k) ∧ c b (off + i * 5 + 1) = some (.int .i64 n) ∧ c b (off + i * 5 + 2) = some (.string t) ∧ c b (off + i * 5 + 3) = some (.slice na nm.length ncap) ∧ c b (off + i * 5 + 4) = some (.slice ia it.length icap) ∧
    JAt c x (.agg #[.int .i64 k, .int .i64 n, .string t, .slice na nm.length ncap, .slice ia it.length icap])
theorem JAt.open {c : CF} {v : JV} {x : Value} (h : JAt c v x) : ∃ k n t nm it na ncap ia icap, v = .mk k n t nm it ∧ x = .agg #[.int .i64 k, .int .i64 n, .string t, .slice na nm.length ncap, .slice ia it.length icap] ∧
    (Lit.int .i64 k).wf = true ∧ (Lit.int .i64 n).wf = true ∧ t.size ≤ 9223372036854775807 ∧ StrsAt c (.slice na nm.length ncap) nm ∧ ItemsAt c (.slice ia it.length icap) it := by
  cases h with
  | mk kind n text names items nv a cap cell hk hn ht hs hl hc hi =>
    obtain ⟨na, ncap, rfl, _⟩ := id hs
    refine ⟨kind, n, text, names, items, na, ncap, a, cap, rfl, rfl, hk, hn, ht, hs, a, cap, rfl, hl, fun i x hx => ?_⟩
    obtain ⟨b, off, h1, c0, c1, c2, c3, c4, e, h2, h3, h4, h5, h6⟩ := hc i x hx
    have hj := hi i x hx
    rw [e] at hj
    cases hj with
    | mk k n t nm it nv a2 cap2 cell hk hn ht hs hl hc hi =>
      obtain ⟨na2, ncap2, rfl, _⟩ := id hs
      exact ⟨b, off, k, n, t, nm, it, na2, ncap2, a2, cap2, h1, rfl, h2, h3, h4, h5, h6, .mk k n t nm it _ a2 cap2 cell hk hn ht hs hl hc hi⟩
theorem JAt.shut {c : CF} {k n : Int} {t : ByteArray} {nm : List ByteArray} {it : List JV} {nv iv : Value} (hk : (Lit.int .i64 k).wf = true) (hn : (Lit.int .i64 n).wf = true) (ht : t.size ≤ 9223372036854775807) (hs : StrsAt c nv nm) (hi : ItemsAt c iv it) :
    JAt c (.mk k n t nm it) (.agg #[.int .i64 k, .int .i64 n, .string t, nv, iv]) := by
  obtain ⟨a, cap, rfl, hl, h⟩ := hi
  have hx : ∀ i : Nat, ∃ y : Value, ∀ x, it[i]? = some x → (∃ b off, a = some ⟨b, off, none⟩ ∧ Cells5 c b (off + i * 5) y) ∧ JAt c x y := by
    intro i
    cases e : it[i]? with
    | none => exact ⟨.bool true, fun x hx => by cases hx⟩
    | some x =>
      obtain ⟨b, off, k, n, t, nm, it2, na, ncap, ia, icap, h1, h2, h3, h4, h5, h6, h7, h8⟩ := h i x e
      refine ⟨.agg #[.int .i64 k, .int .i64 n, .string t, .slice na nm.length ncap, .slice ia it2.length icap], fun y hy => ?_⟩
      cases hy
      exact ⟨⟨b, off, h1, _, _, _, _, _, rfl, h3, h4, h5, h6, h7⟩, h8⟩
  obtain ⟨cell, hcell⟩ := Classical.axiomOfChoice hx
  exact .mk k n t nm it nv a cap cell hk hn ht hs hl (fun i v hv => (hcell i v hv).1) (fun i v hv => (hcell i v hv).2)
theorem ItemsAt.mono {c d : CF} {v : Value} {items : List JV} (h : ItemsAt c v items) (hl : CLe c d) : ItemsAt d v items := by
  obtain ⟨a, cap, hv, hm, hs⟩ := h
  refine ⟨a, cap, hv, hm, fun i x hi => ?_⟩
  obtain ⟨b, off, k, n, t, nm, it2, na, ncap, ia, icap, h1, h2, h3, h4, h5, h6, h7, h8⟩ := hs i x hi
  exact ⟨b, off, k, n, t, nm, it2, na, ncap, ia, icap, h1, h2, hl _ _ _ h3, hl _ _ _ h4, hl _ _ _ h5, hl _ _ _ h6, hl _ _ _ h7, h8.mono hl⟩
/-- behind the first box of a call: the box stands, and all that was there -/
structure Boxed (w wr : World) (o : Obj) : Prop where
  bel : Below (w.heap.size + 1) (w.alloc o) wr
theorem Boxed.refl (w : World) (o : Obj) : Boxed w (w.alloc o) o := ⟨Below.refl _ _⟩
theorem Boxed.below {w wr : World} {o : Obj} (h : Boxed w wr o) : Below w.heap.size w wr :=
  ((Below.refl _ w).alloc (Nat.le_refl _) o).trans (h.bel.mono (by omega))
theorem Boxed.lt {w wr : World} {o : Obj} (h : Boxed w wr o) : w.heap.size + 1 ≤ wr.heap.size := by have := h.bel.size; simpa using this
theorem Boxed.next {w wr w' : World} {o : Obj} (h : Boxed w wr o) (hb : Below wr.heap.size wr w') : Boxed w w' o := ⟨h.bel.trans (hb.mono h.lt)⟩
theorem Boxed.alloc {w wr : World} {o x : Obj} (h : Boxed w wr o) : Boxed w (wr.alloc x) o := ⟨h.bel.alloc h.lt x⟩
theorem Boxed.drew {w wr : World} {o : Obj} (h : Boxed w wr o) : Boxed w wr.drew o := ⟨h.bel.drew⟩
theorem Boxed.blk {w wr : World} {o : Obj} (h : Boxed w wr o) : wr.heap[w.heap.size]? = some o := by
  rw [h.bel.block _ (Nat.lt_succ_self _)]; exact heap_alloc_new w o
theorem Boxed.c0 {w wr : World} {c0 c1 c2 c3 c4 : Value} {t : TypeId} (h : Boxed w wr (.cells #[c0, c1, c2, c3, c4] t)) : wr.cell? ⟨w.heap.size, 0, none⟩ = some c0 := by simp [World.cell?, h.blk]
theorem Boxed.c1 {w wr : World} {c0 c1 c2 c3 c4 : Value} {t : TypeId} (h : Boxed w wr (.cells #[c0, c1, c2, c3, c4] t)) : wr.cell? ⟨w.heap.size, 1, none⟩ = some c1 := by simp [World.cell?, h.blk]
theorem Boxed.c2 {w wr : World} {c0 c1 c2 c3 c4 : Value} {t : TypeId} (h : Boxed w wr (.cells #[c0, c1, c2, c3, c4] t)) : wr.cell? ⟨w.heap.size, 2, none⟩ = some c2 := by simp [World.cell?, h.blk]
theorem Boxed.c3 {w wr : World} {c0 c1 c2 c3 c4 : Value} {t : TypeId} (h : Boxed w wr (.cells #[c0, c1, c2, c3, c4] t)) : wr.cell? ⟨w.heap.size, 3, none⟩ = some c3 := by simp [World.cell?, h.blk]
theorem Boxed.c4 {w wr : World} {c0 c1 c2 c3 c4 : Value} {t : TypeId} (h : Boxed w wr (.cells #[c0, c1, c2, c3, c4] t)) : wr.cell? ⟨w.heap.size, 4, none⟩ = some c4 := by simp [World.cell?, h.blk]
theorem take_succ {α : Type} {l : List α} {i : Nat} {x : α} (h : l[i]? = some x) : l.take (i + 1) = l.take i ++ [x] := by
  obtain ⟨hi, e⟩ := List.getElem?_eq_some_iff.1 h
  rw [List.take_succ_eq_append_getElem hi, e]
theorem JV.ind {P : JV → Prop} (h : ∀ k n t nm it, (∀ x ∈ it, P x) → P (.mk k n t nm it)) : ∀ v, P v
  | .mk k n t nm it => h k n t nm it (fun x _ => JV.ind h x)
end Go.Proofs.YticlnijkfclgcaaGreatDoor

namespace Go.Proofs.YticlnijkfclgcaaGreatDoor
open Go.RowKit

end Go.Proofs.YticlnijkfclgcaaGreatDoor

/- Maps of anything by texts, made by the call: what they hold, as a function. -/
namespace Go.Proofs.YticlnijkfclgcaaGreatDoor
open Go.RowKit Go.Maps Go.WideMaps

theorem mapKeyedV : Keyed Tryz.prog 9 := string_keyed Tryz.underlying9
/-- an element, as it is -/
def heldElem : Value → Option (DataW Value × List MemPlace) := fun v => some (.held v, [])
/-- block b is a map, of at most n entries, in which s leads to f s -/
def MapV (b n : Nat) (f : ByteArray → Option Value) (w : World) : Prop :=
  ∃ D : DataW Value, w.ownsMap Tryz.prog 9 heldElem b n D ∧ IsMap D ∧ ∀ (s : ByteArray) (zd : DataW Value), D.atKey (.string s.data.toList) zd = match f s with | some v => .held v | none => zd
theorem MapV.start (w : World) : MapV w.heap.size 0 (fun _ => none) (w.alloc (.map #[] 0)) := ⟨.map [], World.ownsMap_made _ _ _ _, isMap_empty, fun _ _ => rfl⟩
theorem MapV.lt {b n : Nat} {f : ByteArray → Option Value} {w : World} (h : MapV b n f w) : b < w.heap.size := by obtain ⟨D, h1, _⟩ := h; exact h1.lt
theorem MapV.kept {b n : Nat} {f : ByteArray → Option Value} {w w' : World} {row : Option Nat} (h : MapV b n f w) (k : w.grownBy w' row) (hne : some b ≠ row) : MapV b n f w' := by
  obtain ⟨D, h1, h2, h3⟩ := h
  exact ⟨D, h1.kept k hne, h2, h3⟩
theorem MapV.quiet {b n : Nat} {f : ByteArray → Option Value} {w w' : World} (h : MapV b n f w) (k : Below w.heap.size w w') : MapV b n f w' :=
  h.kept (row := none) ⟨k.os, k.tape, k.output, k.size, fun q hq _ => k.block q hq⟩ (by simp)
theorem MapV.drew {b n : Nat} {f : ByteArray → Option Value} {w : World} (h : MapV b n f w) : MapV b n f w.drew := by
  obtain ⟨D, h1, h2, h3⟩ := h
  exact ⟨D, h1.drew, h2, h3⟩
theorem MapV.put {b n : Nat} {f : ByteArray → Option Value} {w : World} {t e : TypeId} (h : MapV b n f w) (ht : Tryz.prog.underlying t = some (.map 9 e)) (s : ByteArray) (hs : s.size ≤ 1000000) (v : Value) (hn : n ≤ 1000000) :
    ∃ w', (Instr.mapUpdate t (.map (some b)) (.string s) v).run Tryz.prog w = .ok () w' ∧ MapV b (n + 1) (fun k => if k = s then some v else f k) w' ∧ w.grownBy w' (some b) := by
  obtain ⟨D, h1, h2, h3⟩ := h
  obtain ⟨w', hrun, hown, hg⟩ := h1.update mapKeyedV ht (by unfold maxLen; omega) (keyOf_string_mk Tryz.underlying9 (s := s) (by unfold maxLen; omega)) (show heldElem v = some (.held v, []) from rfl)
  refine ⟨w', hrun, ⟨_, hown, h2.put _ _, fun k zd => ?_⟩, hg⟩
  by_cases e : k = s
  · subst e
    rw [atKey_put_same h2 (show WideAt.IsKeyLit (.string k.data.toList) from trivial)]
    simp
  · rw [atKey_put_other (fun e2 => e (by
      have := Lit.string.inj e2
      have := Array.toList_inj.1 this
      cases k; cases s; simp_all)), h3 k]
    simp [e]
end Go.Proofs.YticlnijkfclgcaaGreatDoor
