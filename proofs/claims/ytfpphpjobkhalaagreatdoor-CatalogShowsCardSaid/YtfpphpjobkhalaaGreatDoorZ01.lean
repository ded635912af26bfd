/- JSON values in memory: what a world's cells hold, as a tree. Nodes and Few of the reference. -/
import Derived.Test.YtfpphpjobkhalaaGreatDoorRows
import Derived.WalkKit
import Derived.WalkSpells
import Derived.WalkLawsBesides
import Derived.Lib.Hide
import Derived.ProofKit
import Derived.Deep.Slices
namespace Go.Proofs.YtfpphpjobkhalaaGreatDoor
open Go.RowKit

/-- a value: kind, number, text, names, items -/
inductive JV where
  | mk (kind n : Int) (text : ByteArray) (names : List ByteArray) (items : List JV)
def JV.kind : JV → Int | .mk k _ _ _ _ => k
def JV.n : JV → Int | .mk _ n _ _ _ => n
def JV.text : JV → ByteArray | .mk _ _ t _ _ => t
def JV.names : JV → List ByteArray | .mk _ _ _ n _ => n
def JV.items : JV → List JV | .mk _ _ _ _ i => i
/-- cells by block and offset -/
abbrev CF := Nat → Nat → Option Value
def cf (w : World) : CF := fun b o => w.cell? ⟨b, o, none⟩
def CLe (c d : CF) : Prop := ∀ b o v, c b o = some v → d b o = some v
theorem CLe.refl (c : CF) : CLe c c := fun _ _ _ h => h
theorem CLe.trans {a b c : CF} (h : CLe a b) (k : CLe b c) : CLe a c := fun x o v hv => k x o v (h x o v hv)
theorem lt_of_cell {w : World} {b o : Nat} {v : Value} (h : w.cell? ⟨b, o, none⟩ = some v) : b < w.heap.size := by
  rcases Nat.lt_or_ge b w.heap.size with h' | h'
  · exact h'
  · simp [World.cell?, Array.getElem?_eq_none h'] at h
theorem cle_below {w w' : World} (h : Below w.heap.size w w') : CLe (cf w) (cf w') := fun b o v hv => by
  unfold cf at *; rw [h.cell (p := ⟨b, o, none⟩) (lt_of_cell hv)]; exact hv
theorem cle_alloc (w : World) (x : Obj) : CLe (cf w) (cf (w.alloc x)) := cle_below ((Below.refl _ w).alloc (Nat.le_refl _) x)
/-- a slice of strings -/
def StrsAt (c : CF) (v : Value) (names : List ByteArray) : Prop :=
  ∃ a cap, v = .slice a names.length cap ∧ names.length ≤ 9223372036854775807 ∧ ∀ (i : Nat) s, names[i]? = some s → s.size ≤ 9223372036854775807 ∧ ∃ b off, a = some ⟨b, off, none⟩ ∧ c b (off + i) = some (.string s)
theorem StrsAt.mono {c d : CF} {v : Value} {names : List ByteArray} (h : StrsAt c v names) (hl : CLe c d) : StrsAt d v names := by
  obtain ⟨a, cap, hv, hm, hs⟩ := h
  refine ⟨a, cap, hv, hm, fun i s hi => ?_⟩
  obtain ⟨h1, b, off, h2, h3⟩ := hs i s hi
  exact ⟨h1, b, off, h2, hl _ _ _ h3⟩
/-- five cells in a row -/
def Cells5 (c : CF) (b o : Nat) (v : Value) : Prop :=
  ∃ c0 c1 c2 c3 c4, v = .agg #[c0, c1, c2, c3, c4] ∧ c b o = some c0 ∧ c b (o + 1) = some c1 ∧ c b (o + 2) = some c2 ∧ c b (o + 3) = some c3 ∧ c b (o + 4) = some c4
theorem Cells5.mono {c d : CF} {b o : Nat} {v : Value} (h : Cells5 c b o v) (hl : CLe c d) : Cells5 d b o v := by
  obtain ⟨c0, c1, c2, c3, c4, e, h0, h1, h2, h3, h4⟩ := h
  exact ⟨c0, c1, c2, c3, c4, e, hl _ _ _ h0, hl _ _ _ h1, hl _ _ _ h2, hl _ _ _ h3, hl _ _ _ h4⟩
/-- a value that cells hold -/
inductive JAt (c : CF) : JV → Value → Prop
  | mk (kind n : Int) (text : ByteArray) (names : List ByteArray) (items : List JV) (nv : Value) (a : Option Addr) (cap : Nat) (cell : Nat → Value)
    (hk : (Lit.int .i64 kind).wf = true) (hn : (Lit.int .i64 n).wf = true) (ht : text.size ≤ 9223372036854775807) (hs : StrsAt c nv names) (hl : items.length ≤ 9223372036854775807)
    (hc : ∀ (i : Nat) v, items[i]? = some v → ∃ b off, a = some ⟨b, off, none⟩ ∧ Cells5 c b (off + i * 5) (cell i))
    (hi : ∀ (i : Nat) v, items[i]? = some v → JAt c v (cell i)) :
    JAt c (.mk kind n text names items) (.agg #[.int .i64 kind, .int .i64 n, .string text, nv, .slice a items.length cap])
theorem JAt.mono {c d : CF} (hl : CLe c d) {v : JV} {x : Value} (h : JAt c v x) : JAt d v x := by
  induction h with
  | mk kind n text names items nv a cap cell hk hn ht hs hlen hc hi ih =>
    refine .mk kind n text names items nv a cap cell hk hn ht (hs.mono hl) hlen (fun i v hv => ?_) (fun i v hv => ih i v hv)
    obtain ⟨b, off, h1, h2⟩ := hc i v hv
    exact ⟨b, off, h1, h2.mono hl⟩
/-- a slice of values -/
def ItemsAt (c : CF) (v : Value) (items : List JV) : Prop :=
  ∃ a cap, v = .slice a items.length cap ∧ items.length ≤ 9223372036854775807 ∧ ∀ (i : Nat) x, items[i]? = some x → ∃ b off k n t nm it na ncap ia icap, a = some ⟨b, off, none⟩ ∧ x = .mk k n t nm it ∧
    c b (off + i * 5) = some (.int .i64 k) ∧ c b (off + i * 5 + 1) = some (.int .i64 n) ∧ c b (off + i * 5 + 2) = some (.string t) ∧ c b (off + i * 5 + 3) = some (.slice na nm.length ncap) ∧ c b (off + i * 5 + 4) = some (.slice ia it.length icap) ∧
    JAt c x (.agg #[.int .i64 k, .int .i64 n, .string t, .slice na nm.length ncap, .slice ia it.length icap])
theorem JAt.open {c : CF} {v : JV} {x : Value} (h : JAt c v x) : ∃ k n t nm it na ncap ia icap, v = .mk k n t nm it ∧ x = .agg #[.int .i64 k, .int .i64 n, .string t, .slice na nm.length ncap, .slice ia it.length icap] ∧
    (Lit.int .i64 k).wf = true ∧ (Lit.int .i64 n).wf = true ∧ t.size ≤ 9223372036854775807 ∧ StrsAt c (.slice na nm.length ncap) nm ∧ ItemsAt c (.slice ia it.length icap) it := by
  cases h with
  | mk kind n text names items nv a cap cell hk hn ht hs hl hc hi =>
    obtain ⟨na, ncap, rfl, _⟩ := id hs
    refine ⟨kind, n, text, names, items, na, ncap, a, cap, rfl, rfl, hk, hn, ht, hs, a, cap, rfl, hl, fun i x hx => ?_⟩
    obtain ⟨b, off, h1, c0, c1, c2, c3, c4, e, h2, h3, h4, h5, h6⟩ := hc i x hx
    have hj := hi i x hx
    rw [e] at hj
    cases hj with
    | mk k n t nm it nv a2 cap2 cell hk hn ht hs hl hc hi =>
      obtain ⟨na2, ncap2, rfl, _⟩ := id hs
      exact ⟨b, off, k, n, t, nm, it, na2, ncap2, a2, cap2, h1, rfl, h2, h3, h4, h5, h6, .mk k n t nm it _ a2 cap2 cell hk hn ht hs hl hc hi⟩
theorem JAt.shut {c : CF} {k n : Int} {t : ByteArray} {nm : List ByteArray} {it : List JV} {nv iv : Value} (hk : (Lit.int .i64 k).wf = true) (hn : (Lit.int .i64 n).wf = true) (ht : t.size ≤ 9223372036854775807) (hs : StrsAt c nv nm) (hi : ItemsAt c iv it) :
    JAt c (.mk k n t nm it) (.agg #[.int .i64 k, .int .i64 n, .string t, nv, iv]) := by
  obtain ⟨a, cap, rfl, hl, h⟩ := hi
  have hx : ∀ i : Nat, ∃ y : Value, ∀ x, it[i]? = some x → (∃ b off, a = some ⟨b, off, none⟩ ∧ Cells5 c b (off + i * 5) y) ∧ JAt c x y := by
    intro i
    cases e : it[i]? with
    | none => exact ⟨.bool true, fun x hx => by cases hx⟩
    | some x =>
      obtain ⟨b, off, k, n, t, nm, it2, na, ncap, ia, icap, h1, h2, h3, h4, h5, h6, h7, h8⟩ := h i x e
      refine ⟨.agg #[.int .i64 k, .int .i64 n, .string t, .slice na nm.length ncap, .slice ia it2.length icap], fun y hy => ?_⟩
      cases hy
      exact ⟨⟨b, off, h1, _, _, _, _, _, rfl, h3, h4, h5, h6, h7⟩, h8⟩
  obtain ⟨cell, hcell⟩ := Classical.axiomOfChoice hx
  exact .mk k n t nm it nv a cap cell hk hn ht hs hl (fun i v hv => (hcell i v hv).1) (fun i v hv => (hcell i v hv).2)
theorem ItemsAt.mono {c d : CF} {v : Value} {items : List JV} (h : ItemsAt c v items) (hl : CLe c d) : ItemsAt d v items := by
  obtain ⟨a, cap, hv, hm, hs⟩ := h
  refine ⟨a, cap, hv, hm, fun i x hi => ?_⟩
  obtain ⟨b, off, k, n, t, nm, it2, na, ncap, ia, icap, h1, h2, h3, h4, h5, h6, h7, h8⟩ := hs i x hi
  exact ⟨b, off, k, n, t, nm, it2, na, ncap, ia, icap, h1, h2, hl _ _ _ h3, hl _ _ _ h4, hl _ _ _ h5, hl _ _ _ h6, hl _ _ _ h7, h8.mono hl⟩
/-- behind the first box of a call: the box stands, and all that was there -/
structure Boxed (w wr : World) (o : Obj) : Prop where
  bel : Below (w.heap.size + 1) (w.alloc o) wr
theorem Boxed.refl (w : World) (o : Obj) : Boxed w (w.alloc o) o := ⟨Below.refl _ _⟩
theorem Boxed.below {w wr : World} {o : Obj} (h : Boxed w wr o) : Below w.heap.size w wr :=
  ((Below.refl _ w).alloc (Nat.le_refl _) o).trans (h.bel.mono (by omega))
theorem Boxed.lt {w wr : World} {o : Obj} (h : Boxed w wr o) : w.heap.size + 1 ≤ wr.heap.size := by have := h.bel.size; simpa using this
theorem Boxed.next {w wr w' : World} {o : Obj} (h : Boxed w wr o) (hb : Below wr.heap.size wr w') : Boxed w w' o := ⟨h.bel.trans (hb.mono h.lt)⟩
theorem Boxed.alloc {w wr : World} {o x : Obj} (h : Boxed w wr o) : Boxed w (wr.alloc x) o := ⟨h.bel.alloc h.lt x⟩
theorem Boxed.drew {w wr : World} {o : Obj} (h : Boxed w wr o) : Boxed w wr.drew o := ⟨h.bel.drew⟩
theorem Boxed.blk {w wr : World} {o : Obj} (h : Boxed w wr o) : wr.heap[w.heap.size]? = some o := by
  rw [h.bel.block _ (Nat.lt_succ_self _)]; exact heap_alloc_new w o
theorem Boxed.c2 {w wr : World} {c0 c1 c2 c3 c4 : Value} {t : TypeId} (h : Boxed w wr (.cells #[c0, c1, c2, c3, c4] t)) : wr.cell? ⟨w.heap.size, 2, none⟩ = some c2 := by simp [World.cell?, h.blk]
theorem Boxed.c3 {w wr : World} {c0 c1 c2 c3 c4 : Value} {t : TypeId} (h : Boxed w wr (.cells #[c0, c1, c2, c3, c4] t)) : wr.cell? ⟨w.heap.size, 3, none⟩ = some c3 := by simp [World.cell?, h.blk]
theorem Boxed.c4 {w wr : World} {c0 c1 c2 c3 c4 : Value} {t : TypeId} (h : Boxed w wr (.cells #[c0, c1, c2, c3, c4] t)) : wr.cell? ⟨w.heap.size, 4, none⟩ = some c4 := by simp [World.cell?, h.blk]
theorem take_succ {α : Type} {l : List α} {i : Nat} {x : α} (h : l[i]? = some x) : l.take (i + 1) = l.take i ++ [x] := by
  obtain ⟨hi, e⟩ := List.getElem?_eq_some_iff.1 h
  rw [List.take_succ_eq_append_getElem hi, e]
theorem ret_i64 {a b : Int} (h : a = b) : Ending.returned (.int .i64 a) = .returned (.int .i64 b) := by rw [h]
theorem JV.ind {P : JV → Prop} (h : ∀ k n t nm it, (∀ x ∈ it, P x) → P (.mk k n t nm it)) : ∀ v, P v
  | .mk k n t nm it => h k n t nm it (fun x _ => JV.ind h x)
end Go.Proofs.YtfpphpjobkhalaaGreatDoor

namespace Go.Proofs.YtfpphpjobkhalaaGreatDoor
open Go.RowKit

/-- a sum that stops beyond 1000 -/
def addTo : Nat → List Nat → Nat
  | n, [] => n
  | n, x :: xs => if n ≤ 1000 then addTo (n + x) xs else n
def nodesF : Nat → JV → Nat
  | 0, _ => 1001
  | l + 1, v => min (addTo 1 (v.items.map (nodesF l))) 1001
theorem nodesF_le : ∀ l v, nodesF l v ≤ 1001
  | 0, _ => Nat.le_refl _
  | _ + 1, _ => Nat.min_le_right _ _
theorem addTo_stop {n : Nat} (h : ¬ n ≤ 1000) (l : List Nat) : addTo n l = n := by cases l <;> simp [addTo, h]
theorem addTo_step {n x : Nat} (h : n ≤ 1000) (l : List Nat) : addTo n (x :: l) = addTo (n + x) l := by simp [addTo, h]
theorem drop_of {α : Type} {l : List α} {i : Nat} {x : α} (h : l[i]? = some x) : l.drop i = x :: l.drop (i + 1) := by
  obtain ⟨hi, e⟩ := List.getElem?_eq_some_iff.1 h
  rw [List.drop_eq_getElem_cons hi, e]
set_option maxHeartbeats 1000000 in
theorem nodes_any (m : Nat) : ∀ (v : JV) (x : Value) (w : World), m ≤ 1000 → JAt (cf w) v x →
    Calls Tryz.prog 87 #[x, .int .i64 (m : Int)] w fun e w' => e = .returned (.int .i64 (nodesF m v)) ∧ Below w.heap.size w w' := by
  induction m with
  | zero =>
    intro v x w hm hv
    obtain ⟨k, n, t, nm, it, na, ncap, ia, icap, rfl, rfl, _⟩ := hv.open
    clear hv
    go_enter Tryz.func87, Tryz.ntmps87
    go_wp2_with fail
    go_ret
    exact ⟨rfl, (Below.refl _ _).alloc (Nat.le_refl _) _⟩
  | succ m ih =>
    intro v x w hm hv
    obtain ⟨k, n, t, nm, it, na, ncap, a, cap, rfl, rfl, _, _, _, _, hit⟩ := hv.open
    have IH := Lib.hid ih; clear ih hv
    obtain ⟨a', cap', ha, hlen, hel⟩ := hit
    cases ha
    have HE := Lib.hid hel; clear hel
    have e1 : ((m + 1 : Nat) : Int) = (m : Int) + 1 := by omega
    rw [e1]; clear e1
    have hm1 : ((m : Int) + 1 == 0) = false := by simp; omega
    go_enter Tryz.func87, Tryz.ntmps87
    go_wp2_with fail
    go_loopw [5, 6] (fun s i wr => ∃ j q : Nat, i = .int .i64 j ∧ j ≤ it.length ∧ s = .int .i64 q ∧ q ≤ 2001 ∧ addTo q ((it.drop j).map (nodesF m)) = addTo 1 (it.map (nodesF m)) ∧ Boxed w wr _) (fun _ i _ => it.length - (intOf i).toNat)
    case atStart => exact ⟨0, 1, rfl, Nat.zero_le _, rfl, by omega, rfl, Boxed.refl _ _⟩
    case round =>
      obtain ⟨j, q, rfl, hj, rfl, hq, hadd, hbx⟩ := hrel
      have HA := Lib.hid hadd; clear hadd
      have hbl := hbx.below
      have w4 := hbx.c4
      by_cases hlt : j < it.length
      · by_cases hq1 : q ≤ 1000
        · obtain ⟨x, hx⟩ : ∃ x, it[j]? = some x := ⟨it[j], List.getElem?_eq_getElem hlt⟩
          obtain ⟨b, off, k2, n2, t2, nm2, it2, na2, ncap2, ia2, icap2, rfl, hxe, x0, x1, x2, x3, x4, hxj⟩ := HE.out j x hx
          have y := cle_below hbl
          have z0 := y _ _ _ x0
          have z1 := y _ _ _ x1
          have z2 := y _ _ _ x2
          have z3 := y _ _ _ x3
          have z4 := y _ _ _ x4
          unfold cf at z0 z1 z2 z3 z4
          have HX := Lib.hid (hxj.mono y)
          have HXE := Lib.hid hx
          clear x0 x1 x2 x3 x4 y hx hxe hxj
          go_wp2_with fail
          refine (IH.out _ _ _ (by omega) HX.out).mono ?_
          rintro e w2 ⟨rfl, hb2⟩
          have hb3 := hbx.next hb2
          have hle := nodesF_le m x
          clear hb2 HX
          go_wp2_with fail
          go_roundw
          case rel =>
            refine ⟨j + 1, q + nodesF m x, by go_num, hlt, by go_num, by omega, ?_, hb3⟩
            rw [← HA.out, drop_of HXE.out, List.map_cons, addTo_step hq1]
          case measure => simp [intOf]; omega
        · have hf : nodesF (m + 1) (.mk k n t nm it) = 1001 := by
            have : addTo 1 (it.map (nodesF m)) = q := by rw [← HA.out, addTo_stop hq1]
            show min (addTo 1 (it.map (nodesF m))) 1001 = 1001
            rw [this]; omega
          have HF := Lib.hid hf; clear hf
          go_wp2_with fail
          all_goals
            go_ret
            refine ⟨ret_i64 ?_, hbl⟩
            rw [HF.out]; omega
      · have hf : nodesF (m + 1) (.mk k n t nm it) = min q 1001 := by
          have : addTo 1 (it.map (nodesF m)) = q := by rw [← HA.out, List.drop_of_length_le (by omega)]; rfl
          show min (addTo 1 (it.map (nodesF m))) 1001 = _
          rw [this]
        have HF := Lib.hid hf; clear hf
        go_wp2_with fail
        all_goals
          go_ret
          refine ⟨ret_i64 ?_, hbl⟩
          rw [HF.out]; omega
set_option maxHeartbeats 1000000 in
theorem Nodes_any (v : JV) (x : Value) (w : World) (h : JAt (cf w) v x) :
    Calls Tryz.prog 52 #[x] w fun e w' => e = .returned (.int .i64 (nodesF 40 v)) ∧ Below w.heap.size w w' := by
  have HX := Lib.hid (nodes_any 40 v x (w.alloc (.cells x.cells 55)) (by omega) (h.mono (cle_alloc _ _)))
  obtain ⟨k, n, t, nm, it, na, ncap, ia, icap, rfl, rfl, _⟩ := h.open
  clear h
  go_enter Tryz.func52, Tryz.ntmps52
  go_wp2_with fail
  refine HX.out.mono ?_
  rintro e w2 ⟨rfl, hb2⟩
  go_wp2_with fail
  go_ret
  exact ⟨rfl, ((Below.refl _ _).alloc (Nat.le_refl _) _).trans (hb2.mono (by simp))⟩
mutual
/-- a value of a size that is looked at -/
def fewF : JV → Bool
  | .mk k n t nm it => decide (nodesF 40 (.mk k n t nm it) ≤ 300) && decide (nm.length ≤ 100) && decide (t.size ≤ 1000) && nm.all (fun s => decide (s.size ≤ 1000)) && fewL it
def fewL : List JV → Bool
  | [] => true
  | v :: l => fewF v && fewL l
end
theorem fewL_all : ∀ l, fewL l = l.all fewF
  | [] => rfl
  | v :: l => by rw [fewL, fewL_all l]; rfl
theorem few_head {k n : Int} {t : ByteArray} {nm : List ByteArray} {it : List JV} (h : ¬ (nodesF 40 (.mk k n t nm it) ≤ 300 ∧ nm.length ≤ 100 ∧ t.size ≤ 1000)) : fewF (.mk k n t nm it) = false := by
  rw [fewF, ← Bool.not_eq_true]
  intro hh
  simp only [Bool.and_eq_true, decide_eq_true_eq] at hh
  exact h ⟨hh.1.1.1.1, hh.1.1.1.2, hh.1.1.2⟩
theorem few_name {k n : Int} {t : ByteArray} {nm : List ByteArray} {it : List JV} {i : Nat} {s : ByteArray} (hi : nm[i]? = some s) (hs : ¬ s.size ≤ 1000) : fewF (.mk k n t nm it) = false := by
  rw [fewF, ← Bool.not_eq_true]
  intro hh
  simp only [Bool.and_eq_true, List.all_eq_true, decide_eq_true_eq] at hh
  exact hs (hh.1.2 s (List.mem_of_getElem? hi))
theorem few_item {k n : Int} {t : ByteArray} {nm : List ByteArray} {it : List JV} {i : Nat} {x : JV} (hi : it[i]? = some x) (hs : fewF x = false) : fewF (.mk k n t nm it) = false := by
  rw [fewF, ← Bool.not_eq_true]
  intro hh
  rw [fewL_all] at hh
  simp only [Bool.and_eq_true, List.all_eq_true] at hh
  rw [hh.2 x (List.mem_of_getElem? hi)] at hs; cases hs
theorem few_yes {k n : Int} {t : ByteArray} {nm : List ByteArray} {it : List JV} (h : nodesF 40 (.mk k n t nm it) ≤ 300 ∧ nm.length ≤ 100 ∧ t.size ≤ 1000) (hn : ∀ (i : Nat) s, i < nm.length → nm[i]? = some s → s.size ≤ 1000) (hi : ∀ (i : Nat) x, i < it.length → it[i]? = some x → fewF x = true) : fewF (.mk k n t nm it) = true := by
  rw [fewF, fewL_all]
  simp only [Bool.and_eq_true, List.all_eq_true, decide_eq_true_eq]
  refine ⟨⟨⟨⟨h.1, h.2.1⟩, h.2.2⟩, fun s hs => ?_⟩, fun x hx => ?_⟩
  · obtain ⟨i, hil, e⟩ := List.getElem_of_mem hs
    exact hn i s hil (by rw [← e]; exact List.getElem?_eq_getElem hil)
  · obtain ⟨i, hil, e⟩ := List.getElem_of_mem hx
    exact hi i x hil (by rw [← e]; exact List.getElem?_eq_getElem hil)
theorem ret_bool {a b : Bool} (h : a = b) : Ending.returned (.bool a) = .returned (.bool b) := by rw [h]
set_option maxHeartbeats 2000000 in
theorem few_any {c : CF} {v : JV} {x : Value} (h : JAt c v x) : ∀ w : World, CLe c (cf w) →
    Calls Tryz.prog 19 #[x] w fun e w' => e = .returned (.bool (fewF v)) ∧ Below w.heap.size w w' := by
  induction h with
  | mk k n t nm it nv a cap cell hk hn ht hs hl hc hi ih =>
    intro w hcle
    have hJ : JAt (cf w) (.mk k n t nm it) _ := (JAt.mk k n t nm it nv a cap cell hk hn ht hs hl hc hi).mono hcle
    have HN := Lib.hid (Nodes_any _ _ (w.alloc (.cells #[.int .i64 k, .int .i64 n, .string t, nv, .slice a it.length cap] 55)) (hJ.mono (cle_alloc _ _)))
    have hno := nodesF_le 40 (.mk k n t nm it)
    obtain ⟨na, ncap, rfl, hnl, hnel⟩ := hs.mono hcle
    have HS := Lib.hid hnel; clear hnel
    have IH := Lib.hid ih
    have HC : Hid (∀ (i : Nat) v, it[i]? = some v → ∃ b off, a = some ⟨b, off, none⟩ ∧ Cells5 (cf w) b (off + i * 5) (cell i)) := fun i v hv => by
      obtain ⟨b, off, h1, h2⟩ := hc i v hv
      exact ⟨b, off, h1, h2.mono hcle⟩
    clear ih hJ hs hi hc
    by_cases h1 : nodesF 40 (.mk k n t nm it) ≤ 300 ∧ nm.length ≤ 100 ∧ t.size ≤ 1000
    · obtain ⟨hn1, hn2, hn3⟩ := h1
      have HY := Lib.hid (few_yes (k := k) (n := n) (t := t) (nm := nm) (it := it) ⟨hn1, hn2, hn3⟩)
      generalize hno2 : nodesF 40 (.mk k n t nm it) = no at HN hno hn1
      clear hno2
      go_enter Tryz.func19, Tryz.ntmps19
      go_wp2_with fail
      refine HN.out.mono ?_
      rintro e w2 ⟨rfl, hb2⟩
      have hbx : Boxed w w2 _ := (Boxed.refl w (.cells #[.int .i64 k, .int .i64 n, .string t, .slice na nm.length ncap, .slice a it.length cap] 55)).next hb2
      have y2 := hbx.c2
      have y3 := hbx.c3
      have y4 := hbx.c4
      have hbl := hbx.below
      have HB := Lib.hid hbx
      clear hb2 HN hbx
      go_wp2_with fail
      go_loop [3] (fun i => ∃ j : Nat, i = .int .i64 j ∧ j ≤ nm.length ∧ ∀ (q : Nat) s, q < j → nm[q]? = some s → s.size ≤ 1000) (fun i => nm.length - (intOf i).toNat)
      case atStart => exact ⟨0, rfl, Nat.zero_le _, fun q s h => by omega⟩
      case round =>
        obtain ⟨j, rfl, hj, hall⟩ := hrel
        have HA := Lib.hid hall; clear hall
        by_cases hlt : j < nm.length
        · obtain ⟨s, hs⟩ : ∃ s, nm[j]? = some s := ⟨nm[j], List.getElem?_eq_getElem hlt⟩
          obtain ⟨hsz, b, off, rfl, hcell⟩ := HS.out j s hs
          have z0 := cle_below hbl _ _ _ hcell
          unfold cf at z0
          have HSE := Lib.hid hs
          clear hcell hs
          by_cases hs1 : s.size ≤ 1000
          · go_wp2_with fail
            go_round
            case rel =>
              refine ⟨j + 1, by go_num, hlt, fun q s' hq hs' => ?_⟩
              by_cases e : q = j
              · subst e; rw [HSE.out] at hs'; cases hs'; exact hs1
              · exact HA.out q s' (by omega) hs'
            case measure => simp [intOf]; omega
          · have HF := Lib.hid (few_name (k := k) (n := n) (t := t) (it := it) HSE.out hs1)
            go_wp2_with fail
            go_ret
            exact ⟨ret_bool HF.out.symm, hbl⟩
        · have HA2 : Hid (∀ (q : Nat) s, q < nm.length → nm[q]? = some s → s.size ≤ 1000) := fun q s hq => HA.out q s (by omega)
          clear HA HS
          go_wp2_with fail
          go_loopw [4] (fun i wr => ∃ j : Nat, i = .int .i64 j ∧ j ≤ it.length ∧ (∀ (q : Nat) x, q < j → it[q]? = some x → fewF x = true) ∧ Boxed w wr (.cells #[.int .i64 k, .int .i64 n, .string t, .slice na nm.length ncap, .slice a it.length cap] 55)) (fun i _ => it.length - (intOf i).toNat)
          case atStart => exact ⟨0, rfl, Nat.zero_le _, fun q s h => by omega, HB.out⟩
          case round =>
            clear y2 y3 y4 hbl HB
            obtain ⟨i, rfl, hi, hall, hbx⟩ := hrel
            have HA := Lib.hid hall; clear hall
            have y4 := hbx.c4
            have hbl := hbx.below
            have HB := Lib.hid hbx; clear hbx
            by_cases hil : i < it.length
            · obtain ⟨x, hx⟩ : ∃ x, it[i]? = some x := ⟨it[i], List.getElem?_eq_getElem hil⟩
              obtain ⟨b, off, rfl, c0, c1, c2, c3, c4, hce, x0, x1, x2, x3, x4⟩ := HC.out i x hx
              have y := cle_below hbl
              have z0 := y _ _ _ x0
              have z1 := y _ _ _ x1
              have z2 := y _ _ _ x2
              have z3 := y _ _ _ x3
              have z4 := y _ _ _ x4
              unfold cf at z0 z1 z2 z3 z4
              have HX := Lib.hid (IH.out i x hx wr (hcle.trans y))
              rw [hce] at HX
              have HXE := Lib.hid hx
              clear x0 x1 x2 x3 x4 y hx hce
              cases hfx : fewF x with
              | true =>
                rw [hfx] at HX
                have HFX := Lib.hid hfx; clear hfx
                go_wp2_with fail
                refine HX.out.mono ?_
                rintro e w3 ⟨rfl, hb3⟩
                have HB3 := Lib.hid (HB.out.next hb3)
                clear hb3
                go_wp2_with fail
                go_roundw
                case rel =>
                  refine ⟨i + 1, by go_num, hil, fun q s' hq hs' => ?_, HB3.out⟩
                  by_cases e : q = i
                  · subst e; rw [HXE.out] at hs'; cases hs'; exact HFX.out
                  · exact HA.out q s' (by omega) hs'
                case measure => simp [intOf]; omega
              | false =>
                rw [hfx] at HX
                have HFX := Lib.hid (few_item (k := k) (n := n) (t := t) (nm := nm) HXE.out hfx); clear hfx
                go_wp2_with fail
                refine HX.out.mono ?_
                rintro e w3 ⟨rfl, hb3⟩
                have hb4 := (HB.out.next hb3).below
                clear hb3
                go_wp2_with fail
                go_ret
                exact ⟨ret_bool HFX.out.symm, hb4⟩
            · have HF := Lib.hid (HY.out HA2.out (fun q x hq => HA.out q x (by omega)))
              go_wp2_with fail
              go_ret
              exact ⟨ret_bool HF.out.symm, hbl⟩
    · have HF := Lib.hid (few_head h1)
      clear IH HC HS
      generalize nodesF 40 (.mk k n t nm it) = no at HN hno h1
      by_cases hn1 : no ≤ 300
      · by_cases hn2 : nm.length ≤ 100
        · have hn3 : ¬ t.size ≤ 1000 := fun h => h1 ⟨hn1, hn2, h⟩
          clear h1
          go_enter Tryz.func19, Tryz.ntmps19
          go_wp2_with fail
          refine HN.out.mono ?_
          rintro e w2 ⟨rfl, hb2⟩
          have hbx : Boxed w w2 _ := (Boxed.refl w (.cells #[.int .i64 k, .int .i64 n, .string t, .slice na nm.length ncap, .slice a it.length cap] 55)).next hb2
          have y2 := hbx.c2
          have y3 := hbx.c3
          have hbl := hbx.below
          clear hb2 HN hbx
          go_wp2_with fail
          go_ret
          exact ⟨ret_bool HF.out.symm, hbl⟩
        · clear h1
          go_enter Tryz.func19, Tryz.ntmps19
          go_wp2_with fail
          refine HN.out.mono ?_
          rintro e w2 ⟨rfl, hb2⟩
          have hbx : Boxed w w2 _ := (Boxed.refl w (.cells #[.int .i64 k, .int .i64 n, .string t, .slice na nm.length ncap, .slice a it.length cap] 55)).next hb2
          have y3 := hbx.c3
          have hbl := hbx.below
          clear hb2 HN hbx
          go_wp2_with fail
          go_ret
          exact ⟨ret_bool HF.out.symm, hbl⟩
      · clear h1
        go_enter Tryz.func19, Tryz.ntmps19
        go_wp2_with fail
        refine HN.out.mono ?_
        rintro e w2 ⟨rfl, hb2⟩
        have hbl := ((Boxed.refl w (.cells #[.int .i64 k, .int .i64 n, .string t, .slice na nm.length ncap, .slice a it.length cap] 55)).next hb2).below
        clear hb2 HN
        go_wp2_with fail
        go_ret
        exact ⟨ret_bool HF.out.symm, hbl⟩
end Go.Proofs.YtfpphpjobkhalaaGreatDoor
