import Derived.Test.YtafilaiinbggoaaGreatRows
import Derived.WalkKit
import Derived.WalkSpells
import Derived.WalkLawsBesides
import Derived.Lib.Hide
import Derived.ProofKit
import Derived.Deep.Slices
import Derived.Deep.AppendLies
import Derived.Lib.Overlaps
import Derived.Lib.AppendZerosOnto
import Derived.Shelf.Spec.SlicesInsert
import Derived.Laws.CopyRow
namespace Go.Proofs.YtafilaiinbggoaaGreat
open Go.RowKit
inductive JV where
 | mk (kind n : Int) (text : ByteArray) (names : List ByteArray) (items : List JV)
def JV.kind : JV -> Int | .mk k _ _ _ _ => k
abbrev CF := Nat -> Nat -> Option Value
def cf (w : World) : CF := fun b o => w.cell? ⟨b, o, none⟩
def CLe (c d : CF) : Prop := ∀ b o v, c b o = some v -> d b o = some v
theorem CLe.refl (c : CF) : CLe c c := fun _ _ _ h => h
theorem CLe.trans {a b c : CF} (h : CLe a b) (k : CLe b c) : CLe a c := fun x o v hv => k x o v (h x o v hv)
theorem lt_of_cell {w : World} {b o : Nat} {v : Value} (h : w.cell? ⟨b, o, none⟩ = some v) : b < w.heap.size := by
 rcases Nat.lt_or_ge b w.heap.size with h' | h'
 ·exact h'
 ·simp [World.cell?, Array.getElem?_eq_none h'] at h
theorem cle_below {w w' : World} (h : Below w.heap.size w w') : CLe (cf w) (cf w') := fun b o v hv => by
 unfold cf at *; rw [h.cell (p := ⟨b, o, none⟩) (lt_of_cell hv)]; exact hv
def StrsAt (c : CF) (v : Value) (names : List ByteArray) : Prop :=
 ∃ a cap, v = .slice a names.length cap /\ names.length <= 9223372036854775807 /\ ∀ (i : Nat) s, names[i]? = some s -> s.size <= 9223372036854775807 /\ ∃ b off, a = some ⟨b, off, none⟩ /\ c b (off + i) = some (.string s)
theorem StrsAt.mono {c d : CF} {v : Value} {names : List ByteArray} (h : StrsAt c v names) (hl : CLe c d) : StrsAt d v names := by
 obtain ⟨a, cap, hv, hm, hs⟩ := h
 refine ⟨a, cap, hv, hm, fun i s hi => ?_⟩
 obtain ⟨h1, b, off, h2, h3⟩ := hs i s hi
 exact ⟨h1, b, off, h2, hl _ _ _ h3⟩
def Cells5 (c : CF) (b o : Nat) (v : Value) : Prop :=
 ∃ c0 c1 c2 c3 c4, v = .agg #[c0, c1, c2, c3, c4] /\ c b o = some c0 /\ c b (o + 1) = some c1 /\ c b (o + 2) = some c2 /\ c b (o + 3) = some c3 /\ c b (o + 4) = some c4
theorem Cells5.mono {c d : CF} {b o : Nat} {v : Value} (h : Cells5 c b o v) (hl : CLe c d) : Cells5 d b o v := by
 obtain ⟨c0, c1, c2, c3, c4, e, h0, h1, h2, h3, h4⟩ := h
 exact ⟨c0, c1, c2, c3, c4, e, hl _ _ _ h0, hl _ _ _ h1, hl _ _ _ h2, hl _ _ _ h3, hl _ _ _ h4⟩
inductive JAt (c : CF) : JV -> Value -> Prop
 | mk (kind n : Int) (text : ByteArray) (names : List ByteArray) (items : List JV) (nv : Value) (a : Option Addr) (cap : Nat) (cell : Nat -> Value)
  (hk : (Lit.int .i64 kind).wf = true) (hn : (Lit.int .i64 n).wf = true) (ht : text.size <= 9223372036854775807) (hs : StrsAt c nv names) (hl : items.length <= 9223372036854775807)
  (hc : ∀ (i : Nat) v, items[i]? = some v -> ∃ b off, a = some ⟨b, off, none⟩ /\ Cells5 c b (off + i * 5) (cell i))
  (hi : ∀ (i : Nat) v, items[i]? = some v -> JAt c v (cell i)) :
  JAt c (.mk kind n text names items) (.agg #[.int .i64 kind, .int .i64 n, .string text, nv, .slice a items.length cap])
theorem JAt.mono {c d : CF} (hl : CLe c d) {v : JV} {x : Value} (h : JAt c v x) : JAt d v x := by
 induction h with
 | mk kind n text names items nv a cap cell hk hn ht hs hlen hc hi ih =>
  refine .mk kind n text names items nv a cap cell hk hn ht (hs.mono hl) hlen (fun i v hv => ?_) (fun i v hv => ih i v hv)
  obtain ⟨b, off, h1, h2⟩ := hc i v hv
  exact ⟨b, off, h1, h2.mono hl⟩
def ItemsAt (c : CF) (v : Value) (items : List JV) : Prop :=
 ∃ a cap, v = .slice a items.length cap /\ items.length <= 9223372036854775807 /\ ∀ (i : Nat) x, items[i]? = some x -> ∃ b off k n t nm it na ncap ia icap, a = some ⟨b, off, none⟩ /\ x = .mk k n t nm it /\
  c b (off + i * 5) = some (.int .i64 k) /\ c b (off + i * 5 + 1) = some (.int .i64 n) /\ c b (off + i * 5 + 2) = some (.string t) /\ c b (off + i * 5 + 3) = some (.slice na nm.length ncap) /\ c b (off + i * 5 + 4) = some (.slice ia it.length icap) /\
  JAt c x (.agg #[.int .i64 k, .int .i64 n, .string t, .slice na nm.length ncap, .slice ia it.length icap])
theorem JAt.open {c : CF} {v : JV} {x : Value} (h : JAt c v x) : ∃ k n t nm it na ncap ia icap, v = .mk k n t nm it /\ x = .agg #[.int .i64 k, .int .i64 n, .string t, .slice na nm.length ncap, .slice ia it.length icap] /\
  (Lit.int .i64 k).wf = true /\ (Lit.int .i64 n).wf = true /\ t.size <= 9223372036854775807 /\ StrsAt c (.slice na nm.length ncap) nm /\ ItemsAt c (.slice ia it.length icap) it := by
 cases h with
 | mk kind n text names items nv a cap cell hk hn ht hs hl hc hi =>
  obtain ⟨na, ncap, rfl, _⟩ := id hs
  refine ⟨kind, n, text, names, items, na, ncap, a, cap, rfl, rfl, hk, hn, ht, hs, a, cap, rfl, hl, fun i x hx => ?_⟩
  obtain ⟨b, off, h1, c0, c1, c2, c3, c4, e, h2, h3, h4, h5, h6⟩ := hc i x hx
  have hj := hi i x hx
  rw [e] at hj
  cases hj with
  | mk k n t nm it nv a2 cap2 cell hk hn ht hs hl hc hi =>
   obtain ⟨na2, ncap2, rfl, _⟩ := id hs
   exact ⟨b, off, k, n, t, nm, it, na2, ncap2, a2, cap2, h1, rfl, h2, h3, h4, h5, h6, .mk k n t nm it _ a2 cap2 cell hk hn ht hs hl hc hi⟩
theorem ItemsAt.mono {c d : CF} {v : Value} {items : List JV} (h : ItemsAt c v items) (hl : CLe c d) : ItemsAt d v items := by
 obtain ⟨a, cap, hv, hm, hs⟩ := h
 refine ⟨a, cap, hv, hm, fun i x hi => ?_⟩
 obtain ⟨b, off, k, n, t, nm, it2, na, ncap, ia, icap, h1, h2, h3, h4, h5, h6, h7, h8⟩ := hs i x hi
 exact ⟨b, off, k, n, t, nm, it2, na, ncap, ia, icap, h1, h2, hl _ _ _ h3, hl _ _ _ h4, hl _ _ _ h5, hl _ _ _ h6, hl _ _ _ h7, h8.mono hl⟩
structure Boxed (w wr : World) (o : Obj) : Prop where
 bel : Below (w.heap.size + 1) (w.alloc o) wr
theorem Boxed.refl (w : World) (o : Obj) : Boxed w (w.alloc o) o := ⟨Below.refl _ _⟩
theorem Boxed.below {w wr : World} {o : Obj} (h : Boxed w wr o) : Below w.heap.size w wr :=
 ((Below.refl _ w).alloc (Nat.le_refl _) o).trans (h.bel.mono (by omega))
theorem Boxed.lt {w wr : World} {o : Obj} (h : Boxed w wr o) : w.heap.size + 1 <= wr.heap.size := by have := h.bel.size; simpa using this
theorem Boxed.next {w wr w' : World} {o : Obj} (h : Boxed w wr o) (hb : Below wr.heap.size wr w') : Boxed w w' o := ⟨h.bel.trans (hb.mono h.lt)⟩
theorem Boxed.alloc {w wr : World} {o x : Obj} (h : Boxed w wr o) : Boxed w (wr.alloc x) o := ⟨h.bel.alloc h.lt x⟩
theorem Boxed.drew {w wr : World} {o : Obj} (h : Boxed w wr o) : Boxed w wr.drew o := ⟨h.bel.drew⟩
theorem take_succ {α : Type} {l : List α} {i : Nat} {x : α} (h : l[i]? = some x) : l.take (i + 1) = l.take i ++ [x] := by
 obtain ⟨hi, e⟩ := List.getElem?_eq_some_iff.1 h
 rw [List.take_succ_eq_append_getElem hi, e]
end Go.Proofs.YtafilaiinbggoaaGreat
namespace Go.Proofs.YtafilaiinbggoaaGreat
open Go.RowKit
end Go.Proofs.YtafilaiinbggoaaGreat
namespace Go.Proofs.YtafilaiinbggoaaGreat
open Go.Shelf Go.RowKit
structure Hld (p : Prop) : Prop where
 out : p
def InsPost (T : TypeId) (n B : Nat) (w : World) (sl : Value) (p : Nat) (cs : List Value) (e : Ending) (w' : World) : Prop :=
 ∃ sl', e = .returned sl' /\ w'.ownsRow B T n sl' (p + 1) cs /\ w.grownBy w' sl.ownBlock /\ ∀ g, sl'.ownBlock = some g -> sl.ownBlock = some g \/ w.heap.size <= g
theorem row_shift (cur cs d : List Value) (K N M : Nat) (hK : K + N <= M + N) (hcs : cur.take M = cs) (hM : M + N <= cur.length) (hd : d.length = N) :
  (cur.take (K + N) ++ cs.drop K ++ cur.drop (M + N)).take K ++ d ++ (cur.take (K + N) ++ cs.drop K ++ cur.drop (M + N)).drop (K + N) = cs.take K ++ d ++ cs.drop K ++ cur.drop (M + N) := by
 have e1 : (cur.take (K + N) ++ cs.drop K ++ cur.drop (M + N)).take K = cs.take K := by
  rw [List.append_assoc, List.take_append_of_le_length (by rw [List.length_take]; omega), List.take_take, <- hcs, List.take_take]
  congr 1; omega
 have e2 : (cur.take (K + N) ++ cs.drop K ++ cur.drop (M + N)).drop (K + N) = cs.drop K ++ cur.drop (M + N) := by
  rw [List.append_assoc, List.drop_append_of_le_length (by rw [List.length_take]; omega), List.drop_eq_nil_iff.2 (by rw [List.length_take]; omega), List.nil_append]
 rw [e1, e2]; simp only [List.append_assoc]
theorem row_new (cs d z : List Value) (K N M : Nat) (hK : K <= M) (hcs : cs.length = M) (hd : d.length = N) :
  ((cs.take K ++ z).take K ++ d ++ (cs.take K ++ z).drop (K + N)).take (K + N) ++ cs.drop K ++ ((cs.take K ++ z).take K ++ d ++ (cs.take K ++ z).drop (K + N)).drop (M + N) = cs.take K ++ d ++ cs.drop K ++ z.drop (M + N - K) := by
 have h0 : (cs.take K).length = K := by rw [List.length_take]; omega
 have e0 : (cs.take K ++ z).take K = cs.take K := by rw [List.take_append_of_le_length (by omega), List.take_take]; congr 1; omega
 have e1 : (cs.take K ++ z).drop (K + N) = z.drop N := by
  rw [List.drop_append, List.drop_eq_nil_iff.2 (by omega), List.nil_append]; congr 1; omega
 rw [e0, e1]
 have e2 : (cs.take K ++ d ++ z.drop N).take (K + N) = cs.take K ++ d := by
  rw [List.take_append_of_le_length (by rw [List.length_append]; omega), List.take_of_length_le (by rw [List.length_append]; omega)]
 have e3 : (cs.take K ++ d ++ z.drop N).drop (M + N) = z.drop (M + N - K) := by
  rw [List.drop_append, List.drop_eq_nil_iff.2 (by rw [List.length_append]; omega), List.nil_append, List.drop_drop, List.length_append]
  congr 1; omega
 rw [e2, e3]
theorem run_copy_rowN {P : Program} (w : World) (dT sT ty elem : TypeId) (size m : Nat) (g o dLen dCap : Nat) (a : Addr) (sLen sCap : Nat) (cur : Array Value) (t : TypeId) (cs : List Value)
  (hu : P.underlying dT = some (.slice elem)) (hs : (P.info? elem).map (·.size) = some size)
  (hg : w.heap[g]? = some (.cells cur t (0, 0))) (hm : m = Nat.min sLen dLen) (hn : cs.length = m * size)
  (hsrc : ∀ (j : Nat) v, cs[j]? = some v -> w.cell? (a.add j) = some v) (hfit : o + cs.length <= cur.size) (h1 : ∀ v ∈ cs, v.oneCell' = true) :
  (Builtin.copy_ #[dT, sT] ty #[.slice (some ⟨g, o, none⟩) dLen dCap, .slice (some a) sLen sCap]).run P w =
   .ok (goInt m) (w.setRow g (cur.toList.take o ++ cs ++ cur.toList.drop (o + cs.length)).toArray) := by
 have hl := run_loadCells_list (P := P) w a cs hsrc
 have hst := run_storeCells_at P g o t cs 0 cur w hg (by simpa using hfit) h1
 cases hq : P.info? elem with
 | none => simp [hq] at hs
 | some i =>
  have hi : i.size = size := by simpa [hq] using hs
  simp [Builtin.copy_, run_underlying hu, Builtin.lenOf, Builtin.firstCells, sizeOf, typeInfo, hq, hi, <- hm, <- hn, hl, hst]
theorem al_kept {w : World} {o q : Obj} {b : Nat} (h : w.heap[b]? = some q) : (w.drew.alloc o).heap[b]? = some q := by
 rw [Below.heap_alloc w.drew o b (Array.getElem?_eq_some_iff.1 h).1]; exact h
end Go.Proofs.YtafilaiinbggoaaGreat
namespace Go.Proofs.YtafilaiinbggoaaGreat
open Go.Shelf Go.RowKit
end Go.Proofs.YtafilaiinbggoaaGreat
