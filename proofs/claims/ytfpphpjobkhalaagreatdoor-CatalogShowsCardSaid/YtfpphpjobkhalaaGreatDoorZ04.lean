/- slices.Insert of one element at a row of structs that the call owns. (printed by genIns.py) slices.Insert of one string at a row of strings that the call owns. (printed by genIns.py) -/
import Derived.Test.YtfpphpjobkhalaaGreatDoorZ01
import Derived.Deep.AppendLies
import Derived.Lib.Overlaps
import Derived.Lib.AppendZerosOnto
import Derived.Shelf.Spec.SlicesInsert
import Derived.Laws.CopyRow
namespace Go.Proofs.YtfpphpjobkhalaaGreatDoor
open Go.Shelf Go.RowKit

/-- a fact that the walk leaves alone -/
structure Hld (p : Prop) : Prop where
  out : p
/-- what Insert leaves: a row of its own, one element longer; all else stands -/
def InsPost (T : TypeId) (n B : Nat) (w : World) (sl : Value) (p : Nat) (cs : List Value) (e : Ending) (w' : World) : Prop :=
  ∃ sl', e = .returned sl' ∧ w'.ownsRow B T n sl' (p + 1) cs ∧ w.grownBy w' sl.ownBlock ∧ ∀ g, sl'.ownBlock = some g → sl.ownBlock = some g ∨ w.heap.size ≤ g
theorem row_shift (cur cs d : List Value) (K N M : Nat) (hK : K + N ≤ M + N) (hcs : cur.take M = cs) (hM : M + N ≤ cur.length) (hd : d.length = N) :
    (cur.take (K + N) ++ cs.drop K ++ cur.drop (M + N)).take K ++ d ++ (cur.take (K + N) ++ cs.drop K ++ cur.drop (M + N)).drop (K + N) = cs.take K ++ d ++ cs.drop K ++ cur.drop (M + N) := by
  have e1 : (cur.take (K + N) ++ cs.drop K ++ cur.drop (M + N)).take K = cs.take K := by
    rw [List.append_assoc, List.take_append_of_le_length (by rw [List.length_take]; omega), List.take_take, ← hcs, List.take_take]
    congr 1; omega
  have e2 : (cur.take (K + N) ++ cs.drop K ++ cur.drop (M + N)).drop (K + N) = cs.drop K ++ cur.drop (M + N) := by
    rw [List.append_assoc, List.drop_append_of_le_length (by rw [List.length_take]; omega), List.drop_eq_nil_iff.2 (by rw [List.length_take]; omega), List.nil_append]
  rw [e1, e2]; simp only [List.append_assoc]
theorem row_new (cs d z : List Value) (K N M : Nat) (hK : K ≤ M) (hcs : cs.length = M) (hd : d.length = N) :
    ((cs.take K ++ z).take K ++ d ++ (cs.take K ++ z).drop (K + N)).take (K + N) ++ cs.drop K ++ ((cs.take K ++ z).take K ++ d ++ (cs.take K ++ z).drop (K + N)).drop (M + N) = cs.take K ++ d ++ cs.drop K ++ z.drop (M + N - K) := by
  have h0 : (cs.take K).length = K := by rw [List.length_take]; omega
  have e0 : (cs.take K ++ z).take K = cs.take K := by rw [List.take_append_of_le_length (by omega), List.take_take]; congr 1; omega
  have e1 : (cs.take K ++ z).drop (K + N) = z.drop N := by
    rw [List.drop_append, List.drop_eq_nil_iff.2 (by omega), List.nil_append]; congr 1; omega
  rw [e0, e1]
  have e2 : (cs.take K ++ d ++ z.drop N).take (K + N) = cs.take K ++ d := by
    rw [List.take_append_of_le_length (by rw [List.length_append]; omega), List.take_of_length_le (by rw [List.length_append]; omega)]
  have e3 : (cs.take K ++ d ++ z.drop N).drop (M + N) = z.drop (M + N - K) := by
    rw [List.drop_append, List.drop_eq_nil_iff.2 (by rw [List.length_append]; omega), List.nil_append, List.drop_drop, List.length_append]
    congr 1; omega
  rw [e2, e3]
theorem run_copy_rowN {P : Program} (w : World) (dT sT ty elem : TypeId) (size m : Nat) (g o dLen dCap : Nat) (a : Addr) (sLen sCap : Nat) (cur : Array Value) (t : TypeId) (cs : List Value)
    (hu : P.underlying dT = some (.slice elem)) (hs : (P.info? elem).map (·.size) = some size)
    (hg : w.heap[g]? = some (.cells cur t (0, 0))) (hm : m = Nat.min sLen dLen) (hn : cs.length = m * size)
    (hsrc : ∀ (j : Nat) v, cs[j]? = some v → w.cell? (a.add j) = some v) (hfit : o + cs.length ≤ cur.size) (h1 : ∀ v ∈ cs, v.oneCell' = true) :
    (Builtin.copy_ #[dT, sT] ty #[.slice (some ⟨g, o, none⟩) dLen dCap, .slice (some a) sLen sCap]).run P w =
      .ok (goInt m) (w.setRow g (cur.toList.take o ++ cs ++ cur.toList.drop (o + cs.length)).toArray) := by
  have hl := run_loadCells_list (P := P) w a cs hsrc
  have hst := run_storeCells_at P g o t cs 0 cur w hg (by simpa using hfit) h1
  cases hq : P.info? elem with
  | none => simp [hq] at hs
  | some i =>
    have hi : i.size = size := by simpa [hq] using hs
    simp [Builtin.copy_, run_underlying hu, Builtin.lenOf, Builtin.firstCells, sizeOf, typeInfo, hq, hi, ← hm, ← hn, hl, hst]
theorem al_kept {w : World} {o q : Obj} {b : Nat} (h : w.heap[b]? = some q) : (w.drew.alloc o).heap[b]? = some q := by
  rw [Below.heap_alloc w.drew o b (Array.getElem?_eq_some_iff.1 h).1]; exact h
end Go.Proofs.YtfpphpjobkhalaaGreatDoor

namespace Go.Proofs.YtfpphpjobkhalaaGreatDoor
open Go.Shelf Go.RowKit

end Go.Proofs.YtfpphpjobkhalaaGreatDoor
