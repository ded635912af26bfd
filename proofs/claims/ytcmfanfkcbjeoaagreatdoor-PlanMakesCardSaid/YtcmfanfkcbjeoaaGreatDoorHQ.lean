/- Plans: first of the reference. -/
import Derived.Test.YtcmfanfkcbjeoaaGreatDoorHM
import Derived.Test.YtcmfanfkcbjeoaaGreatDoorGA
namespace Go.Proofs.YtcmfanfkcbjeoaaGreatDoor
open Go.RowKit

abbrev zero5 : Array Value := #[.int .i64 0, .int .i64 0, .string ⟨#[]⟩, .slice none 0 0, .slice none 0 0]
/-- what first answers -/
def FirstPost (c : CF) (o : Option JV) (w : World) (e : Ending) (w' : World) : Prop := ∃ v, e = .returned (.tuple #[v, .bool o.isSome]) ∧ Val5 v ∧ (∀ y, o = some y → JAt c y v) ∧ Below w.heap.size w w'
def RFirstAt (d : Nat) : Prop := ∀ (f : JV) (x : Value) (p t : ByteArray) (c : CF) (w : World), formedF d f = true → JAt c f x → CLe c (cf w) → signF p = false → Calls Tryz.prog 105 #[x, .string p, .string t] w (FirstPost c (firstR p t d f) w)
theorem some_step {α β : Type} (F : α → Option β) {l : List α} {j : Nat} {x : α} (h : l[j]? = some x) : (l.drop j).findSome? F = match F x with
    | some y => some y
    | none => (l.drop (j + 1)).findSome? F := by
  obtain ⟨h1, e1⟩ := List.getElem?_eq_some_iff.1 h
  rw [List.drop_eq_getElem_cons h1, e1, List.findSome?_cons]
  cases F x <;> rfl
theorem same_yes (s : ByteArray) : (s.toList == s.toList) = true := by simp
/-- the result's cell is written -/
theorem first_ret {c : CF} {w wr : World} {o : Option JV} {y : JV} {k n : Int} {u : ByteArray} {na ia : Option Addr} {nl nc il ic : Nat} (hb : Below w.heap.size w wr) (hr : wr.heap[w.heap.size + 1]? = some (.cells zero5 25 (0, 0))) (ho : o = some y) (hj : JAt c y (.agg #[.int .i64 k, .int .i64 n, .string u, .slice na nl nc, .slice ia il ic]))
    {W : World} (hW : W = set5 wr (w.heap.size + 1) (.int .i64 k) (.int .i64 n) (.string u) (.slice na nl nc) (.slice ia il ic)) : W.heap[w.heap.size + 1]? = some (.cells #[.int .i64 k, .int .i64 n, .string u, .slice na nl nc, .slice ia il ic] 25 (0, 0)) ∧ FirstPost c o w (.returned (.tuple #[.agg #[.int .i64 k, .int .i64 n, .string u, .slice na nl nc, .slice ia il ic], .bool true])) W := by
  refine ⟨by rw [hW]; exact set5_self hr, _, by rw [ho]; rfl, ⟨_, _, _, _, _, _, _, _, _, rfl⟩, fun z hz => (by rw [ho] at hz; cases hz; exact hj), ?_⟩
  rw [hW]
  unfold set5
  exact ((((hb.setCell (p := ⟨w.heap.size + 1, 0, none⟩) (by simp) _).setCell (p := ⟨w.heap.size + 1, 1, none⟩) (by simp) _).setCell (p := ⟨w.heap.size + 1, 2, none⟩) (by simp) _).setCell (p := ⟨w.heap.size + 1, 3, none⟩) (by simp) _).setCell (p := ⟨w.heap.size + 1, 4, none⟩) (by simp) _
theorem first_not (c : CF) {w wr : World} {o : Option JV} (hb : Below w.heap.size w wr) (hr : wr.heap[w.heap.size + 1]? = some (.cells zero5 25 (0, 0))) (ho : o = none)
    {W : World} (hW : W = set5 wr (w.heap.size + 1) (.int .i64 0) (.int .i64 0) (.string ⟨#[]⟩) (.slice none 0 0) (.slice none 0 0)) : W.heap[w.heap.size + 1]? = some (.cells zero5 25 (0, 0)) ∧ FirstPost c o w (.returned (.tuple #[.agg zero5, .bool false])) W := by
  refine ⟨by rw [hW]; exact set5_self hr, _, by rw [ho]; rfl, ⟨_, _, _, _, _, _, _, _, _, rfl⟩, fun z hz => (by rw [ho] at hz; cases hz), ?_⟩
  rw [hW]
  unfold set5
  exact ((((hb.setCell (p := ⟨w.heap.size + 1, 0, none⟩) (by simp) _).setCell (p := ⟨w.heap.size + 1, 1, none⟩) (by simp) _).setCell (p := ⟨w.heap.size + 1, 2, none⟩) (by simp) _).setCell (p := ⟨w.heap.size + 1, 3, none⟩) (by simp) _).setCell (p := ⟨w.heap.size + 1, 4, none⟩) (by simp) _

end Go.Proofs.YtcmfanfkcbjeoaaGreatDoor
