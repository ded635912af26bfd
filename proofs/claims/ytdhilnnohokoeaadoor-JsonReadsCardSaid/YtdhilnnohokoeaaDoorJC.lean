/- Nodes and Few of the reference. -/
import Derived.Test.YtdhilnnohokoeaaDoorJA
namespace Go.Proofs.YtdhilnnohokoeaaDoor
open Go.RowKit

/-- a sum that stops beyond 1000 -/
def addTo : Nat → List Nat → Nat
  | n, [] => n
  | n, x :: xs => if n ≤ 1000 then addTo (n + x) xs else n
def nodesF : Nat → JV → Nat
  | 0, _ => 1001
  | l + 1, v => min (addTo 1 (v.items.map (nodesF l))) 1001
theorem nodesF_le : ∀ l v, nodesF l v ≤ 1001
  | 0, _ => Nat.le_refl _
  | _ + 1, _ => Nat.min_le_right _ _
theorem addTo_stop {n : Nat} (h : ¬ n ≤ 1000) (l : List Nat) : addTo n l = n := by cases l <;> simp [addTo, h]
theorem addTo_step {n x : Nat} (h : n ≤ 1000) (l : List Nat) : addTo n (x :: l) = addTo (n + x) l := by simp [addTo, h]
theorem drop_of {α : Type} {l : List α} {i : Nat} {x : α} (h : l[i]? = some x) : l.drop i = x :: l.drop (i + 1) := by
  obtain ⟨hi, e⟩ := List.getElem?_eq_some_iff.1 h
  rw [List.drop_eq_getElem_cons hi, e]

theorem min_ite (a : Nat) : (if (1001 : Int) < (a : Int) then (1001 : Int) else (a : Int)) = ((min a 1001 : Nat) : Int) := by split <;> omega

mutual
/-- a value of a size that is looked at -/
def fewF : JV → Bool
  | .mk k n t nm it => decide (nodesF 40 (.mk k n t nm it) ≤ 300) && decide (nm.length ≤ 100) && decide (t.size ≤ 1000) && nm.all (fun s => decide (s.size ≤ 1000)) && fewL it
def fewL : List JV → Bool
  | [] => true
  | v :: l => fewF v && fewL l
end
theorem fewL_all : ∀ l, fewL l = l.all fewF
  | [] => rfl
  | v :: l => by rw [fewL, fewL_all l]; rfl

theorem few_head {k n : Int} {t : ByteArray} {nm : List ByteArray} {it : List JV} (h : ¬ (nodesF 40 (.mk k n t nm it) ≤ 300 ∧ nm.length ≤ 100 ∧ t.size ≤ 1000)) : fewF (.mk k n t nm it) = false := by
  rw [fewF, ← Bool.not_eq_true]
  intro hh
  simp only [Bool.and_eq_true, decide_eq_true_eq] at hh
  exact h ⟨hh.1.1.1.1, hh.1.1.1.2, hh.1.1.2⟩
theorem few_name {k n : Int} {t : ByteArray} {nm : List ByteArray} {it : List JV} {i : Nat} {s : ByteArray} (hi : nm[i]? = some s) (hs : ¬ s.size ≤ 1000) : fewF (.mk k n t nm it) = false := by
  rw [fewF, ← Bool.not_eq_true]
  intro hh
  simp only [Bool.and_eq_true, List.all_eq_true, decide_eq_true_eq] at hh
  exact hs (hh.1.2 s (List.mem_of_getElem? hi))
theorem few_item {k n : Int} {t : ByteArray} {nm : List ByteArray} {it : List JV} {i : Nat} {x : JV} (hi : it[i]? = some x) (hs : fewF x = false) : fewF (.mk k n t nm it) = false := by
  rw [fewF, ← Bool.not_eq_true]
  intro hh
  rw [fewL_all] at hh
  simp only [Bool.and_eq_true, List.all_eq_true] at hh
  rw [hh.2 x (List.mem_of_getElem? hi)] at hs; cases hs
theorem few_yes {k n : Int} {t : ByteArray} {nm : List ByteArray} {it : List JV} (h : nodesF 40 (.mk k n t nm it) ≤ 300 ∧ nm.length ≤ 100 ∧ t.size ≤ 1000) (hn : ∀ (i : Nat) s, i < nm.length → nm[i]? = some s → s.size ≤ 1000) (hi : ∀ (i : Nat) x, i < it.length → it[i]? = some x → fewF x = true) : fewF (.mk k n t nm it) = true := by
  rw [fewF, fewL_all]
  simp only [Bool.and_eq_true, List.all_eq_true, decide_eq_true_eq]
  refine ⟨⟨⟨⟨h.1, h.2.1⟩, h.2.2⟩, fun s hs => ?_⟩, fun x hx => ?_⟩
  · obtain ⟨i, hil, e⟩ := List.getElem_of_mem hs
    exact hn i s hil (by rw [← e]; exact List.getElem?_eq_getElem hil)
  · obtain ⟨i, hil, e⟩ := List.getElem_of_mem hx
    exact hi i x hil (by rw [← e]; exact List.getElem?_eq_getElem hil)

theorem ret_bool {a b : Bool} (h : a = b) : Ending.returned (.bool a) = .returned (.bool b) := by rw [h]

end Go.Proofs.YtdhilnnohokoeaaDoor
