/- Answers: Check of the reference. -/
import Derived.Test.YtkhhbckpddkhlaaDoorAD
import Derived.Test.YtkhhbckpddkhlaaDoorAN
namespace Go.Proofs.YtkhhbckpddkhlaaDoor
open Go.Shelf Go.RowKit

theorem any_none {α : Type} {l : List α} {f : α → Bool} (h : (l.take l.length).any f = false) : l.any f = false := by rwa [List.take_of_length_le (Nat.le_refl _)] at h
theorem any_step {α : Type} {l : List α} {f : α → Bool} {j : Nat} {x : α} (hx : l[j]? = some x) (h : (l.take j).any f = false) (hf : f x = false) : (l.take (j + 1)).any f = false := by
  rw [take_nextW hx, List.any_append, h]; simp [hf]
theorem any_hit {α : Type} {l : List α} {f : α → Bool} {j : Nat} {x : α} (hx : l[j]? = some x) (hf : f x = true) : l.any f = true := List.any_eq_true.2 ⟨x, List.mem_of_getElem? hx, hf⟩

end Go.Proofs.YtkhhbckpddkhlaaDoor
