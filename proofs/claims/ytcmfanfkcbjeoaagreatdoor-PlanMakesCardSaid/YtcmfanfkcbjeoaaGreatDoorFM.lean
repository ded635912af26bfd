/- Filters: Compare and passes of the program. Filters: one, holds, Holds of the program. Filters: one and Holds of the program. Filters: Holds of the program. -/
import Derived.Test.YtcmfanfkcbjeoaaGreatDoorFG
namespace Go.Proofs.YtcmfanfkcbjeoaaGreatDoor
open Go.RowKit

end Go.Proofs.YtcmfanfkcbjeoaaGreatDoor

namespace Go.Proofs.YtcmfanfkcbjeoaaGreatDoor
open Go.RowKit

theorem walk_formed : ∀ (l : List ByteArray) (d : Nat) (v u : JV), formedF d v = true → walkF l v = some u → ∃ e, e ≤ d ∧ formedF e u = true
  | [], d, v, u, hf, h => by rw [walkF] at h; cases h; exact ⟨d, Nat.le_refl _, hf⟩
  | s :: l, d, v, u, hf, h => by
    rw [walkF] at h
    split at h
    · cases h
    · rw [Option.bind_eq_some_iff] at h
      obtain ⟨x, hx, h⟩ := h
      cases d with
      | zero => simp [formedF] at hf
      | succ d =>
        obtain ⟨e, he, hfe⟩ := walk_formed l d x u (formed_kids hf (List.mem_of_getElem? hx)) h
        exact ⟨e, by omega, hfe⟩
theorem get_formed {doc u : JV} {p : ByteArray} (h : getJ doc p = some u) : formedF 6 u = true := by
  unfold getJ at h
  rw [Option.bind_eq_some_iff] at h
  obtain ⟨l, _, h⟩ := h
  split at h
  · rename_i hf
    obtain ⟨e, he, hfe⟩ := walk_formed l 6 doc u hf h
    exact formed_up hfe he
  · cases h

/-- all before j hold -/
def AllTo {α : Type} (l : List α) (p : α → Bool) (j : Nat) : Prop := ∀ (q : Nat) x, q < j → l[q]? = some x → p x = true
theorem AllTo.next {α : Type} {l : List α} {p : α → Bool} {j : Nat} {x : α} (h : AllTo l p j) (hx : l[j]? = some x) (hp : p x = true) : AllTo l p (j + 1) := fun q y hq hy => by
  by_cases e : q = j
  · subst e; rw [hx] at hy; cases hy; exact hp
  · exact h q y (by omega) hy
theorem AllTo.all {α : Type} {l : List α} {p : α → Bool} {j : Nat} (h : AllTo l p j) (hj : l.length ≤ j) : l.all p = true := all_true (fun q x hq hx => h q x (by omega) hx)

end Go.Proofs.YtcmfanfkcbjeoaaGreatDoor

namespace Go.Proofs.YtcmfanfkcbjeoaaGreatDoor
open Go.RowKit

section
variable {pass : ByteArray → JV → Option JV → Bool} {eq : JV → JV → Bool} {h : JV → Bool} {s : ByteArray} {v doc : JV}
theorem on_and (h1 : s.toList = sAnd) : oneFF pass eq h s v doc = v.items.all h := by unfold oneFF; rw [if_pos (isN_yes h1)]
theorem on_or (h1 : s.toList = sOr) : oneFF pass eq h s v doc = v.items.any h := by unfold oneFF; rw [if_neg (by rw [isN_ne h1 (by decide)]; simp), if_pos (isN_yes h1)]
theorem on_not (h1 : s.toList = sNot) : oneFF pass eq h s v doc = !h v := by unfold oneFF; rw [if_neg (by rw [isN_ne h1 (by decide)]; simp), if_neg (by rw [isN_ne h1 (by decide)]; simp), if_pos (isN_yes h1)]
theorem on_tests (h1 : ¬ s.toList = sAnd) (h2 : ¬ s.toList = sOr) (h3 : ¬ s.toList = sNot) (ht : testsF v = true) : oneFF pass eq h s v doc = (v.names.zip v.items).all fun p => pass p.1 p.2 (getJ doc s) := by
  unfold oneFF; rw [if_neg (by rw [isN_no h1]; simp), if_neg (by rw [isN_no h2]; simp), if_neg (by rw [isN_no h3]; simp), if_pos ht]
theorem on_some (h1 : ¬ s.toList = sAnd) (h2 : ¬ s.toList = sOr) (h3 : ¬ s.toList = sNot) (ht : testsF v = false) {u : JV} (hu : getJ doc s = some u) : oneFF pass eq h s v doc = eq u v := by
  unfold oneFF; rw [if_neg (by rw [isN_no h1]; simp), if_neg (by rw [isN_no h2]; simp), if_neg (by rw [isN_no h3]; simp), if_neg (by rw [ht]; simp), hu]
theorem on_none (h1 : ¬ s.toList = sAnd) (h2 : ¬ s.toList = sOr) (h3 : ¬ s.toList = sNot) (ht : testsF v = false) (hu : getJ doc s = none) : oneFF pass eq h s v doc = false := by
  unfold oneFF; rw [if_neg (by rw [isN_no h1]; simp), if_neg (by rw [isN_no h2]; simp), if_neg (by rw [isN_no h3]; simp), if_neg (by rw [ht]; simp), hu]
end
theorem all_not_any {α : Type} (l : List α) (p : α → Bool) : (!(l.any fun x => !p x)) = l.all p := by
  induction l with
  | nil => rfl
  | cons x l ih => rw [List.any_cons, List.all_cons, ← ih]; simp

end Go.Proofs.YtcmfanfkcbjeoaaGreatDoor

namespace Go.Proofs.YtcmfanfkcbjeoaaGreatDoor
open Go.RowKit

end Go.Proofs.YtcmfanfkcbjeoaaGreatDoor
