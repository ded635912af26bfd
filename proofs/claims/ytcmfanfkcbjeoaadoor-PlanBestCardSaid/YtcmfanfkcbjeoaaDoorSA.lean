/- Same of the program. Same of the program, whole; Same of the reference. Same of the reference. -/
import Derived.Test.YtcmfanfkcbjeoaaDoorJD
import Derived.Test.YtcmfanfkcbjeoaaDoorOW
import Derived.BigQuiet
import Derived.Deep.QuietTactic
import Derived.Test.YtcmfanfkcbjeoaaDoorJGrow
namespace Go.Proofs.YtcmfanfkcbjeoaaDoor
open Go.RowKit

open Classical in
/-- two values are alike -/
noncomputable def sameB (a b : JV) : Bool := decide (a = b)
theorem sameB_true {a b : JV} (h : a = b) : sameB a b = true := by simp [sameB, h]
theorem sameB_false {a b : JV} (h : a ≠ b) : sameB a b = false := by simp [sameB, h]
theorem sameB_iff {a b : JV} : sameB a b = true ↔ a = b := by simp [sameB]
theorem JV.ext_iff' {k n q m : Int} {t u : ByteArray} {nm nu : List ByteArray} {it ju : List JV} : JV.mk k n t nm it = JV.mk q m u nu ju ↔ k = q ∧ n = m ∧ t = u ∧ nm = nu ∧ it = ju := by
  constructor
  · intro h; injection h with h1 h2 h3 h4 h5; exact ⟨h1, h2, h3, h4, h5⟩
  · rintro ⟨rfl, rfl, rfl, rfl, rfl⟩; rfl

/-- all before j are alike -/
def EqTo {α : Type} (a b : List α) (j : Nat) : Prop := ∀ q, q < j → a[q]? = b[q]?
theorem EqTo.all {α : Type} {a b : List α} (hl : a.length = b.length) (h : EqTo a b a.length) : a = b := by
  apply List.ext_getElem?
  intro i
  by_cases hi : i < a.length
  · exact h i hi
  · rw [List.getElem?_eq_none (by omega), List.getElem?_eq_none (by omega)]
theorem EqTo.next {α : Type} {a b : List α} {j : Nat} (h : EqTo a b j) (hj : a[j]? = b[j]?) : EqTo a b (j + 1) := fun q hq => by
  by_cases e : q = j
  · rw [e]; exact hj
  · exact h q (by omega)

open Classical in
noncomputable def itemsB (a b : List JV) : Bool := decide (a = b)
theorem itemsB_iff {a b : List JV} : itemsB a b = true ↔ a = b := by simp [itemsB]
theorem itemsB_true {a b : List JV} (h : a = b) : itemsB a b = true := by simp [itemsB, h]
theorem itemsB_false {a b : List JV} (h : a ≠ b) : itemsB a b = false := by simp [itemsB, h]

end Go.Proofs.YtcmfanfkcbjeoaaDoor

namespace Go.Proofs.YtcmfanfkcbjeoaaDoor
open Go.RowKit

theorem cells_five {w : World} {k : Nat} {c0 c1 c2 c3 c4 : Value} {t : TypeId} {fr : Nat × Nat} (h : w.heap[k]? = some (.cells #[c0, c1, c2, c3, c4] t fr)) :
    w.cell? ⟨k, 0, none⟩ = some c0 ∧ w.cell? ⟨k, 1, none⟩ = some c1 ∧ w.cell? ⟨k, 2, none⟩ = some c2 ∧ w.cell? ⟨k, 3, none⟩ = some c3 ∧ w.cell? ⟨k, 4, none⟩ = some c4 := by
  simp [World.cell?, h]
/-- two boxes of values -/
structure Two (w wr : World) (a b : Array Value) : Prop where
  bel : Below w.heap.size w wr
  one : wr.heap[w.heap.size]? = some (.cells a 25 (0, 0))
  two : wr.heap[w.heap.size + 1]? = some (.cells b 25 (0, 0))
theorem Two.refl (w : World) (a b : Array Value) : Two w ((w.alloc (.cells a 25)).alloc (.cells b 25)) a b := by
  refine ⟨((Below.refl _ w).alloc (Nat.le_refl _) _).alloc (by simp) _, ?_, ?_⟩
  · rw [Below.heap_alloc _ _ _ (by simp)]; exact heap_alloc_new w _
  · have := heap_alloc_new (w.alloc (.cells a 25)) (.cells b 25)
    simpa using this
theorem Two.next {w wr w' : World} {a b : Array Value} (h : Two w wr a b) (hb : Below wr.heap.size wr w') : Two w w' a b :=
  ⟨h.bel.trans (hb.mono h.bel.size), kept h.one hb, kept h.two hb⟩
theorem Two.drewN {w wr : World} {a b : Array Value} (h : Two w wr a b) (n : Nat) : Two w (wr.drewN n) a b := h.next ⟨rfl, rfl, rfl, Nat.le_refl _, fun _ _ => rfl⟩

end Go.Proofs.YtcmfanfkcbjeoaaDoor

namespace Go.Proofs.YtcmfanfkcbjeoaaDoor
open Go.RowKit

end Go.Proofs.YtcmfanfkcbjeoaaDoor
