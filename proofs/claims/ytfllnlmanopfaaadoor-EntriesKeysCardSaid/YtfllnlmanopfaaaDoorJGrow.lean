/- A region that draws its order and whose callees make memory: one walk of the text's order serves every order, where all that is handed back is the same in every grown world. -/
import Derived.Test.YtfllnlmanopfaaaDoorJA
import Derived.BigQuiet
namespace Go.Proofs.YtfllnlmanopfaaaDoor
open Go.RowKit

/-- the worlds in which all stands that stood in w -/
def Grow (w : World) : Type := { w' : World // Below w.heap.size w w' }

instance (w : World) : Nonempty (Grow w) := ⟨⟨w, Below.refl _ w⟩⟩

theorem Grow.cell {w : World} {b o : Nat} {v : Value} (h : w.cell? ⟨b, o, none⟩ = some v) (e : Grow w) : e.val.cell? ⟨b, o, none⟩ = some v := by
  rw [e.property.cell (p := ⟨b, o, none⟩) (lt_of_cell h)]; exact h

theorem wp_region_grow {P : Program} {id : Nat} {Q : Exit → Act → World → Prop} {a : Act} {w : World} {l : List Oper} (hm : P.follows .mixedOrders = true) (hB : Region.lexB .any l.toArray = true)
    (h : wpQuiet P l.toArray (fun w' => ∃ e : Grow w, w' = e.val) (fun a' => ∀ e : Grow w, Q .normal a' e.val) l a) : (Code.region id l.toArray true).wp P Q a w := by
  refine wp_region_quiet (C := fun w' => ∃ e : Grow w, w' = e.val) hm hB ⟨⟨{ w with drawn := w.drawn + 1 }, (Below.refl _ w).drew⟩, rfl⟩ ?_
  have e : (fun a' => ∀ e : Grow w, Q .normal a' e.val) = (fun a' => ∀ w', (∃ e : Grow w, w' = e.val) → Q .normal a' w') := by
    funext a'
    apply propext
    constructor
    · rintro h w' ⟨e, rfl⟩; exact h e
    · intro h e; exact h _ ⟨e, rfl⟩
  rw [← e]
  simpa using h

theorem Calls.grow {P : Program} {f : FuncId} {args : Array Value} {w : World} {v : Value} (h : ∀ e : Grow w, Calls P f args e.val fun r w' => r = .returned v ∧ Below e.val.heap.size e.val w') (e : Grow w) :
    Calls P f args e.val fun r w' => r = .returned v ∧ ∃ e2 : Grow w, w' = e2.val :=
  (h e).mono fun _ w' ⟨he, hb⟩ => ⟨he, ⟨w', e.property.trans (hb.mono e.property.size)⟩, rfl⟩

end Go.Proofs.YtfllnlmanopfaaaDoor
