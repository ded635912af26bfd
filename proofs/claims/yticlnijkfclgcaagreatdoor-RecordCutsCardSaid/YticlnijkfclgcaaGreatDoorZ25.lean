/- Filters, plainly. Filters: what is handed to the library's functions; tests of the program. Filters: formed tests; the conditions, counted by the program. Filters: the conditions, counted by the program. Filters: a clause, counted by the program; Check. Filters: a clause, whole, and Check of the program. -/
import Derived.Test.YticlnijkfclgcaaGreatDoorZ09
import Derived.Test.YticlnijkfclgcaaGreatDoorZ20
import Derived.Test.YticlnijkfclgcaaGreatDoorZ21
namespace Go.Proofs.YticlnijkfclgcaaGreatDoor

abbrev sEq : List UInt8 := [36, 101, 113]
abbrev sNe : List UInt8 := [36, 110, 101]
abbrev sLt : List UInt8 := [36, 108, 116]
abbrev sLe : List UInt8 := [36, 108, 101]
abbrev sGt : List UInt8 := [36, 103, 116]
abbrev sGe : List UInt8 := [36, 103, 101]
abbrev sIn : List UInt8 := [36, 105, 110]
abbrev sHas : List UInt8 := [36, 104, 97, 115]
/-- a name is this one -/
def isN (s : ByteArray) (l : List UInt8) : Bool := s.toList == l
/-- a formed test -/
def testF (s : ByteArray) (v : JV) : Bool :=
  if isN s sEq || isN s sNe || isN s sLt || isN s sLe || isN s sGt || isN s sGe then true
  else if isN s sIn then decide (v.kind = 5) else if isN s sHas then decide (v.kind = 2) || decide (v.kind = 1) else false
/-! alike: compared as 0 -/
end Go.Proofs.YticlnijkfclgcaaGreatDoor

namespace Go.Proofs.YticlnijkfclgcaaGreatDoor
open Go.RowKit

theorem any_true {α : Type} {l : List α} {p : α → Bool} {i : Nat} {x : α} (hx : l[i]? = some x) (h : p x = true) : l.any p = true :=
  List.any_eq_true.2 ⟨x, List.mem_of_getElem? hx, h⟩
theorem any_false {α : Type} {l : List α} {p : α → Bool} (h : ∀ (i : Nat) x, i < l.length → l[i]? = some x → p x = false) : l.any p = false := by
  rw [← Bool.not_eq_true, List.any_eq_true]
  rintro ⟨x, hx, hp⟩
  obtain ⟨i, hil, e⟩ := List.getElem_of_mem hx
  rw [h i x hil (by rw [← e]; exact List.getElem?_eq_getElem hil)] at hp
  cases hp
/-- what IndexFunc hands back -/
def IdxAny (b : Bool) (w : World) (e : Ending) (w' : World) : Prop := ∃ r : Int, e = .returned (.int .i64 r) ∧ decide (0 ≤ r) = b ∧ Below w.heap.size w w'
end Go.Proofs.YticlnijkfclgcaaGreatDoor

namespace Go.Proofs.YticlnijkfclgcaaGreatDoor
open Go.RowKit

end Go.Proofs.YticlnijkfclgcaaGreatDoor

namespace Go.Proofs.YticlnijkfclgcaaGreatDoor
open Go.RowKit

end Go.Proofs.YticlnijkfclgcaaGreatDoor

namespace Go.Proofs.YticlnijkfclgcaaGreatDoor
open Go.RowKit

section
variable {cnt : JV → Option Nat} {s : ByteArray} {v : JV}
end

end Go.Proofs.YticlnijkfclgcaaGreatDoor

namespace Go.Proofs.YticlnijkfclgcaaGreatDoor
open Go.RowKit

/-- all tests before j are formed -/
def TestsTo (nm : List ByteArray) (it : List JV) (j : Nat) : Prop := ∀ (q : Nat) p, q < j → (nm.zip it)[q]? = some p → testF p.1 p.2 = true
theorem TestsTo.next {nm : List ByteArray} {it : List JV} {j : Nat} {s : ByteArray} {x : JV} (h : TestsTo nm it j) (hp : (nm.zip it)[j]? = some (s, x)) (ht : testF s x = true) : TestsTo nm it (j + 1) := fun q p hq hpq => by
  by_cases e : q = j
  · subst e; rw [hp] at hpq; cases hpq; exact ht
  · exact h q p (by omega) hpq
end Go.Proofs.YticlnijkfclgcaaGreatDoor
