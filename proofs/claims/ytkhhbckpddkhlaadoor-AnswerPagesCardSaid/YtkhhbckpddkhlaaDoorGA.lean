/- Filters: sign, Tests, count and clause of the reference. Filters: clause and Check of the reference. -/
import Derived.Test.YtkhhbckpddkhlaaDoorFM
import Derived.Test.YtkhhbckpddkhlaaDoorJK
namespace Go.Proofs.YtkhhbckpddkhlaaDoor
open Go.RowKit

/-- none before j is so -/
def NoneTo {α : Type} (l : List α) (p : α → Bool) (j : Nat) : Prop := ∀ (q : Nat) x, q < j → l[q]? = some x → p x = false
theorem NoneTo.next {α : Type} {l : List α} {p : α → Bool} {j : Nat} {x : α} (h : NoneTo l p j) (hx : l[j]? = some x) (hp : p x = false) : NoneTo l p (j + 1) := fun q y hq hy => by
  by_cases e : q = j
  · subst e; rw [hx] at hy; cases hy; exact hp
  · exact h q y (by omega) hy
theorem NoneTo.any {α : Type} {l : List α} {p : α → Bool} {j : Nat} (h : NoneTo l p j) (hj : l.length ≤ j) : l.any p = false := any_false (fun q x hq hx => h q x (by omega) hx)

/-- the number that the reference's count hands back -/
def numO (o : Option Nat) : Int := (o.getD 0 : Nat)
/-- the number that the reference's clause hands back -/
def rclF (cnt : JV → Option Nat) (s : ByteArray) (v : JV) : Int :=
  if isN s sAnd || isN s sOr then numO (sumO 1 (v.items.map cnt)) else if isN s sNot then numO (cnt v) + 1 else numO (clauseF cnt s v)
theorem rcl_some {cnt : JV → Option Nat} {s : ByteArray} {v : JV} {n : Nat} (h : clauseF cnt s v = some n) : rclF cnt s v = n := by
  unfold rclF
  split
  · rename_i hs
    rw [Bool.or_eq_true] at hs
    by_cases hk : v.kind = 5 ∧ v.items.length ≠ 0
    · rw [cl_list hs hk.1 hk.2] at h; rw [h]; rfl
    · rw [cl_nolist hs hk] at h; cases h
  · rename_i hs
    simp only [Bool.or_eq_true, not_or, Bool.not_eq_true] at hs
    split
    · rename_i h3
      rw [cl_not hs.1 hs.2 h3] at h
      obtain ⟨m, hm, rfl⟩ := Option.map_eq_some_iff.1 h
      rw [hm]; rfl
    · rw [h]; rfl

end Go.Proofs.YtkhhbckpddkhlaaDoor

namespace Go.Proofs.YtkhhbckpddkhlaaDoor
open Go.RowKit

theorem rcl_list {cnt : JV → Option Nat} {s : ByteArray} {v : JV} (h : isN s sAnd = true ∨ isN s sOr = true) : rclF cnt s v = numO (sumO 1 (v.items.map cnt)) := by
  unfold rclF; rw [if_pos (by simpa using h)]
theorem rcl_not {cnt : JV → Option Nat} {s : ByteArray} {v : JV} (h1 : isN s sAnd = false) (h2 : isN s sOr = false) (h3 : isN s sNot = true) : rclF cnt s v = numO (cnt v) + 1 := by
  unfold rclF; rw [if_neg (by simp [h1, h2]), if_pos h3]
theorem rcl_path {cnt : JV → Option Nat} {s : ByteArray} {v : JV} (h1 : isN s sAnd = false) (h2 : isN s sOr = false) (h3 : isN s sNot = false) : rclF cnt s v = numO (clauseF cnt s v) := by
  unfold rclF; rw [if_neg (by simp [h1, h2]), if_neg (by simp [h3])]
theorem sum_none {l : List JV} {cnt : JV → Option Nat} {s : ByteArray} {v : JV} (h : isN s sAnd = true ∨ isN s sOr = true) (hv : v.items = l) (hn : sumO 1 (l.map cnt) = none) : clauseF cnt s v = none := by
  by_cases hk : v.kind = 5 ∧ v.items.length ≠ 0
  · rw [cl_list h hk.1 hk.2, hv, hn]
  · rw [cl_nolist h hk]

end Go.Proofs.YtkhhbckpddkhlaaDoor
