/- Depth, of the program and of the reference. -/
import Derived.Test.YtcmfanfkcbjeoaaDoorJA
namespace Go.Proofs.YtcmfanfkcbjeoaaDoor
open Go.RowKit

def maxOf (l : List Nat) : Nat := l.foldl max 0
theorem foldl_max (l : List Nat) (a : Nat) : l.foldl max a = max a (maxOf l) := by
  unfold maxOf
  induction l generalizing a with
  | nil => simp
  | cons x l ih => simp only [List.foldl_cons]; rw [ih, ih (max 0 x)]; omega
theorem maxOf_snoc (l : List Nat) (x : Nat) : maxOf (l ++ [x]) = max (maxOf l) x := by simp [maxOf, List.foldl_append]
theorem maxOf_le {l : List Nat} {b : Nat} (h : ∀ x ∈ l, x ≤ b) : maxOf l ≤ b := by
  induction l with
  | nil => exact Nat.zero_le _
  | cons x l ih =>
    unfold maxOf; rw [List.foldl_cons, foldl_max]
    have := h x (by simp); have := ih (fun y hy => h y (by simp [hy])); omega

/-- how deep, at most so much -/
def depthF : Nat → JV → Nat
  | 0, _ => 1
  | m + 1, v => if (v.kind = 5 ∨ v.kind = 6) ∧ m ≠ 0 then maxOf (v.items.map (depthF m)) + 1 else 1
theorem depthF_le : ∀ m v, depthF m v ≤ m + 1
  | 0, _ => by simp [depthF]
  | m + 1, v => by
    unfold depthF; split
    · have : maxOf (v.items.map (depthF m)) ≤ m + 1 := maxOf_le fun x hx => by
        obtain ⟨y, _, rfl⟩ := List.mem_map.1 hx; exact depthF_le m y
      omega
    · omega
theorem depthF_one (v : JV) : depthF 1 v = 1 := by simp [depthF]
theorem depthF_leaf (m : Nat) (v : JV) (h5 : v.kind ≠ 5) (h6 : v.kind ≠ 6) : depthF (m + 1) v = 1 := by simp [depthF, h5, h6]
theorem depthF_node (m : Nat) (v : JV) (h : v.kind = 5 ∨ v.kind = 6) : depthF (m + 1 + 1) v = maxOf (v.items.map (depthF (m + 1))) + 1 := by
  rw [depthF, if_pos ⟨h, by omega⟩]

end Go.Proofs.YtcmfanfkcbjeoaaDoor
