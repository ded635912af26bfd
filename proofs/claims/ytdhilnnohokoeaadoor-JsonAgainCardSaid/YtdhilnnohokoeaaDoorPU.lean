/- The reference's text of a value, and its Print. -/
import Derived.Test.YtdhilnnohokoeaaDoorPR
import Derived.Test.YtdhilnnohokoeaaDoorJL
namespace Go.Proofs.YtdhilnnohokoeaaDoor
open Go.RowKit

/-- a bound that nothing passes: of depth 6 -/
theorem lenB_le : ∀ d : Nat, d ≤ 6 → lenB d ≤ 100000000000
  | 0, _ => by decide
  | 1, _ => by decide
  | 2, _ => by decide
  | 3, _ => by decide
  | 4, _ => by decide
  | 5, _ => by decide
  | 6, _ => by decide
  | n + 7, h => by omega
theorem show_size {d : Nat} (hd : d ≤ 6) {v : JV} {c : CF} {x : Value} (hv : JAt c v x) (hf : formedF d v = true) : (ba (showF d v)).size ≤ 100000000000 := by
  rw [ba_size]; exact Nat.le_trans (showF_len d v c x hv hf) (lenB_le d hd)
theorem part_size {d : Nat} (hd : d ≤ 6) {c : CF} {iv : Value} {nm : List ByteArray} {it : List JV} {k : Int} (hit : ItemsAt c iv it) (hn : ∀ s ∈ nm, textF s = true) (hf : ∀ x ∈ it, formedF d x = true) (h24 : it.length ≤ 24) {j : Nat} (hj : j ≤ it.length) :
    (ba (partF (showF d) k nm it j)).size ≤ 3000000000000 := by
  rw [ba_size]
  refine Nat.le_trans (partF_len (L := 100000000000) hn (fun x hx => ?_) j) ?_
  · obtain ⟨y, hy⟩ := JAt.item hit hx
    exact Nat.le_trans (showF_len d x c y hy (hf x hx)) (lenB_le d hd)
  · refine Nat.le_trans (Nat.mul_le_mul_right _ (Nat.le_trans hj h24)) (by decide)
theorem quoted_size {s : ByteArray} (h : s.size ≤ 60) : (ba (quotedF s.data.toList)).size ≤ 400 := by
  have := @quotedF_len s
  rw [ba_size]; omega

end Go.Proofs.YtdhilnnohokoeaaDoor
