/- cmp: Compare and Or, walked. compare of order, walked. -/
import Derived.Test.YtcmfanfkcbjeoaaDoorFO
import Derived.Test.YtcmfanfkcbjeoaaDoorSA
import Derived.StillTailTactics
import Derived.Deep.RegionWith
import Derived.Test.YtcmfanfkcbjeoaaDoorJK
namespace Go.Proofs.YtcmfanfkcbjeoaaDoor
open Go.RowKit

/-- the first that isn't 0, of many -/
def orL : List Int → Int
  | [] => 0
  | x :: l => orI x (orL l)
theorem orL_three (a b c : Int) : orL [a, b, c] = orI a (orI b c) := by
  have : orI c 0 = c := by unfold orI; split <;> simp_all
  simp [orL, this]

end Go.Proofs.YtcmfanfkcbjeoaaDoor

namespace Go.Proofs.YtcmfanfkcbjeoaaDoor
open Go.RowKit

theorem three_cells (w : World) (a b c : Int) (t : TypeId) : ∀ (i : Nat) x, [a, b, c][i]? = some x → (w.alloc (.cells #[.int .i64 a, .int .i64 b, .int .i64 c] t)).cell? ⟨w.heap.size, i, none⟩ = some (.int .i64 x) := by
  intro i x hx
  match i, hx with
  | 0, hx => simp at hx; subst hx; simp
  | 1, hx => simp at hx; subst hx; simp
  | 2, hx => simp at hx; subst hx; simp

theorem or_zero {a b c : Int} (h : orL [a, b, c] = 0) : a = 0 := by
  rw [orL_three] at h
  unfold orI at h
  split at h
  · assumption
  · assumption
theorem names_len {d : Nat} {k n : Int} {t : ByteArray} {nm : List ByteArray} {it : List JV} (hf : formedF (d + 1) (.mk k n t nm it) = true) (h6 : k = 6) : nm.length = it.length := by
  have := (formed_body hf (by omega)).2.1
  rw [if_pos h6] at this; exact this
theorem item_formed {d : Nat} {k n : Int} {t : ByteArray} {nm : List ByteArray} {it : List JV} (hf : formedF (d + 1) (.mk k n t nm it) = true) {x : JV} (hx : x ∈ it) : formedF d x = true := by
  by_cases hk : k < 5
  · rw [formedF, if_pos hk, Bool.and_eq_true] at hf
    have := (of_decide_eq_true hf.2).1
    rw [List.length_eq_zero_iff.1 this] at hx; cases hx
  · exact (formed_body hf hk).2.2.2.1 x hx

end Go.Proofs.YtcmfanfkcbjeoaaDoor
