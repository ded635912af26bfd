/- cmp: Compare and Or, walked. compare of order, walked. -/
import Derived.Test.YtcmfanfkcbjeoaaGreatDoorFO
import Derived.Test.YtcmfanfkcbjeoaaGreatDoorSA
import Derived.StillTailTactics
import Derived.Deep.RegionWith
import Derived.Test.YtcmfanfkcbjeoaaGreatDoorJK
namespace Go.Proofs.YtcmfanfkcbjeoaaGreatDoor
open Go.RowKit

theorem isNaN_int (a : Int) (w : World) : Calls Tryz.prog 198 #[.int .i64 a] w fun e w' => e = .returned (.bool false) ∧ w' = w := by
  go_enter Tryz.func198, Tryz.ntmps198
  go_wp2_with fail
  go_ret
  exact ⟨by simp, rfl⟩

theorem isNaN_str (a : ByteArray) (w : World) : Calls Tryz.prog 116 #[.string a] w fun e w' => e = .returned (.bool false) ∧ w' = w := by
  go_enter Tryz.func116, Tryz.ntmps116
  go_wp2_with fail
  go_ret
  exact ⟨by simp, rfl⟩

set_option maxHeartbeats 2000000 in
theorem compare_str (a b : ByteArray) (w : World) : Calls Tryz.prog 72 #[.string a, .string b] w fun e w' => e = .returned (.int .i64 (cmpS a b)) ∧ w' = w := by
  have hc : (Op.bytesLess a.toList b.toList = true ∧ cmpS a b = -1) ∨ (Op.bytesLess a.toList b.toList = false ∧ (a.toList == b.toList) = false ∧ cmpS a b = 1) ∨ (Op.bytesLess a.toList b.toList = false ∧ (a.toList == b.toList) = true ∧ cmpS a b = 0) := by
    unfold cmpS strLt
    cases h1 : Op.bytesLess a.toList b.toList with
    | true => exact .inl ⟨rfl, by simp⟩
    | false =>
      by_cases h2 : a = b
      · exact .inr (.inr ⟨rfl, by rw [h2]; simp, by simp [h2]⟩)
      · exact .inr (.inl ⟨rfl, str_ne h2, by simp [h2]⟩)
  rcases hc with ⟨h1, h2⟩ | ⟨h0, h1, h2⟩ | ⟨h0, h1, h2⟩
  all_goals
    have HC := Hold.mk h2
    clear h2
    go_enter Tryz.func72, Tryz.ntmps72
    go_wp2_with fail
    refine (isNaN_str a w).mono ?_
    rintro e w1 ⟨rfl, hw1⟩
    subst hw1
    go_wp2_with fail
    refine (isNaN_str b _).mono ?_
    rintro e w2 ⟨rfl, hw2⟩
    subst hw2
    go_wp2_with fail
    go_ret
    exact ⟨by rw [HC.out]; rfl, rfl⟩

/-- the first that isn't 0, of many -/
def orL : List Int → Int
  | [] => 0
  | x :: l => orI x (orL l)
theorem orL_three (a b c : Int) : orL [a, b, c] = orI a (orI b c) := by
  have : orI c 0 = c := by unfold orI; split <;> simp_all
  simp [orL, this]

end Go.Proofs.YtcmfanfkcbjeoaaGreatDoor

namespace Go.Proofs.YtcmfanfkcbjeoaaGreatDoor
open Go.RowKit

theorem three_cells (w : World) (a b c : Int) (t : TypeId) : ∀ (i : Nat) x, [a, b, c][i]? = some x → (w.alloc (.cells #[.int .i64 a, .int .i64 b, .int .i64 c] t)).cell? ⟨w.heap.size, i, none⟩ = some (.int .i64 x) := by
  intro i x hx
  match i, hx with
  | 0, hx => simp at hx; subst hx; simp
  | 1, hx => simp at hx; subst hx; simp
  | 2, hx => simp at hx; subst hx; simp

theorem or_zero {a b c : Int} (h : orL [a, b, c] = 0) : a = 0 := by
  rw [orL_three] at h
  unfold orI at h
  split at h
  · assumption
  · assumption
theorem names_len {d : Nat} {k n : Int} {t : ByteArray} {nm : List ByteArray} {it : List JV} (hf : formedF (d + 1) (.mk k n t nm it) = true) (h6 : k = 6) : nm.length = it.length := by
  have := (formed_body hf (by omega)).2.1
  rw [if_pos h6] at this; exact this
theorem item_formed {d : Nat} {k n : Int} {t : ByteArray} {nm : List ByteArray} {it : List JV} (hf : formedF (d + 1) (.mk k n t nm it) = true) {x : JV} (hx : x ∈ it) : formedF d x = true := by
  by_cases hk : k < 5
  · rw [formedF, if_pos hk, Bool.and_eq_true] at hf
    have := (of_decide_eq_true hf.2).1
    rw [List.length_eq_zero_iff.1 this] at hx; cases hx
  · exact (formed_body hf hk).2.2.2.1 x hx

end Go.Proofs.YtcmfanfkcbjeoaaGreatDoor
