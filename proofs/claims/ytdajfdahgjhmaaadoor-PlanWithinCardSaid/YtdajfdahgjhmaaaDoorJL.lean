/- formed and Depth of both, whole; the plain law. -/
import Derived.Test.YtdajfdahgjhmaaaDoorJK
import Derived.Test.YtdajfdahgjhmaaaDoorJB
namespace Go.Proofs.YtdajfdahgjhmaaaDoor
open Go.RowKit

theorem maxOf_le_iff {l : List Nat} {b : Nat} : maxOf l ≤ b ↔ ∀ x ∈ l, x ≤ b := by
  constructor
  · induction l with
    | nil => intro _ x hx; cases hx
    | cons y l ih =>
      intro h x hx
      unfold maxOf at h; rw [List.foldl_cons, foldl_max] at h
      rcases List.mem_cons.1 hx with rfl | hx
      · omega
      · exact ih (by omega) x hx
  · exact maxOf_le

/-- what the program asks and what the reference asks is one -/
theorem formed_law : ∀ l v, formedF l v = (decide (depthF (l + 1) v ≤ l) && rformedF v)
  | 0, v => by rw [depthF_one]; simp [formedF]
  | l + 1, .mk k n t nm it => by
    rw [formedF, rformedF]
    by_cases hh : headOk k n t
    · rw [decide_eq_true hh, Bool.true_and, Bool.true_and]
      by_cases hk : k < 5
      · rw [if_pos hk, depthF_leaf _ _ (by simp [JV.kind]; omega) (by simp [JV.kind]; omega)]
        by_cases he : it.length = 0 ∧ nm.length = 0
        · obtain ⟨h1, h2⟩ := he
          rw [List.eq_nil_of_length_eq_zero h1, List.eq_nil_of_length_eq_zero h2]
          simp [rises, rformedL]
        · rw [decide_eq_false he, decide_eq_false (p := (k = 6 ∨ nm.length = 0) ∧ _) (fun h => he (by omega))]
          simp
      · rw [if_neg hk, depthF_node _ _ (by have := hh.2.1; simp [JV.kind]; omega)]
        have e : it.all (formedF l) = (decide (maxOf (it.map (depthF (l + 1))) ≤ l) && rformedL it) := by
          rw [rformedL_all, Bool.eq_iff_iff, Bool.and_eq_true, List.all_eq_true, List.all_eq_true, decide_eq_true_eq, maxOf_le_iff]
          constructor
          · intro h
            refine ⟨fun x hx => ?_, fun x hx => ?_⟩
            · obtain ⟨y, hy, rfl⟩ := List.mem_map.1 hx
              have := h y hy; rw [formed_law l y, Bool.and_eq_true, decide_eq_true_eq] at this; exact this.1
            · have := h x hx; rw [formed_law l x, Bool.and_eq_true] at this; exact this.2
          · rintro ⟨h1, h2⟩ x hx
            rw [formed_law l x, Bool.and_eq_true, decide_eq_true_eq]
            exact ⟨h1 _ (List.mem_map.2 ⟨x, hx, rfl⟩), h2 x hx⟩
        have e2 : decide (maxOf ((JV.mk k n t nm it).items.map (depthF (l + 1))) + 1 ≤ l + 1) = decide (maxOf (it.map (depthF (l + 1))) ≤ l) := by
          rw [decide_eq_decide]; exact Nat.succ_le_succ_iff
        rw [e, e2]
        generalize decide (maxOf (it.map (depthF (l + 1))) ≤ l) = p
        generalize rformedL it = q
        have e3 : bodyOk k nm it.length = (decide ((k = 6 ∨ nm.length = 0) ∧ (5 ≤ k ∨ it.length = 0) ∧ it.length ≤ 24 ∧ (k = 6 → nm.length = it.length)) && nm.all textF && rises nm) := by
          unfold bodyOk
          congr 2
          rw [Bool.eq_iff_iff, Bool.and_eq_true, decide_eq_true_eq, decide_eq_true_eq, decide_eq_true_eq]
          split <;> omega
        rw [e3]
        generalize (decide ((k = 6 ∨ nm.length = 0) ∧ (5 ≤ k ∨ it.length = 0) ∧ it.length ≤ 24 ∧ (k = 6 → nm.length = it.length)) && nm.all textF && rises nm) = r
        cases p <;> cases q <;> cases r <;> rfl
    · rw [decide_eq_false hh]; simp

end Go.Proofs.YtdajfdahgjhmaaaDoor
