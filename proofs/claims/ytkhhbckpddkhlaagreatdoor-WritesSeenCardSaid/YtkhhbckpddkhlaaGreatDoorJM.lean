/- the law JsonForms, walked. -/
import Derived.Test.YtkhhbckpddkhlaaGreatDoorJL
import Derived.Test.YtkhhbckpddkhlaaGreatDoorJC
namespace Go.Proofs.YtkhhbckpddkhlaaGreatDoor
open Go.RowKit

theorem strs_nil (c : CF) : StrsAt c (.slice none 0 0) [] := ⟨none, 0, rfl, by simp, fun i s h => by simp at h⟩
theorem items_nil (c : CF) : ItemsAt c (.slice none 0 0) [] := ⟨none, 0, rfl, by simp, fun i s h => by simp at h⟩
theorem five_at (c : CF) : JAt c (.mk 3 5 ⟨#[]⟩ [] []) (.agg #[.int .i64 3, .int .i64 5, .string ⟨#[]⟩, .slice none 0 0, .slice none 0 0]) :=
  JAt.shut (by kernel_rfl) (by kernel_rfl) (by simp [ByteArray.size]) (strs_nil c) (items_nil c)

theorem five_formed : formedF 6 (.mk 3 5 ⟨#[]⟩ [] []) = true := by
  have h : textF ⟨#[]⟩ = true := by unfold textF; simp [ByteArray.size, Lib.validD, Lib.validGoD]
  have h2 : headOk 3 5 ⟨#[]⟩ := ⟨by omega, by omega, .inl rfl, .inr (by kernel_rfl), h⟩
  rw [formedF, decide_eq_true h2]; rfl

end Go.Proofs.YtkhhbckpddkhlaaGreatDoor
