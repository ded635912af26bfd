/- the law JsonForms, walked. -/
import Derived.Test.YtdhilnnohokoeaaDoorJL
import Derived.Test.YtdhilnnohokoeaaDoorJC
namespace Go.Proofs.YtdhilnnohokoeaaDoor
open Go.RowKit

theorem strs_nil (c : CF) : StrsAt c (.slice none 0 0) [] := ⟨none, 0, rfl, by simp, fun i s h => by simp at h⟩
theorem items_nil (c : CF) : ItemsAt c (.slice none 0 0) [] := ⟨none, 0, rfl, by simp, fun i s h => by simp at h⟩
theorem five_at (c : CF) : JAt c (.mk 3 5 ⟨#[]⟩ [] []) (.agg #[.int .i64 3, .int .i64 5, .string ⟨#[]⟩, .slice none 0 0, .slice none 0 0]) :=
  JAt.shut (by kernel_rfl) (by kernel_rfl) (by simp [ByteArray.size]) (strs_nil c) (items_nil c)

theorem five_formed : formedF 6 (.mk 3 5 ⟨#[]⟩ [] []) = true := by
  have h : textF ⟨#[]⟩ = true := by unfold textF; simp [ByteArray.size, Lib.validD, Lib.validGoD]
  have h2 : headOk 3 5 ⟨#[]⟩ := ⟨by omega, by omega, .inl rfl, .inr (by kernel_rfl), h⟩
  rw [formedF, decide_eq_true h2]; rfl

set_option maxHeartbeats 1000000 in
theorem awake_any (w : World) (hT : Tabs w) :
    Calls Tryd.prog 6 #[] w fun e w' => e = .returned (.bool true) ∧ Below w.heap.size w w' := by
  have HX := Lib.hid (Formed_any _ _ w (five_at (cf w)) hT)
  rw [five_formed] at HX
  clear hT
  go_enter Tryd.func6, Tryd.ntmps6
  go_wp2_with fail
  refine HX.out.mono ?_
  rintro e w1 ⟨rfl, hb1⟩
  clear HX
  go_wp2_with fail
  go_ret
  exact ⟨rfl, hb1⟩

end Go.Proofs.YtdhilnnohokoeaaDoor
