/- text and formed of the program. -/
import Derived.Test.YtfllnlmanopfaaaDoorJA
import Derived.Test.YtfllnlmanopfaaaDoorJLays
import Derived.Lib.ValidU
namespace Go.Proofs.YtfllnlmanopfaaaDoor
open Go.RowKit Go.Lib

def Tabs (w : World) : Prop := Lib.Utf8Tabs (Tryd.laysValid_ren.g 3) (Tryd.laysValid_ren.g 4) w
theorem Tabs.below {w w' : World} (h : Tabs w) (hb : Below w.heap.size w w') : Tabs w' := Utf8Tabs_below h hb
theorem Tabs.alloc {w : World} (h : Tabs w) (o : Obj) : Tabs (w.alloc o) := h.below ((Below.refl _ w).alloc (Nat.le_refl _) o)

/-- a String's Text, a name -/
def textF (s : ByteArray) : Bool := decide (s.size ≤ 60) && Lib.validD s.data.toList

set_option maxHeartbeats 1000000 in
theorem text_any (s : ByteArray) (w : World) (hs : s.size ≤ 9223372036854775807) (hT : Tabs w) :
    Calls Tryd.prog 79 #[.string s] w fun e w' => e = .returned (.bool (textF s)) ∧ Below w.heap.size w w' := by
  have cV : Calls Tryd.prog 83 #[.string s] w _ := Any.utf8_ValidString Tryd.laysValid s w hs hT
  have CV := Lib.hid cV; clear cV
  unfold textF
  generalize Lib.validD s.data.toList = V at CV ⊢
  by_cases h : s.size ≤ 60
  · rw [decide_eq_true h, Bool.true_and]
    go_enter Tryd.func79, Tryd.ntmps79
    go_wp2_with fail
    refine CV.out.mono ?_
    rintro e w1 ⟨rfl, hb1⟩
    go_wp2_with fail
    go_ret
    exact ⟨rfl, hb1⟩
  · rw [decide_eq_false h, Bool.false_and]
    go_enter Tryd.func79, Tryd.ntmps79
    go_wp2_with fail
    go_ret
    exact ⟨rfl, Below.refl _ _⟩

end Go.Proofs.YtfllnlmanopfaaaDoor
