/- the law JsonPrints, walked. -/
import Derived.Test.YtdhilnnohokoeaaDoorPE
namespace Go.Proofs.YtdhilnnohokoeaaDoor
open Go.RowKit

/-- what Print hands back -/
def printS (v : JV) : ByteArray := if formedF 6 v = true then ba (showF 6 v) else ⟨#[]⟩
def printE (v : JV) : Int := if formedF 6 v = true then 0 else 2

theorem Print_any (v : JV) (x : Value) (w : World) (hx : JAt (cf w) v x) (hT : Tabs w) (hP : Pow w.heap.size w) :
    Calls Tryd.prog 10 #[x] w fun e w' => e = .returned (.tuple #[.string (printS v), .int .i64 (printE v)]) ∧ Below w.heap.size w w' := by
  unfold printS printE
  cases hf : formedF 6 v with
  | false => exact Print_no v x w hx hT hf
  | true => exact Print_yes v x w hx hT hP hf
theorem Pow.below {w w' : World} (h : Pow w.heap.size w) (hb : Below w.heap.size w w') : Pow w'.heap.size w' := ⟨(h.keep hb).1, Nat.lt_of_lt_of_le h.2 hb.size⟩

end Go.Proofs.YtdhilnnohokoeaaDoor
