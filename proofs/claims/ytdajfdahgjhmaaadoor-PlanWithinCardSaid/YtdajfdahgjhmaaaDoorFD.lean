/- cmp: Compare and Or, walked. -/
import Derived.Test.YtdajfdahgjhmaaaDoorFO
import Derived.Test.YtdajfdahgjhmaaaDoorSA
import Derived.StillTailTactics
import Derived.Deep.RegionWith
namespace Go.Proofs.YtdajfdahgjhmaaaDoor
open Go.RowKit

/-- the first that isn't 0, of many -/
def orL : List Int → Int
  | [] => 0
  | x :: l => orI x (orL l)
theorem orL_three (a b c : Int) : orL [a, b, c] = orI a (orI b c) := by
  have : orI c 0 = c := by unfold orI; split <;> simp_all
  simp [orL, this]

end Go.Proofs.YtdajfdahgjhmaaaDoor
