/- Indexes: Name and simple of the reference. -/
import Derived.Test.YtcmfanfkcbjeoaaDoorEB
namespace Go.Proofs.YtcmfanfkcbjeoaaDoor
open Go.RowKit

/-- all bytes before j are so -/
theorem all_drop {s : ByteArray} {p : UInt8 → Bool} {j : Nat} (h : j < s.size) : (s.data.toList.drop j).all p = (p s[j] && (s.data.toList.drop (j + 1)).all p) := by
  rw [drop_at h, List.all_cons]

end Go.Proofs.YtcmfanfkcbjeoaaDoor
