/- Formed values have one text each: the text tells the value. -/
import Derived.Test.YticlnijkfclgcaaGreatDoorZ02
namespace Go.Proofs.YticlnijkfclgcaaGreatDoor

/-! numbers -/
def isD (c : UInt8) : Bool := decide (48 ≤ c.toNat ∧ c.toNat ≤ 57)
/-- the number that digits tell -/
def valD (l : List UInt8) : Nat := l.foldl (fun a c => a * 10 + (c.toNat - 48)) 0
/-! strings -/
theorem byte_fin (c : UInt8) : ∃ a : Fin 256, UInt8.ofNat a.val = c := ⟨⟨c.toNat, c.toNat_lt⟩, by simp⟩
/-! members -/
/-! values -/
end Go.Proofs.YticlnijkfclgcaaGreatDoor
