/- Paths: numbers and places, walked. -/
import Derived.Test.YtdajfdahgjhmaaaDoorFA
import Derived.Test.YtdajfdahgjhmaaaDoorSA
namespace Go.Proofs.YtdajfdahgjhmaaaDoor
open Go.RowKit

theorem numF_no {s : ByteArray} (h : s.size = 0 ∨ 4 < s.size ∨ 1 < s.size ∧ s.data.toList[0]? = some 48) : numF s = -1 := by unfold numF; rw [if_pos h]
theorem numF_go {s : ByteArray} (h : ¬ (s.size = 0 ∨ 4 < s.size ∨ 1 < s.size ∧ s.data.toList[0]? = some 48)) : numF s = numGo s.data.toList 0 := by unfold numF; rw [if_neg h]
theorem drop_at {s : ByteArray} {j : Nat} (h : j < s.size) : s.data.toList.drop j = s[j] :: s.data.toList.drop (j + 1) := by
  rw [List.drop_eq_getElem_cons (by rw [size_list]; exact h)]
  congr 1
theorem numGo_bad {c : UInt8} {l : List UInt8} {n : Nat} (h : c.toNat < 48 ∨ 57 < c.toNat) : numGo (c :: l) n = -1 := by rw [numGo, if_pos h]
theorem numGo_on {c : UInt8} {l : List UInt8} {n : Nat} (h : ¬ (c.toNat < 48 ∨ 57 < c.toNat)) : numGo (c :: l) n = numGo l (n * 10 + (c.toNat - 48)) := by rw [numGo, if_neg h]
theorem idx_hit {s n : ByteArray} {l : List ByteArray} {j : Nat} (h : n = s) : idxGo s (n :: l) j = j := by rw [idxGo, if_pos h]
theorem idx_on {s n : ByteArray} {l : List ByteArray} {j : Nat} (h : n ≠ s) : idxGo s (n :: l) j = idxGo s l (j + 1) := by rw [idxGo, if_neg h]
theorem drop_name {l : List ByteArray} {j : Nat} {n : ByteArray} (h : l[j]? = some n) : l.drop j = n :: l.drop (j + 1) := by
  obtain ⟨hj, e⟩ := List.getElem?_eq_some_iff.1 h
  rw [List.drop_eq_getElem_cons hj, e]
theorem numGo_lt : ∀ (l : List UInt8) (n : Nat), numGo l n = -1 ∨ ∃ q : Nat, numGo l n = q
  | [], n => .inr ⟨n, rfl⟩
  | c :: l, n => by
    rw [numGo]; split
    · exact .inl rfl
    · exact numGo_lt l _
theorem numF_cases (s : ByteArray) : numF s = -1 ∨ ∃ q : Nat, numF s = q := by
  unfold numF; split
  · exact .inl rfl
  · exact numGo_lt _ _
theorem wrap_sub (c : UInt8) (h : 48 ≤ c.toNat) : IntKind.u8.wrap ((c.toNat : Int) - 48) = ((c.toNat - 48 : Nat) : Int) := by
  have := c.toNat_lt
  rw [show (c.toNat : Int) - 48 = ((c.toNat - 48 : Nat) : Int) by omega]
  simp [IntKind.wrap, IntKind.bits, IntKind.signed]; omega
theorem str_eq {a b : ByteArray} (h : a = b) : (a.toList == b.toList) = true := by rw [h]; simp

end Go.Proofs.YtdajfdahgjhmaaaDoor
