/- The order of values, plainly. Paths, plainly. -/
import Derived.Test.YtfpphpjobkhalaaGreatDoorZ02
namespace Go.Proofs.YtfpphpjobkhalaaGreatDoor

def cmpS (a b : ByteArray) : Int := if strLt a b = true then -1 else if a = b then 0 else 1
/-! where a loop stands -/
/-! bytes -/
/-- byte by byte -/
def lexC : List UInt8 → List UInt8 → Int
  | [], [] => 0
  | [], _ :: _ => -1
  | _ :: _, [] => 1
  | a :: l, b :: m => if a.toNat < b.toNat then -1 else if b.toNat < a.toNat then 1 else lexC l m
theorem lexC_less : ∀ l m : List UInt8, lexC l m = if Op.bytesLess l m = true then -1 else if l = m then 0 else 1
  | [], [] => by simp [lexC, Op.bytesLess]
  | [], _ :: _ => by simp [lexC, Op.bytesLess]
  | _ :: _, [] => by simp [lexC, Op.bytesLess]
  | a :: l, b :: m => by
    have ih := lexC_less l m
    rw [lexC]
    by_cases h1 : a.toNat < b.toNat
    · have : a < b := UInt8.lt_iff_toNat_lt.2 h1
      rw [if_pos h1, if_pos (by simp [Op.bytesLess, this])]
    · rw [if_neg h1]
      have n1 : ¬ a < b := fun h => h1 (UInt8.lt_iff_toNat_lt.1 h)
      by_cases h2 : b.toNat < a.toNat
      · have : b < a := UInt8.lt_iff_toNat_lt.2 h2
        have ne : a ≠ b := by rintro rfl; omega
        rw [if_pos h2, if_neg (by simp [Op.bytesLess, n1, ne]), if_neg (by simp [ne])]
      · have e : a = b := UInt8.toNat_inj.1 (by omega)
        subst e
        rw [if_neg h2, ih]
        simp [Op.bytesLess]
theorem strLt_self (a : ByteArray) : strLt a a = false := by
  have h := lexC_less a.data.toList a.data.toList
  have h2 : ∀ l : List UInt8, lexC l l = 0 := by
    intro l
    induction l with
    | nil => rfl
    | cons c l ih => rw [lexC, if_neg (by omega), if_neg (by omega), ih]
  rw [h2] at h
  unfold strLt
  rw [ByteArray.toList_eq]
  cases e : Op.bytesLess a.data.toList a.data.toList with
  | false => rfl
  | true => rw [e] at h; simp at h
theorem cmpS_zero {a b : ByteArray} : cmpS a b = 0 ↔ a = b := by
  constructor
  · intro h
    unfold cmpS at h; split at h
    · cases h
    · split at h
      · assumption
      · cases h
  · rintro rfl; unfold cmpS; rw [strLt_self]; simp
end Go.Proofs.YtfpphpjobkhalaaGreatDoor

namespace Go.Proofs.YtfpphpjobkhalaaGreatDoor

/-- steps from the place i on, the last one begun at fr -/
def stepsGo (s : ByteArray) : Nat → Nat → Nat → List ByteArray → Option (List ByteArray)
  | 0, _, _, out => some out
  | m + 1, fr, i, out =>
    if i < s.size ∧ s.data.toList[i]? ≠ some 46 then stepsGo s m fr (i + 1) out
    else if i = fr ∨ 60 < i - fr ∨ out.length = 4 ∨ Lib.validD (s.extract fr i).data.toList = false then none
    else stepsGo s m (i + 1) (i + 1) (out ++ [s.extract fr i])
/-- the steps of a path -/
def stepsF (s : ByteArray) : Option (List ByteArray) := stepsGo s (s.size + 1) 0 0 []
/-- digits, from so much on -/
def numGo : List UInt8 → Nat → Int
  | [], n => n
  | c :: l, n => if c.toNat < 48 ∨ 57 < c.toNat then -1 else numGo l (n * 10 + (c.toNat - 48))
/-- the number of a step; -1: it is none -/
def numF (s : ByteArray) : Int := if s.size = 0 ∨ 4 < s.size ∨ 1 < s.size ∧ s.data.toList[0]? = some 48 then -1 else numGo s.data.toList 0
/-- the first place of a name -/
def idxGo (s : ByteArray) : List ByteArray → Nat → Int
  | [], _ => -1
  | n :: l, j => if n = s then j else idxGo s l (j + 1)
/-- the place of a step in a value; -1: there is none -/
def placeF (v : JV) (s : ByteArray) : Int :=
  if v.kind = 5 ∧ numF s < v.items.length then numF s else if v.kind = 6 then idxGo s v.names 0 else -1
/-- going down the steps -/
def walkF : List ByteArray → JV → Option JV
  | [], v => some v
  | s :: l, v => if placeF v s < 0 then none else (v.items[(placeF v s).toNat]?).bind (walkF l)
/-- what lies at a path -/
def getJ (v : JV) (p : ByteArray) : Option JV := (stepsF p).bind fun l => if formedF 6 v = true then walkF l v else none
end Go.Proofs.YtfpphpjobkhalaaGreatDoor
