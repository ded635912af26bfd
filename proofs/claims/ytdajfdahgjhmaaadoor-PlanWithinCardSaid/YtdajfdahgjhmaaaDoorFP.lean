/- Paths, plainly. -/
import Derived.Test.YtdajfdahgjhmaaaDoorJD
namespace Go.Proofs.YtdajfdahgjhmaaaDoor

/-- steps from the place i on, the last one begun at fr -/
def stepsGo (s : ByteArray) : Nat → Nat → Nat → List ByteArray → Option (List ByteArray)
  | 0, _, _, out => some out
  | m + 1, fr, i, out =>
    if i < s.size ∧ s.data.toList[i]? ≠ some 46 then stepsGo s m fr (i + 1) out
    else if i = fr ∨ 60 < i - fr ∨ out.length = 4 ∨ Lib.validD (s.extract fr i).data.toList = false then none
    else stepsGo s m (i + 1) (i + 1) (out ++ [s.extract fr i])
/-- the steps of a path -/
def stepsF (s : ByteArray) : Option (List ByteArray) := stepsGo s (s.size + 1) 0 0 []

theorem stepsGo_len (s : ByteArray) : ∀ m fr i out r, out.length ≤ 4 → stepsGo s m fr i out = some r → r.length ≤ 4
  | 0, _, _, out, r, h, e => by rw [stepsGo] at e; cases e; exact h
  | m + 1, fr, i, out, r, h, e => by
    rw [stepsGo] at e
    split at e
    · exact stepsGo_len s m _ _ _ r h e
    · split at e
      · cases e
      · rename_i hc
        refine stepsGo_len s m _ _ _ r ?_ e
        rw [List.length_append, List.length_singleton]
        have : out.length ≠ 4 := fun h4 => hc (.inr (.inr (.inl h4)))
        omega

/-- digits, from so much on -/
def numGo : List UInt8 → Nat → Int
  | [], n => n
  | c :: l, n => if c.toNat < 48 ∨ 57 < c.toNat then -1 else numGo l (n * 10 + (c.toNat - 48))
/-- the number of a step; -1: it is none -/
def numF (s : ByteArray) : Int := if s.size = 0 ∨ 4 < s.size ∨ 1 < s.size ∧ s.data.toList[0]? = some 48 then -1 else numGo s.data.toList 0

/-- the first place of a name -/
def idxGo (s : ByteArray) : List ByteArray → Nat → Int
  | [], _ => -1
  | n :: l, j => if n = s then j else idxGo s l (j + 1)
/-- the place of a step in a value; -1: there is none -/
def placeF (v : JV) (s : ByteArray) : Int :=
  if v.kind = 5 ∧ numF s < v.items.length then numF s else if v.kind = 6 then idxGo s v.names 0 else -1

/-- going down the steps -/
def walkF : List ByteArray → JV → Option JV
  | [], v => some v
  | s :: l, v => if placeF v s < 0 then none else (v.items[(placeF v s).toNat]?).bind (walkF l)
/-- what lies at a path -/
def getF (v : JV) (p : ByteArray) : Option JV := (stepsF p).bind fun l => if formedF 6 v = true then walkF l v else none

theorem idxGo_ge (s : ByteArray) : ∀ l j, idxGo s l j = -1 ∨ ∃ q : Nat, idxGo s l j = (j + q : Nat) ∧ q < l.length
  | [], j => .inl rfl
  | n :: l, j => by
    rw [idxGo]; split
    · exact .inr ⟨0, rfl, by simp⟩
    · rcases idxGo_ge s l (j + 1) with h | ⟨q, h, hq⟩
      · exact .inl h
      · exact .inr ⟨q + 1, by rw [h]; congr 1; omega, by simp; omega⟩

end Go.Proofs.YtdajfdahgjhmaaaDoor
