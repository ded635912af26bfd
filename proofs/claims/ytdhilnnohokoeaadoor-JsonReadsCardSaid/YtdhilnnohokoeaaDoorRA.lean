/- Reading, plainly: what a text's bytes are read as. -/
import Derived.Test.YtdhilnnohokoeaaDoorSI
namespace Go.Proofs.YtdhilnnohokoeaaDoor
open Go.RowKit

def isB (c : UInt8) : Bool := c == 32 || c == 9 || c == 10 || c == 13
/-- behind the blanks -/
def skipL : List UInt8 → List UInt8
  | [] => []
  | c :: r => if isB c then skipL r else c :: r
def wordL (p l : List UInt8) : Option (List UInt8) := if p.isPrefixOf l then some (l.drop p.length) else none
/-- a number, from the sign on -/
def digL (neg : Bool) (ds r : List UInt8) : Option (Int × List UInt8) :=
  if ds = [] ∨ 1 < ds.length ∧ ds.head? = some 48 then none
  else if neg then (if valD ds ≤ 9223372036854775808 then some (-(valD ds : Int), r) else none)
  else if valD ds < 9223372036854775808 then some ((valD ds : Int), r) else none
def numL (l : List UInt8) : Option (Int × List UInt8) :=
  if l.head? = some 45 then digL true (l.tail.takeWhile isD) (l.tail.dropWhile isD) else digL false (l.takeWhile isD) (l.dropWhile isD)
def hexV (c : UInt8) : Option Nat :=
  if 48 ≤ c.toNat ∧ c.toNat ≤ 57 then some (c.toNat - 48) else if 97 ≤ c.toNat ∧ c.toNat ≤ 102 then some (c.toNat - 87) else if 65 ≤ c.toNat ∧ c.toNat ≤ 70 then some (c.toNat - 55) else none
/-- digits, one behind the other -/
def hexS : Nat → List UInt8 → Option Nat
  | a, [] => some a
  | a, c :: r => match hexV c with
    | some d => hexS (a * 16 + d) r
    | none => none
def hex4L (l : List UInt8) : Option (Nat × List UInt8) :=
  if l.length < 4 then none else (hexS 0 (l.take 4)).map fun n => (n, l.drop 4)
def encL (n : Nat) : List UInt8 := (Utf8.encode (n : Int)).data.toList
/-- behind 'u' -/
def uniL (l : List UInt8) : Option (List UInt8 × List UInt8) :=
  match hex4L l with
  | none => none
  | some (n, r) =>
    if 55296 ≤ n ∧ n < 56320 then
      if [92, 117].isPrefixOf r then
        match hex4L (r.drop 2) with
        | none => none
        | some (m, r2) => if 56320 ≤ m ∧ m ≤ 57343 then some (encL (65536 + (n - 55296) * 1024 + (m - 56320)), r2) else none
      else none
    else if 56320 ≤ n ∧ n ≤ 57343 then none else some (encL n, r)
def shortL (c : UInt8) : Option UInt8 :=
  if c = 34 then some 34 else if c = 92 then some 92 else if c = 47 then some 47 else if c = 98 then some 8 else if c = 102 then some 12 else if c = 110 then some 10 else if c = 114 then some 13 else if c = 116 then some 9 else none
/-- behind a backslash -/
def escL : List UInt8 → Option (List UInt8 × List UInt8)
  | [] => none
  | c :: r => match shortL c with
    | some b => some ([b], r)
    | none => if c = 117 then uniL r else none
/-- within quotes -/
def quoL : Nat → List UInt8 → List UInt8 → Option (List UInt8 × List UInt8)
  | 0, _, _ => none
  | _ + 1, [], _ => none
  | n + 1, c :: r, acc =>
    if c.toNat < 32 then none else if c = 34 then some (acc, r)
    else if c = 92 then match escL r with
      | none => none
      | some (b, r2) => quoL n r2 (acc ++ b)
    else quoL n r (acc ++ [c])
/-- from the first quote on -/
def strL : List UInt8 → Option (ByteArray × List UInt8)
  | [] => none
  | c :: r => if c = 34 then (quoL (r.length + 1) r []).map fun p => (ba p.1, p.2) else none

def hasN (nm : List ByteArray) (s : ByteArray) : Bool := nm.any fun x => decide (x.data.toList = s.data.toList)
def placeN (nm : List ByteArray) (s : ByteArray) : Nat := (nm.takeWhile fun x => strLt x s).length
def insA {α : Type} (k : Nat) (x : α) (l : List α) : List α := l.take k ++ x :: l.drop k
mutual
def valL : Nat → List UInt8 → Option (JV × List UInt8)
  | 0, _ => none
  | n + 1, l => match skipL l with
    | [] => none
    | c :: r =>
      if c = 110 then (wordL [110, 117, 108, 108] (c :: r)).map fun r => (.mk 0 0 ⟨#[]⟩ [] [], r)
      else if c = 102 then (wordL [102, 97, 108, 115, 101] (c :: r)).map fun r => (.mk 1 0 ⟨#[]⟩ [] [], r)
      else if c = 116 then (wordL [116, 114, 117, 101] (c :: r)).map fun r => (.mk 2 0 ⟨#[]⟩ [] [], r)
      else if c = 34 then (strL (c :: r)).map fun p => (.mk 4 0 p.1 [] [], p.2)
      else if c = 45 ∨ isD c = true then (numL (c :: r)).map fun p => (.mk 3 p.1 ⟨#[]⟩ [] [], p.2)
      else if c = 91 then (if (skipL r).head? = some 93 then some (.mk 5 0 ⟨#[]⟩ [] [], (skipL r).tail) else arrL n r [])
      else if c = 123 then (if (skipL r).head? = some 125 then some (.mk 6 0 ⟨#[]⟩ [] [], (skipL r).tail) else objL n r [] [])
      else none
def arrL : Nat → List UInt8 → List JV → Option (JV × List UInt8)
  | 0, _, _ => none
  | n + 1, l, xs => match valL n l with
    | none => none
    | some (x, r) => match skipL r with
      | [] => none
      | c :: r2 => if c = 44 then arrL n r2 (xs ++ [x]) else if c = 93 then some (.mk 5 0 ⟨#[]⟩ [] (xs ++ [x]), r2) else none
def objL : Nat → List UInt8 → List ByteArray → List JV → Option (JV × List UInt8)
  | 0, _, _, _ => none
  | n + 1, l, nm, xs => match strL (skipL l) with
    | none => none
    | some (s, r) => match skipL r with
      | [] => none
      | c :: r2 => if c ≠ 58 ∨ hasN nm s = true then none else match valL n r2 with
        | none => none
        | some (x, r3) => match skipL r3 with
          | [] => none
          | c :: r4 =>
            if c = 44 then objL n r4 (insA (placeN nm s) s nm) (insA (placeN nm s) x xs)
            else if c = 125 then some (.mk 6 0 ⟨#[]⟩ (insA (placeN nm s) s nm) (insA (placeN nm s) x xs), r4) else none
end
/-- what Read answers: a value, and an error's number -/
def zeroJ : JV := .mk 0 0 ⟨#[]⟩ [] []
def readF (l : List UInt8) : JV × Int :=
  if 20000 < l.length then (zeroJ, 3) else if Lib.validD l = false then (zeroJ, 2)
  else match valL (2 * l.length + 1) l with
    | none => (zeroJ, 2)
    | some (v, r) => if skipL r = [] then (if formedF 6 v then (v, 0) else (zeroJ, 3)) else (zeroJ, 2)

end Go.Proofs.YtdhilnnohokoeaaDoor
