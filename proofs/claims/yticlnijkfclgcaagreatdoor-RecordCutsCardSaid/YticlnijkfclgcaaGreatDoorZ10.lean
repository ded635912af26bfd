/- Reading, plainly: what a text's bytes are read as. Reading, plainly: places in a text; how far it is read; the reader's box. Reading, plainly: what ParseInt answers of digits; where a name stands among rising ones. -/
import Derived.Test.YticlnijkfclgcaaGreatDoorZ06
import Derived.Deep.AppendLies
import Derived.Laws.Cover4
import Derived.Lib.ParseIntB
import Derived.Sort.Walk0
import Derived.Lib.RowBridge
namespace Go.Proofs.YticlnijkfclgcaaGreatDoor
open Go.RowKit

def isB (c : UInt8) : Bool := c == 32 || c == 9 || c == 10 || c == 13
/-- behind the blanks -/
def skipL : List UInt8 → List UInt8
  | [] => []
  | c :: r => if isB c then skipL r else c :: r
def wordL (p l : List UInt8) : Option (List UInt8) := if p.isPrefixOf l then some (l.drop p.length) else none
/-- a number, from the sign on -/
def digL (neg : Bool) (ds r : List UInt8) : Option (Int × List UInt8) :=
  if ds = [] ∨ 1 < ds.length ∧ ds.head? = some 48 then none
  else if neg then (if valD ds ≤ 9223372036854775808 then some (-(valD ds : Int), r) else none)
  else if valD ds < 9223372036854775808 then some ((valD ds : Int), r) else none
def numL (l : List UInt8) : Option (Int × List UInt8) :=
  if l.head? = some 45 then digL true (l.tail.takeWhile isD) (l.tail.dropWhile isD) else digL false (l.takeWhile isD) (l.dropWhile isD)
def hexV (c : UInt8) : Option Nat :=
  if 48 ≤ c.toNat ∧ c.toNat ≤ 57 then some (c.toNat - 48) else if 97 ≤ c.toNat ∧ c.toNat ≤ 102 then some (c.toNat - 87) else if 65 ≤ c.toNat ∧ c.toNat ≤ 70 then some (c.toNat - 55) else none
/-- digits, one behind the other -/
def hexS : Nat → List UInt8 → Option Nat
  | a, [] => some a
  | a, c :: r => match hexV c with
    | some d => hexS (a * 16 + d) r
    | none => none
def hex4L (l : List UInt8) : Option (Nat × List UInt8) :=
  if l.length < 4 then none else (hexS 0 (l.take 4)).map fun n => (n, l.drop 4)
def encL (n : Nat) : List UInt8 := (Utf8.encode (n : Int)).data.toList
/-- behind 'u' -/
def uniL (l : List UInt8) : Option (List UInt8 × List UInt8) :=
  match hex4L l with
  | none => none
  | some (n, r) =>
    if 55296 ≤ n ∧ n < 56320 then
      if [92, 117].isPrefixOf r then
        match hex4L (r.drop 2) with
        | none => none
        | some (m, r2) => if 56320 ≤ m ∧ m ≤ 57343 then some (encL (65536 + (n - 55296) * 1024 + (m - 56320)), r2) else none
      else none
    else if 56320 ≤ n ∧ n ≤ 57343 then none else some (encL n, r)
def shortL (c : UInt8) : Option UInt8 :=
  if c = 34 then some 34 else if c = 92 then some 92 else if c = 47 then some 47 else if c = 98 then some 8 else if c = 102 then some 12 else if c = 110 then some 10 else if c = 114 then some 13 else if c = 116 then some 9 else none
/-- behind a backslash -/
def escL : List UInt8 → Option (List UInt8 × List UInt8)
  | [] => none
  | c :: r => match shortL c with
    | some b => some ([b], r)
    | none => if c = 117 then uniL r else none
/-- within quotes -/
def quoL : Nat → List UInt8 → List UInt8 → Option (List UInt8 × List UInt8)
  | 0, _, _ => none
  | _ + 1, [], _ => none
  | n + 1, c :: r, acc =>
    if c.toNat < 32 then none else if c = 34 then some (acc, r)
    else if c = 92 then match escL r with
      | none => none
      | some (b, r2) => quoL n r2 (acc ++ b)
    else quoL n r (acc ++ [c])
/-- from the first quote on -/
def strL : List UInt8 → Option (ByteArray × List UInt8)
  | [] => none
  | c :: r => if c = 34 then (quoL (r.length + 1) r []).map fun p => (ba p.1, p.2) else none
def hasN (nm : List ByteArray) (s : ByteArray) : Bool := nm.any fun x => decide (x.data.toList = s.data.toList)
def placeN (nm : List ByteArray) (s : ByteArray) : Nat := (nm.takeWhile fun x => strLt x s).length
def insA {α : Type} (k : Nat) (x : α) (l : List α) : List α := l.take k ++ x :: l.drop k
mutual
def valL : Nat → List UInt8 → Option (JV × List UInt8)
  | 0, _ => none
  | n + 1, l => match skipL l with
    | [] => none
    | c :: r =>
      if c = 110 then (wordL [110, 117, 108, 108] (c :: r)).map fun r => (.mk 0 0 ⟨#[]⟩ [] [], r)
      else if c = 102 then (wordL [102, 97, 108, 115, 101] (c :: r)).map fun r => (.mk 1 0 ⟨#[]⟩ [] [], r)
      else if c = 116 then (wordL [116, 114, 117, 101] (c :: r)).map fun r => (.mk 2 0 ⟨#[]⟩ [] [], r)
      else if c = 34 then (strL (c :: r)).map fun p => (.mk 4 0 p.1 [] [], p.2)
      else if c = 45 ∨ isD c = true then (numL (c :: r)).map fun p => (.mk 3 p.1 ⟨#[]⟩ [] [], p.2)
      else if c = 91 then (if (skipL r).head? = some 93 then some (.mk 5 0 ⟨#[]⟩ [] [], (skipL r).tail) else arrL n r [])
      else if c = 123 then (if (skipL r).head? = some 125 then some (.mk 6 0 ⟨#[]⟩ [] [], (skipL r).tail) else objL n r [] [])
      else none
def arrL : Nat → List UInt8 → List JV → Option (JV × List UInt8)
  | 0, _, _ => none
  | n + 1, l, xs => match valL n l with
    | none => none
    | some (x, r) => match skipL r with
      | [] => none
      | c :: r2 => if c = 44 then arrL n r2 (xs ++ [x]) else if c = 93 then some (.mk 5 0 ⟨#[]⟩ [] (xs ++ [x]), r2) else none
def objL : Nat → List UInt8 → List ByteArray → List JV → Option (JV × List UInt8)
  | 0, _, _, _ => none
  | n + 1, l, nm, xs => match strL (skipL l) with
    | none => none
    | some (s, r) => match skipL r with
      | [] => none
      | c :: r2 => if c ≠ 58 ∨ hasN nm s = true then none else match valL n r2 with
        | none => none
        | some (x, r3) => match skipL r3 with
          | [] => none
          | c :: r4 =>
            if c = 44 then objL n r4 (insA (placeN nm s) s nm) (insA (placeN nm s) x xs)
            else if c = 125 then some (.mk 6 0 ⟨#[]⟩ (insA (placeN nm s) s nm) (insA (placeN nm s) x xs), r4) else none
end
/-- what Read answers: a value, and an error's number -/
def zeroJ : JV := .mk 0 0 ⟨#[]⟩ [] []
def readF (l : List UInt8) : JV × Int :=
  if 20000 < l.length then (zeroJ, 3) else if Lib.validD l = false then (zeroJ, 2)
  else match valL (2 * l.length + 1) l with
    | none => (zeroJ, 2)
    | some (v, r) => if skipL r = [] then (if formedF 6 v then (v, 0) else (zeroJ, 3)) else (zeroJ, 2)
end Go.Proofs.YticlnijkfclgcaaGreatDoor

namespace Go.Proofs.YticlnijkfclgcaaGreatDoor
open Go.RowKit

theorem skipL_len : ∀ l : List UInt8, (skipL l).length ≤ l.length
  | [] => Nat.le_refl _
  | c :: r => by
    unfold skipL; split
    · have := skipL_len r; rw [List.length_cons]; omega
    · exact Nat.le_refl _
theorem skipL_skip : ∀ l : List UInt8, skipL (skipL l) = skipL l
  | [] => rfl
  | c :: r => by
    by_cases h : isB c = true
    · rw [skipL, if_pos h, skipL_skip r]
    · rw [skipL, if_neg h, skipL, if_neg h]
theorem skipL_yes {c : UInt8} {r : List UInt8} (h : isB c = true) : skipL (c :: r) = skipL r := by rw [skipL, if_pos h]
theorem skipL_no {c : UInt8} {r : List UInt8} (h : isB c = false) : skipL (c :: r) = c :: r := by rw [skipL, if_neg (by rw [h]; simp)]
/-- what stands from a place on -/
def dl (s : ByteArray) (i : Nat) : List UInt8 := s.data.toList.drop i
theorem dl_len (s : ByteArray) (i : Nat) : (dl s i).length = s.size - i := by unfold dl; rw [List.length_drop, size_list]
theorem dl_cons {s : ByteArray} {i : Nat} (h : i < s.size) : dl s i = s[i] :: dl s (i + 1) := by
  unfold dl
  rw [List.drop_eq_getElem_cons (by rw [size_list]; exact h)]
  rfl
theorem dl_end (s : ByteArray) : dl s s.size = [] := by unfold dl; exact List.drop_eq_nil_iff.2 (by rw [size_list]; exact Nat.le_refl _)
theorem dl_drop (s : ByteArray) (i k : Nat) : (dl s i).drop k = dl s (i + k) := by unfold dl; rw [List.drop_drop]
theorem dl_split {s : ByteArray} {i : Nat} {c : UInt8} {r : List UInt8} (h : dl s i = c :: r) : ∃ hi : i < s.size, s[i] = c ∧ dl s (i + 1) = r := by
  have hi : i < s.size := by
    have := dl_len s i
    rw [h, List.length_cons] at this; omega
  rw [dl_cons hi] at h
  exact ⟨hi, (List.cons.inj h).1, (List.cons.inj h).2⟩
theorem dl_take {s : ByteArray} {i j : Nat} : (s.extract i j).data.toList = (dl s i).take (j - i) := by
  unfold dl
  rw [ByteArray.data_extract, Array.toList_extract, List.extract_eq_take_drop]
theorem wordL_some {p l r : List UInt8} (h : wordL p l = some r) : l = p ++ r := by
  unfold wordL at h
  split at h
  · rename_i hp
    obtain ⟨t, rfl⟩ := List.isPrefixOf_iff_prefix.1 hp
    have := Option.some.inj h
    rw [List.drop_left] at this
    rw [this]
  · cases h
theorem digL_rest {neg : Bool} {ds r r2 : List UInt8} {v : Int} (h : digL neg ds r = some (v, r2)) : r2 = r ∧ ds ≠ [] ∧ -9223372036854775808 ≤ v ∧ v ≤ 9223372036854775807 := by
  unfold digL at h
  split at h
  · cases h
  · rename_i hd
    have hne : ds ≠ [] := fun e => hd (.inl e)
    split at h
    · split at h
      · have := Option.some.inj h
        simp only [Prod.mk.injEq] at this
        exact ⟨this.2.symm, hne, by omega, by omega⟩
      · cases h
    · split at h
      · have := Option.some.inj h
        simp only [Prod.mk.injEq] at this
        exact ⟨this.2.symm, hne, by omega, by omega⟩
      · cases h
theorem take_drop_len (p : UInt8 → Bool) : ∀ l : List UInt8, (l.takeWhile p).length + (l.dropWhile p).length = l.length := fun l => by
  rw [← List.length_append, List.takeWhile_append_dropWhile]
theorem numL_len {l r : List UInt8} {v : Int} (h : numL l = some (v, r)) : r.length < l.length := by
  unfold numL at h
  split at h
  · rename_i hh
    obtain ⟨rfl, hne, _⟩ := digL_rest h
    have h1 := take_drop_len isD l.tail
    have h2 := List.length_pos_iff.2 hne
    have h3 : l.tail.length ≤ l.length := by simp
    omega
  · obtain ⟨rfl, hne, _⟩ := digL_rest h
    have h1 := take_drop_len isD l
    have h2 := List.length_pos_iff.2 hne
    omega
theorem hex4L_len {l r : List UInt8} {n : Nat} (h : hex4L l = some (n, r)) : l.length = r.length + 4 := by
  unfold hex4L at h
  split at h
  · cases h
  · obtain ⟨m, _, e⟩ := Option.map_eq_some_iff.1 h
    simp only [Prod.mk.injEq] at e
    rw [← e.2, List.length_drop]; omega
theorem four_of (s : ByteArray) (h : s.size ≤ 4) : s.data.toList.length ≤ 4 := by rw [size_list]; exact h
theorem encL_eq (n : Nat) : encL n = (Utf8.encode (n : Int)).data.toList := by rw [encL]
theorem encL_len (n : Nat) : (encL n).length ≤ 4 := by
  have h := encode_size_le (n : Int)
  rw [encL_eq]
  generalize Utf8.encode (n : Int) = s at h ⊢
  exact four_of s h
theorem uniL_len {l r b : List UInt8} (h : uniL l = some (b, r)) : r.length < l.length ∧ b.length ≤ 4 := by
  unfold uniL at h
  split at h
  · cases h
  · rename_i n r1 h1
    have e1 := hex4L_len h1
    split at h
    · split at h
      · split at h
        · cases h
        · rename_i m r2 h2
          have e2 := hex4L_len h2
          rw [List.length_drop] at e2
          split at h
          · have := Option.some.inj h
            simp only [Prod.mk.injEq] at this
            rw [← this.1, ← this.2]
            exact ⟨by omega, encL_len _⟩
          · cases h
      · cases h
    · split at h
      · cases h
      · have := Option.some.inj h
        simp only [Prod.mk.injEq] at this
        rw [← this.1, ← this.2]
        exact ⟨by omega, encL_len _⟩
theorem escL_len {l r b : List UInt8} (h : escL l = some (b, r)) : r.length < l.length ∧ b.length ≤ 4 := by
  cases l with
  | nil => cases h
  | cons c l =>
    rw [escL] at h
    split at h
    · have := Option.some.inj h
      simp only [Prod.mk.injEq] at this
      rw [← this.1, ← this.2]
      simp
    · split at h
      · have := uniL_len h
        rw [List.length_cons]; omega
      · cases h
theorem quoL_len : ∀ (n : Nat) (l acc t r : List UInt8), quoL n l acc = some (t, r) → r.length < l.length ∧ t.length + 4 * r.length ≤ acc.length + 4 * l.length
  | 0, _, _, _, _, h => by cases h
  | _ + 1, [], _, _, _, h => by cases h
  | n + 1, c :: l, acc, t, r, h => by
    unfold quoL at h
    split at h
    · cases h
    · split at h
      · have := Option.some.inj h
        simp only [Prod.mk.injEq] at this
        rw [← this.1, ← this.2, List.length_cons]; omega
      · split at h
        · split at h
          · cases h
          · rename_i b r2 h2
            have h3 := escL_len h2
            have h4 := quoL_len n _ _ _ _ h
            rw [List.length_append] at h4
            rw [List.length_cons]; omega
        · have h4 := quoL_len n _ _ _ _ h
          rw [List.length_append, List.length_singleton] at h4
          rw [List.length_cons]; omega
theorem strL_len {l r : List UInt8} {t : ByteArray} (h : strL l = some (t, r)) : r.length < l.length ∧ t.size ≤ 4 * l.length := by
  cases l with
  | nil => cases h
  | cons c l =>
    rw [strL] at h
    split at h
    · obtain ⟨⟨u, r2⟩, h1, e⟩ := Option.map_eq_some_iff.1 h
      simp only [Prod.mk.injEq] at e
      have := quoL_len _ _ _ _ _ h1
      rw [← e.1, ← e.2, ba_size, List.length_cons]
      rw [List.length_nil] at this
      omega
    · cases h
mutual
theorem valL_len : ∀ (n : Nat) (l r : List UInt8) (v : JV), valL n l = some (v, r) → r.length < l.length
  | 0, _, _, _, h => by simp [valL] at h
  | n + 1, l, r, v, h => by
    unfold valL at h
    have hs := skipL_len l
    split at h
    · cases h
    · rename_i c r0 he
      rw [he, List.length_cons] at hs
      have hk := skipL_len r0
      repeat' split at h
      · obtain ⟨r1, h1, e⟩ := Option.map_eq_some_iff.1 h
        simp only [Prod.mk.injEq] at e
        have := wordL_some h1
        have := congrArg List.length this
        simp at this
        rw [← e.2]; omega
      · obtain ⟨r1, h1, e⟩ := Option.map_eq_some_iff.1 h
        simp only [Prod.mk.injEq] at e
        have := wordL_some h1
        have := congrArg List.length this
        simp at this
        rw [← e.2]; omega
      · obtain ⟨r1, h1, e⟩ := Option.map_eq_some_iff.1 h
        simp only [Prod.mk.injEq] at e
        have := wordL_some h1
        have := congrArg List.length this
        simp at this
        rw [← e.2]; omega
      · obtain ⟨⟨t, r1⟩, h1, e⟩ := Option.map_eq_some_iff.1 h
        simp only [Prod.mk.injEq] at e
        have := strL_len h1
        rw [List.length_cons] at this
        rw [← e.2]; omega
      · obtain ⟨⟨t, r1⟩, h1, e⟩ := Option.map_eq_some_iff.1 h
        simp only [Prod.mk.injEq] at e
        have := numL_len h1
        rw [List.length_cons] at this
        rw [← e.2]; omega
      · have := Option.some.inj h
        simp only [Prod.mk.injEq] at this
        rw [← this.2, List.length_tail]; omega
      · have := arrL_len n _ _ _ _ h; omega
      · have := Option.some.inj h
        simp only [Prod.mk.injEq] at this
        rw [← this.2, List.length_tail]; omega
      · have := objL_len n _ _ _ _ _ h; omega
      · cases h
theorem arrL_len : ∀ (n : Nat) (l r : List UInt8) (xs : List JV) (v : JV), arrL n l xs = some (v, r) → r.length < l.length
  | 0, _, _, _, _, h => by simp [arrL] at h
  | n + 1, l, r, xs, v, h => by
    unfold arrL at h
    split at h
    · cases h
    · rename_i x r1 h1
      have h2 := valL_len n _ _ _ h1
      have h3 := skipL_len r1
      split at h
      · cases h
      · rename_i c r2 he
        rw [he, List.length_cons] at h3
        split at h
        · have := arrL_len n _ _ _ _ h; omega
        · split at h
          · have := Option.some.inj h
            simp only [Prod.mk.injEq] at this
            rw [← this.2]; omega
          · cases h
theorem objL_len : ∀ (n : Nat) (l r : List UInt8) (nm : List ByteArray) (xs : List JV) (v : JV), objL n l nm xs = some (v, r) → r.length < l.length
  | 0, _, _, _, _, _, h => by simp [objL] at h
  | n + 1, l, r, nm, xs, v, h => by
    unfold objL at h
    have h0 := skipL_len l
    split at h
    · cases h
    · rename_i s r1 h1
      have h2 := strL_len h1
      have h3 := skipL_len r1
      split at h
      · cases h
      · rename_i c r2 he
        rw [he, List.length_cons] at h3
        split at h
        · cases h
        · split at h
          · cases h
          · rename_i x r3 h4
            have h5 := valL_len n _ _ _ h4
            have h6 := skipL_len r3
            split at h
            · cases h
            · rename_i c4 r4 he4
              rw [he4, List.length_cons] at h6
              split at h
              · have := objL_len n _ _ _ _ _ h; omega
              · split at h
                · have := Option.some.inj h
                  simp only [Prod.mk.injEq] at this
                  rw [← this.2]; omega
                · cases h
end

end Go.Proofs.YticlnijkfclgcaaGreatDoor

namespace Go.Proofs.YticlnijkfclgcaaGreatDoor
open Go.RowKit

def valA (a : Nat) (ds : List UInt8) : Nat := ds.foldl (fun a c => a * 10 + (c.toNat - 48)) a
theorem valA_cons (a : Nat) (c : UInt8) (r : List UInt8) : valA a (c :: r) = valA (a * 10 + (c.toNat - 48)) r := by rw [valA, valA, List.foldl_cons]
theorem valA_ge : ∀ (ds : List UInt8) (a : Nat), a ≤ valA a ds
  | [], a => Nat.le_refl _
  | c :: r, a => by rw [valA_cons]; have := valA_ge r (a * 10 + (c.toNat - 48)); omega
theorem uintM_dig : ∀ (ds : List UInt8) (a : Nat), (∀ c ∈ ds, isD c = true) → a ≤ 18446744073709551615 →
    Lib.parseUintM 18446744073709551615 a ds = if valA a ds ≤ 18446744073709551615 then .ok (valA a ds) else .range
  | [], a, _, ha => by rw [Lib.parseUintM, show valA a [] = a from rfl, if_pos ha]
  | c :: r, a, hd, ha => by
    have hc : 48 ≤ c.toNat ∧ c.toNat ≤ 57 := of_decide_eq_true (hd c (by simp))
    have hg := valA_ge r (a * 10 + (c.toNat - 48))
    rw [Lib.parseUintM, if_pos hc, valA_cons]
    by_cases h1 : 1844674407370955162 ≤ a
    · rw [if_pos h1, if_neg (by omega)]
    rw [if_neg h1]
    by_cases h2 : 18446744073709551615 < a * 10 + (c.toNat - 48)
    · rw [if_pos h2, if_neg (by omega)]
    rw [if_neg h2, uintM_dig r _ (fun x hx => hd x (by simp [hx])) (by omega)]
theorem uint_dig {ds : List UInt8} (hd : ∀ c ∈ ds, isD c = true) (hne : ds ≠ []) : Lib.parseUintB 64 ds = if valD ds ≤ 18446744073709551615 then .ok (valD ds) else .range := by
  unfold Lib.parseUintB
  rw [if_neg hne, show (2 : Nat) ^ 64 - 1 = 18446744073709551615 from rfl, uintM_dig ds 0 hd (by decide)]
  rfl
theorem parse_int (c : UInt8) (r : List UInt8) : Lib.parseIntB 64 (c :: r) = (match Lib.parseUintB 64 (if c.toNat = 43 ∨ c.toNat = 45 then r else c :: r) with
    | .syntax => .syntax
    | .range => .range
    | .ok u => if ¬ c.toNat = 45 ∧ 9223372036854775808 ≤ u then .range else if c.toNat = 45 ∧ 9223372036854775808 < u then .range else .ok (if c.toNat = 45 then -(u : Int) else u)) := rfl
theorem parse_pos {ds : List UInt8} (hd : ∀ c ∈ ds, isD c = true) (hne : ds ≠ []) : Lib.parseIntB 64 ds = if valD ds < 9223372036854775808 then .ok (valD ds : Int) else .range := by
  cases ds with
  | nil => exact absurd rfl hne
  | cons c r =>
    have hc : 48 ≤ c.toNat ∧ c.toNat ≤ 57 := of_decide_eq_true (hd c (by simp))
    have h1 : ¬ (c.toNat = 43 ∨ c.toNat = 45) := by omega
    have h2 : ¬ c.toNat = 45 := by omega
    rw [parse_int, if_neg h1, uint_dig hd hne]
    generalize valD (c :: r) = v
    by_cases h3 : v ≤ 18446744073709551615
    · rw [if_pos h3]
      dsimp only
      rw [if_neg (show ¬ (c.toNat = 45 ∧ 9223372036854775808 < v) from fun h => h2 h.1), if_neg h2]
      by_cases h4 : v < 9223372036854775808
      · rw [if_pos h4, if_neg (by omega)]
      · rw [if_neg h4, if_pos ⟨h2, by omega⟩]
    · rw [if_neg h3, if_neg (by omega)]
theorem parse_neg {ds : List UInt8} (hd : ∀ c ∈ ds, isD c = true) (hne : ds ≠ []) : Lib.parseIntB 64 (45 :: ds) = if valD ds ≤ 9223372036854775808 then .ok (-(valD ds : Int)) else .range := by
  have h2 : (45 : UInt8).toNat = 45 := rfl
  rw [parse_int, if_pos (.inr h2), uint_dig hd hne]
  generalize valD ds = v
  by_cases h3 : v ≤ 18446744073709551615
  · rw [if_pos h3]
    dsimp only
    rw [if_neg (show ¬ (¬ (45 : UInt8).toNat = 45 ∧ 9223372036854775808 ≤ v) from fun h => h.1 h2), if_pos h2]
    by_cases h4 : v ≤ 9223372036854775808
    · rw [if_pos h4, if_neg (by omega)]
    · rw [if_neg h4, if_pos ⟨h2, by omega⟩]
  · rw [if_neg h3, if_neg (by omega)]
/-- names that rise -/
def upN (nm : List ByteArray) : Prop := nm.Pairwise fun a b => strLt a b = true
def tbR (s : ByteArray) : List UInt8 := s.data.toList
theorem tbR_inj {a b : ByteArray} (h : tbR a = tbR b) : a = b := by cases a; cases b; exact congrArg ByteArray.mk (Array.toList_inj.1 h)
theorem strLt_tbR (a b : ByteArray) : strLt a b = decide (tbR a < tbR b) := by unfold strLt tbR; rw [ByteArray.toList_eq, ByteArray.toList_eq, bytesLess_eq]
theorem strLt_trans {a b c : ByteArray} (h : strLt a b = true) (k : strLt b c = true) : strLt a c = true := by
  rw [strLt_tbR] at *
  exact decide_eq_true (List.lt_trans (of_decide_eq_true h) (of_decide_eq_true k))
theorem strLt_irrefl (a : ByteArray) : strLt a a = false := by
  rw [strLt_tbR]; exact decide_eq_false (List.lt_irrefl _)
theorem strLt_total {a b : ByteArray} (h : strLt a b = false) (hne : a ≠ b) : strLt b a = true := by
  rw [strLt_tbR] at *
  have h1 : ¬ tbR a < tbR b := of_decide_eq_false h
  have h2 : tbR b ≤ tbR a := List.not_lt.1 h1
  refine decide_eq_true ?_
  rcases List.le_iff_lt_or_eq.1 h2 with h3 | h3
  · exact h3
  · exact absurd (tbR_inj h3.symm) hne
theorem hasN_iff (nm : List ByteArray) (s : ByteArray) : hasN nm s = true ↔ s ∈ nm := by
  unfold hasN
  rw [List.any_eq_true]
  refine ⟨fun ⟨x, hx, h⟩ => ?_, fun h => ⟨s, h, decide_eq_true rfl⟩⟩
  rw [← tbR_inj (of_decide_eq_true h)]; exact hx
theorem placeN_le (nm : List ByteArray) (s : ByteArray) : placeN nm s ≤ nm.length := by
  unfold placeN
  induction nm with
  | nil => simp
  | cons x l ih => rw [List.takeWhile_cons]; split <;> simp <;> omega
theorem placeN_lt : ∀ {nm : List ByteArray} {s : ByteArray} {t : Nat} {x : ByteArray}, t < placeN nm s → nm[t]? = some x → strLt x s = true := by
  intro nm s
  unfold placeN
  induction nm with
  | nil => intro t x h; simp at h
  | cons y l ih =>
    intro t x h hx
    rw [List.takeWhile_cons] at h
    split at h
    · rename_i hy
      cases t with
      | zero => simp at hx; subst hx; exact hy
      | succ t => rw [List.length_cons] at h; exact ih (t := t) (by omega) (by simpa using hx)
    · simp at h
theorem placeN_at : ∀ {nm : List ByteArray} {s x : ByteArray}, nm[placeN nm s]? = some x → strLt x s = false := by
  intro nm s
  unfold placeN
  induction nm with
  | nil => intro x h; simp at h
  | cons y l ih =>
    intro x h
    rw [List.takeWhile_cons] at h
    split at h
    · rw [List.length_cons] at h; exact ih (by simpa using h)
    · rename_i hy
      simp at h; subst h; simpa using hy
theorem placeN_ge {nm : List ByteArray} (hu : upN nm) {s : ByteArray} {t : Nat} {x : ByteArray} (h : placeN nm s ≤ t) (hx : nm[t]? = some x) : strLt x s = false := by
  have ht : t < nm.length := (List.getElem?_eq_some_iff.1 hx).1
  have hp : placeN nm s < nm.length := by omega
  have h1 := placeN_at (List.getElem?_eq_getElem hp)
  rcases Nat.lt_or_ge (placeN nm s) t with h2 | h2
  · cases e : strLt x s with
    | false => rfl
    | true =>
      have h3 := (List.pairwise_iff_getElem.1 hu) (placeN nm s) t hp ht h2
      rw [(List.getElem?_eq_some_iff.1 hx).2] at h3
      rw [strLt_trans h3 e] at h1; cases h1
  · obtain rfl : t = placeN nm s := by omega
    exact placeN_at hx
theorem placeN_mem {nm : List ByteArray} (hu : upN nm) (s : ByteArray) : s ∈ nm ↔ nm[placeN nm s]? = some s := by
  refine ⟨fun h => ?_, fun h => List.mem_of_getElem? h⟩
  obtain ⟨t, ht, e⟩ := List.mem_iff_getElem.1 h
  have hx : nm[t]? = some s := by rw [List.getElem?_eq_getElem ht, e]
  have h1 : placeN nm s ≤ t := by
    rcases Nat.lt_or_ge t (placeN nm s) with h2 | h2
    · have := placeN_lt h2 hx; rw [strLt_irrefl] at this; cases this
    · exact h2
  have hp : placeN nm s < nm.length := by omega
  have h2 := placeN_at (List.getElem?_eq_getElem hp)
  rcases Nat.lt_or_ge (placeN nm s) t with h3 | h3
  · have h4 := (List.pairwise_iff_getElem.1 hu) (placeN nm s) t hp ht h3
    rw [e, h2] at h4; cases h4
  · rw [show placeN nm s = t by omega]; exact hx
theorem insA_len {α : Type} (k : Nat) (x : α) (l : List α) (h : k ≤ l.length) : (insA k x l).length = l.length + 1 := by
  unfold insA; rw [List.length_append, List.length_cons, List.length_take, List.length_drop]; omega
theorem upN_ins {nm : List ByteArray} (hu : upN nm) {s : ByteArray} (hs : s ∉ nm) : upN (insA (placeN nm s) s nm) := by
  unfold upN insA
  rw [List.pairwise_append]
  refine ⟨hu.sublist (List.take_sublist _ _), ?_, ?_⟩
  · rw [List.pairwise_cons]
    refine ⟨fun y hy => ?_, hu.sublist (List.drop_sublist _ _)⟩
    obtain ⟨t, ht, e⟩ := List.mem_iff_getElem.1 hy
    rw [List.getElem_drop] at e
    have hx : nm[placeN nm s + t]? = some y := by rw [List.getElem?_eq_getElem (by rw [List.length_drop] at ht; omega), e]
    exact strLt_total (placeN_ge hu (Nat.le_add_right _ _) hx) (fun h => hs (h ▸ List.mem_of_getElem? hx))
  · intro a ha b hb
    obtain ⟨t, ht, e⟩ := List.mem_iff_getElem.1 ha
    rw [List.getElem_take] at e
    have ht2 : t < placeN nm s := by rw [List.length_take] at ht; omega
    have hx : nm[t]? = some a := by rw [List.getElem?_eq_getElem (by rw [List.length_take] at ht; omega), e]
    have h1 := placeN_lt ht2 hx
    rcases List.mem_cons.1 hb with rfl | hb
    · exact h1
    · obtain ⟨q, hq, e2⟩ := List.mem_iff_getElem.1 hb
      rw [List.getElem_drop] at e2
      have hq2 : placeN nm s + q < nm.length := by rw [List.length_drop] at hq; omega
      have := (List.pairwise_iff_getElem.1 hu) t (placeN nm s + q) (by omega) hq2 (by omega)
      rw [e2] at this
      obtain ⟨_, e3⟩ := List.getElem?_eq_some_iff.1 hx
      rw [e3] at this
      exact this
end Go.Proofs.YticlnijkfclgcaaGreatDoor
