/- Plans, plainly: ranges, and the best of all indexes. -/
import Derived.Test.YtcmfanfkcbjeoaaGreatDoorHC
import Derived.Test.YtcmfanfkcbjeoaaGreatDoorKE
import Derived.Test.YtcmfanfkcbjeoaaGreatDoorEB
namespace Go.Proofs.YtcmfanfkcbjeoaaGreatDoor

/-- the end that two tests make, of which the first one counts -/
def boundF (L : List AskP) (p : List UInt8) (f : Fd) (n1 n2 : ByteArray) (one : Bool) : Option (List UInt8) :=
  match firstF L f.1 n1 with
  | some v => some (p ++ partK v f.2 ++ (if one = true then [255] else []))
  | none => match firstF L f.1 n2 with
    | some v => some (p ++ partK v f.2 ++ (if one = true then [] else [255]))
    | none => none
def lowF (L : List AskP) (p : List UInt8) (f : Fd) : Option (List UInt8) := if f.2 = true then boundF L p f bLt bLe true else boundF L p f bGt bGe true
def highF (L : List AskP) (p : List UInt8) (f : Fd) : Option (List UInt8) := if f.2 = true then boundF L p f bGt bGe false else boundF L p f bLt bLe false
/-- a range, and its rank -/
abbrev SpanR := (List UInt8 × List UInt8) × Nat
def spanE (L : List AskP) (p : List UInt8) (r : Nat) (f : Fd) : SpanR := (((lowF L p f).getD p, (highF L p f).getD (p ++ [255])), if ((lowF L p f).isSome || (highF L p f).isSome) = true then r + 1 else r)
def spanP (L : List AskP) : List Fd → List UInt8 → Nat → SpanR
  | [], p, r => ((p, p ++ [255]), r)
  | f :: fs, p, r => match firstF L f.1 bEq with
    | some v => spanP L fs (p ++ partK v f.2) (r + 2)
    | none => spanE L p r f
def spanF (L : List AskP) (fs : List Fd) : SpanR := if (fs.all fun x => someB L x.1) = true then spanP L fs [] 0 else (([], []), 0)
theorem spanP_step {L : List AskP} {fs : List Fd} {j : Nat} {f : Fd} (h : fs[j]? = some f) (p : List UInt8) (r : Nat) : spanP L (fs.drop j) p r = match firstF L f.1 bEq with
    | some v => spanP L (fs.drop (j + 1)) (p ++ partK v f.2) (r + 2)
    | none => spanE L p r f := by
  obtain ⟨h1, e1⟩ := List.getElem?_eq_some_iff.1 h
  rw [List.drop_eq_getElem_cons h1, e1, spanP]

/-- an index's rank, and the best of all -/
def rankI (L : List AskP) (x : IX) : Nat := if formI x = true then (spanF L x.fields).2 else 0
abbrev BestS := Option (Nat × (List UInt8 × List UInt8)) × Nat
def stepM (L : List AskP) (i : Nat) (x : IX) (b : BestS) : BestS := if b.2 < (spanF L x.fields).2 then (some (i, (spanF L x.fields).1), (spanF L x.fields).2) else b
def bestM (L : List AskP) : Nat → List IX → BestS → BestS
  | _, [], b => b
  | i, x :: l, b => bestM L (i + 1) l (stepM L i x b)
theorem bestM_step {L : List AskP} {l : List IX} {j : Nat} {x : IX} (h : l[j]? = some x) (b : BestS) : bestM L j (l.drop j) b = bestM L (j + 1) (l.drop (j + 1)) (stepM L j x b) := by
  obtain ⟨h1, e1⟩ := List.getElem?_eq_some_iff.1 h
  rw [List.drop_eq_getElem_cons h1, e1, bestM]
theorem best_at {L : List AskP} (rs : List Nat) : ∀ (l : List IX) (j : Nat) (b : BestS), (∀ (i : Nat) x, l[i]? = some x → rs[j + i]? = some (spanF L x.fields).2) → BestAt rs j (b.1.map fun q => q.1) b.2 → BestAt rs (j + l.length) ((bestM L j l b).1.map fun q => q.1) (bestM L j l b).2
  | [], j, b, _, h => h
  | x :: l, j, b, hr, h => by
    rw [bestM, List.length_cons, show j + (l.length + 1) = j + 1 + l.length by omega]
    refine best_at rs l (j + 1) _ (fun i y hy => ?_) ?_
    · rw [show j + 1 + i = j + (i + 1) by omega]
      exact hr (i + 1) y (by simpa using hy)
    · have h0 := hr 0 x rfl
      rw [Nat.add_zero] at h0
      unfold stepM
      by_cases hm : b.2 < (spanF L x.fields).2
      · rw [if_pos hm]; exact h.more h0 hm
      · rw [if_neg hm]; exact h.less h0 hm
/-- what Make answers: its error, its best -/
def makeE (f : JV) (l : List IX) : Int := if checkF f = 0 then (if (l.all formI) = true then 0 else 2) else checkF f
def makeB (f : JV) (l : List IX) : Option (Nat × (List UInt8 × List UInt8)) × Nat := bestM (asksF 6 f) 0 l (none, 0)
/-- what Rank answers -/
def rankR (f : JV) (x : IX) : Nat := if checkF f = 0 then rankI (asksF 6 f) x else 0
theorem best_law {f : JV} {l : List IX} (hc : checkF f = 0) (hl : (l.all formI) = true) : BestAt (l.map (rankR f)) l.length ((makeB f l).1.map fun q => q.1) (makeB f l).2 := by
  have := best_at (L := asksF 6 f) (l.map (rankR f)) l 0 (none, 0) (fun i x hx => by
    rw [Nat.zero_add, List.getElem?_map, hx]
    show some (rankR f x) = _
    unfold rankR rankI
    rw [if_pos hc, if_pos (List.all_eq_true.1 hl x (List.mem_of_getElem? hx))]) (BestAt.start _)
  rw [Nat.zero_add] at this
  exact this

end Go.Proofs.YtcmfanfkcbjeoaaGreatDoor
