/- Plans, plainly: what a filter asks of its paths; ranks and ranges. -/
import Derived.Test.YtcmfanfkcbjeoaaGreatDoorFG
import Derived.Test.YtcmfanfkcbjeoaaGreatDoorFY
namespace Go.Proofs.YtcmfanfkcbjeoaaGreatDoor

/-- a path, a test's name, its value -/
abbrev AskP := ByteArray × ByteArray × JV
abbrev bEq : ByteArray := ⟨#[36, 101, 113]⟩
abbrev bGt : ByteArray := ⟨#[36, 103, 116]⟩
abbrev bGe : ByteArray := ⟨#[36, 103, 101]⟩
abbrev bLt : ByteArray := ⟨#[36, 108, 116]⟩
abbrev bLe : ByteArray := ⟨#[36, 108, 101]⟩
/-- what a clause asks of its path -/
def asksV (s : ByteArray) (v : JV) : List AskP := if testsF v = true then (v.names.zip v.items).map fun p => (s, p.1, p.2) else [(s, bEq, v)]
def asksC (g : JV → List AskP) (s : ByteArray) (v : JV) : List AskP := if isN s sAnd = true then v.items.flatMap g else if signF s = true then [] else asksV s v
/-- what a filter asks, in the order in which it is gathered -/
def asksF : Nat → JV → List AskP
  | 0, _ => []
  | d + 1, f => (f.names.zip f.items).flatMap fun p => asksC (asksF d) p.1 p.2
/-- the first test of that name, of that path -/
def firstF (l : List AskP) (p t : ByteArray) : Option JV := (l.find? fun a => decide (a.1 = p ∧ a.2.1 = t)).map fun a => a.2.2
def askedF (l : List AskP) (p : ByteArray) : Bool := l.any fun a => decide (a.1 = p)
theorem firstF_nil (p t : ByteArray) : firstF [] p t = none := rfl
theorem firstF_app (a b : List AskP) (p t : ByteArray) : firstF (a ++ b) p t = match firstF a p t with | some v => some v | none => firstF b p t := by
  unfold firstF
  rw [List.find?_append]
  cases a.find? fun a => decide (a.1 = p ∧ a.2.1 = t) <;> rfl
theorem firstF_flat {α : Type} (g : α → List AskP) (p t : ByteArray) : ∀ l : List α, firstF (l.flatMap g) p t = l.findSome? fun x => firstF (g x) p t
  | [] => rfl
  | x :: l => by
    rw [List.flatMap_cons, firstF_app, firstF_flat g p t l, List.findSome?_cons]
    cases firstF (g x) p t <;> rfl
theorem firstF_map (s p t : ByteArray) : ∀ l : List (ByteArray × JV), firstF (l.map fun q => (s, q.1, q.2)) p t = if s = p then l.findSome? (fun q => if q.1 = t then some q.2 else none) else none
  | [] => by simp [firstF_nil]
  | q :: l => by
    have ih := firstF_map s p t l
    unfold firstF at ih ⊢
    rw [List.map_cons, List.find?_cons]
    by_cases h1 : s = p
    · by_cases h2 : q.1 = t
      · simp [h1, h2]
      · rw [if_pos h1] at ih ⊢
        rw [List.findSome?_cons, if_neg h2]
        simp only [h1, h2, and_false, decide_false]
        rw [← ih, h1]
    · rw [if_neg h1] at ih ⊢
      simp only [h1, false_and, decide_false]
      rw [← ih]
/-- the reference's first -/
def firstC (g : JV → Option JV) (p t s : ByteArray) (v : JV) : Option JV :=
  if isN s sAnd = true then v.items.findSome? g
  else if s = p then (if testsF v = true then (v.names.zip v.items).findSome? (fun q => if q.1 = t then some q.2 else none) else if t = bEq then some v else none) else none
def firstR (p t : ByteArray) : Nat → JV → Option JV
  | 0, _ => none
  | d + 1, f => (f.names.zip f.items).findSome? fun q => firstC (firstR p t d) p t q.1 q.2
theorem first_law {p : ByteArray} (t : ByteArray) (hp : signF p = false) : ∀ d f, firstR p t d f = firstF (asksF d f) p t
  | 0, _ => rfl
  | d + 1, f => by
    have ih := first_law t hp d
    rw [firstR, asksF, firstF_flat]
    congr 1
    funext q
    unfold firstC asksC
    by_cases h1 : isN q.1 sAnd = true
    · rw [if_pos h1, if_pos h1, firstF_flat]
      congr 1
      funext x
      exact ih x
    · rw [if_neg h1, if_neg h1]
      by_cases h2 : q.1 = p
      · have hs : signF q.1 = false := by rw [h2]; exact hp
        rw [if_pos h2, hs]
        simp only [Bool.false_eq_true, if_false]
        unfold asksV
        by_cases h3 : testsF q.2 = true
        · rw [if_pos h3, if_pos h3, firstF_map, if_pos h2]
        · rw [if_neg h3, if_neg h3]
          unfold firstF
          by_cases h4 : t = bEq
          · simp [h2, h4]
          · have h5 : ¬ bEq = t := fun e => h4 e.symm
            simp [h4, h5]
      · rw [if_neg h2]
        split
        · rfl
        · unfold asksV
          split
          · rw [firstF_map, if_neg h2]
          · unfold firstF; simp [h2]

end Go.Proofs.YtcmfanfkcbjeoaaGreatDoor
