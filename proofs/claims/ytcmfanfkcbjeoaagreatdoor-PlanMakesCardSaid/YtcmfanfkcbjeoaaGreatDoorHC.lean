/- Plans, plainly: the first one of the greatest rank. -/
import Derived.Test.YtcmfanfkcbjeoaaGreatDoorHB
namespace Go.Proofs.YtcmfanfkcbjeoaaGreatDoor

/-- the first of the greatest among the first j, if one is above 0 -/
structure BestAt (rs : List Nat) (j : Nat) (b : Option Nat) (m : Nat) : Prop where
  le : ∀ (i r : Nat), i < j → rs[i]? = some r → r ≤ m
  none_ : b = none → m = 0
  some_ : ∀ k, b = some k → k < j ∧ rs[k]? = some m ∧ 0 < m ∧ ∀ (i r : Nat), i < k → rs[i]? = some r → r < m
theorem BestAt.start (rs : List Nat) : BestAt rs 0 none 0 := ⟨fun i r h => by omega, fun _ => rfl, fun k h => by cases h⟩
theorem BestAt.more {rs : List Nat} {j : Nat} {b : Option Nat} {m r : Nat} (h : BestAt rs j b m) (hr : rs[j]? = some r) (hm : m < r) : BestAt rs (j + 1) (some j) r := by
  refine ⟨fun i q hi hq => ?_, (fun e => by cases e), fun k hk => ?_⟩
  · by_cases e : i = j
    · subst e; rw [hr] at hq; cases hq; exact Nat.le_refl _
    · exact Nat.le_of_lt (Nat.lt_of_le_of_lt (h.le i q (by omega) hq) hm)
  · obtain rfl := Option.some.inj hk
    exact ⟨by omega, hr, by omega, fun i q hi hq => Nat.lt_of_le_of_lt (h.le i q hi hq) hm⟩
theorem BestAt.less {rs : List Nat} {j : Nat} {b : Option Nat} {m r : Nat} (h : BestAt rs j b m) (hr : rs[j]? = some r) (hm : ¬ m < r) : BestAt rs (j + 1) b m := by
  refine ⟨fun i q hi hq => ?_, h.none_, fun k hk => ?_⟩
  · by_cases e : i = j
    · subst e; rw [hr] at hq; cases hq; omega
    · exact h.le i q (by omega) hq
  · obtain ⟨h1, h2⟩ := h.some_ k hk
    exact ⟨by omega, h2⟩
/-- twice the fields asked by $eq from the front, and one more -/
def rankF (L : List AskP) : List (ByteArray × Bool) → Nat → Nat
  | [], r => r
  | x :: xs, r => if (firstF L x.1 bEq).isSome = true then rankF L xs (r + 2)
      else if ((firstF L x.1 bGt).isSome || (firstF L x.1 bGe).isSome || (firstF L x.1 bLt).isSome || (firstF L x.1 bLe).isSome) = true then r + 1 else r
/-- a path is asked so that there is a value -/
def someF (L : List AskP) (p : ByteArray) : Bool := (firstF L p bEq).isSome || (firstF L p bGt).isSome || (firstF L p bGe).isSome || (firstF L p bLt).isSome || (firstF L p bLe).isSome
def spanRank (L : List AskP) (fs : List (ByteArray × Bool)) : Nat := if fs.all (fun x => someF L x.1) = true then rankF L fs 0 else 0
/-- a path is asked one of five -/
def someB (L : List AskP) (p : ByteArray) : Bool := [bEq, bGt, bGe, bLt, bLe].any fun t => (firstF L p t).isSome

end Go.Proofs.YtcmfanfkcbjeoaaGreatDoor
