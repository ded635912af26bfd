/- Answers, plainly: a value put at steps into Objects; what is answered of a value. -/
import Derived.Test.YtkhhbckpddkhlaaDoorAB
import Derived.Test.YtkhhbckpddkhlaaDoorRA
namespace Go.Proofs.YtkhhbckpddkhlaaDoor
open Go.RowKit

/-- an Object without members -/
def objE : JV := .mk 6 0 ⟨#[]⟩ [] []
theorem objE_formed : formedF 6 objE = true := by decide +kernel
/-- what stands at a name; an Object without members where there is none -/
def innerJ (v : JV) (s : ByteArray) : JV := match hasN v.names s with
  | true => (v.items[placeN v.names s]?).getD objE
  | false => objE
/-- names and items, with one more, or one in another's place -/
def setN (nm : List ByteArray) (s : ByteArray) : List ByteArray := match hasN nm s with
  | true => nm
  | false => insA (placeN nm s) s nm
def setI (nm : List ByteArray) (it : List JV) (s : ByteArray) (y : JV) : List JV := match hasN nm s with
  | true => it.set (placeN nm s) y
  | false => insA (placeN nm s) y it
def setJ (v : JV) (s : ByteArray) (y : JV) : JV := .mk 6 0 ⟨#[]⟩ (setN v.names s) (setI v.names v.items s y)
/-- a value put at steps -/
def putJ : List ByteArray → JV → JV → Option JV
  | [], _, _ => none
  | [s], v, x => if v.kind = 6 then some (setJ v s x) else none
  | s :: t :: l, v, x => if v.kind = 6 then (match putJ (t :: l) (innerJ v s) x with
      | none => none
      | some y => some (setJ v s y)) else none
/-- what is put at the first step -/
def withinJ (l : List ByteArray) (u x : JV) : Option JV := match l with
  | [] => some x
  | t :: l => putJ (t :: l) u x
theorem putJ_step (s : ByteArray) (l : List ByteArray) (v x : JV) : putJ (s :: l) v x = if v.kind = 6 then (withinJ l (innerJ v s) x).map (setJ v s) else none := by
  cases l with
  | nil => rw [putJ]; rfl
  | cons t l =>
    have h : withinJ (t :: l) (innerJ v s) x = putJ (t :: l) (innerJ v s) x := rfl
    rw [putJ, h]
    split
    · cases putJ (t :: l) (innerJ v s) x <;> rfl
    · rfl
/-- one field more -/
def projS (v out : JV) (p : ByteArray) : JV := match getJ v p with
  | none => out
  | some x => match stepsF p with
    | none => out
    | some l => match putJ l out x with
      | none => out
      | some y => match formedF 6 y with
        | true => y
        | false => out
/-- what is answered of a value -/
def projF (fs : List ByteArray) (v : JV) : JV := match fs with
  | [] => v
  | p :: l => (p :: l).foldl (projS v) objE
theorem projS_formed {v out : JV} {p : ByteArray} (h : formedF 6 out = true) : formedF 6 (projS v out p) = true := by
  unfold projS
  split
  · exact h
  · split
    · exact h
    · split
      · exact h
      · split
        · assumption
        · exact h
theorem get_steps {v u : JV} {p : ByteArray} (h : getJ v p = some u) : ∃ l, stepsF p = some l := by
  unfold getJ at h
  rw [Option.bind_eq_some_iff] at h
  obtain ⟨l, hl, _⟩ := h
  exact ⟨l, hl⟩
theorem rises_up : ∀ {nm : List ByteArray}, rises nm = true → upN nm
  | [], _ => List.Pairwise.nil
  | [_], _ => List.pairwise_singleton _ _
  | a :: b :: l, h => by
    rw [rises, Bool.and_eq_true] at h
    have hu := rises_up h.2
    refine List.Pairwise.cons ?_ hu
    intro x hx
    rcases List.mem_cons.1 hx with e | hm
    · rw [e]; exact h.1
    · exact strLt_trans h.1 (List.rel_of_pairwise_cons hu hm)
/-- of a formed Object -/
theorem obj_facts {v : JV} (hf : ∃ d, formedF d v = true) (hk : v.kind = 6) : upN v.names ∧ v.names.length = v.items.length ∧ v.items.length ≤ 24 ∧ ∀ x ∈ v.items, ∃ d, formedF d x = true := by
  obtain ⟨d, hf⟩ := hf
  obtain ⟨k, n, t, nm, it⟩ := v
  cases d with
  | zero => simp [formedF] at hf
  | succ d =>
    have hk6 : k = 6 := hk
    obtain ⟨h1, h2, h3, h4, h5⟩ := formed_body hf (by omega)
    rw [if_pos hk6] at h2
    exact ⟨rises_up h5, h2, h1, fun x hx => ⟨d, h4 x hx⟩⟩
theorem inner_formed {v : JV} (hf : ∃ d, formedF d v = true) (hk : v.kind = 6) (s : ByteArray) : ∃ d, formedF d (innerJ v s) = true := by
  unfold innerJ
  split
  · cases h : v.items[placeN v.names s]? with
    | none => exact ⟨6, objE_formed⟩
    | some x => exact (obj_facts hf hk).2.2.2 x (List.mem_of_getElem? h)
  · exact ⟨6, objE_formed⟩
theorem stepsGo_ne (s : ByteArray) : ∀ m fr i out r, (out ≠ [] ∨ m + i = s.size + 1 ∧ i ≤ s.size) → stepsGo s m fr i out = some r → r ≠ []
  | 0, _, i, out, r, h, e => by
    rw [stepsGo] at e
    cases e
    rcases h with h | ⟨h1, h2⟩
    · exact h
    · omega
  | m + 1, fr, i, out, r, h, e => by
    rw [stepsGo] at e
    split at e
    · rename_i hc
      exact stepsGo_ne s m _ _ _ r (h.imp id fun h => ⟨by omega, by omega⟩) e
    · split at e
      · cases e
      · exact stepsGo_ne s m _ _ _ r (.inl (by simp)) e
theorem steps_ne {p : ByteArray} {l : List ByteArray} (h : stepsF p = some l) : l ≠ [] := stepsGo_ne p (p.size + 1) 0 0 [] l (.inr ⟨rfl, Nat.zero_le _⟩) h
/-- the names and items that come out, place by place -/
theorem set_lt {nm : List ByteArray} {it : List JV} {s : ByteArray} {y : JV} {j : Nat} (hl : nm.length = it.length) (h : j < placeN nm s) : (setN nm s)[j]? = nm[j]? ∧ (setI nm it s y)[j]? = it[j]? := by
  have hle := placeN_le nm s
  unfold setN setI insA
  cases hasN nm s with
  | true => exact ⟨rfl, by simp only; rw [List.getElem?_set_ne (by omega)]⟩
  | false =>
    simp only
    constructor
    · rw [List.getElem?_append_left (by rw [List.length_take]; omega), List.getElem?_take_of_lt h]
    · rw [List.getElem?_append_left (by rw [List.length_take]; omega), List.getElem?_take_of_lt h]
theorem set_at {nm : List ByteArray} {it : List JV} {s : ByteArray} {y : JV} (hu : upN nm) (hl : nm.length = it.length) : (setN nm s)[placeN nm s]? = some s ∧ (setI nm it s y)[placeN nm s]? = some y := by
  have hle := placeN_le nm s
  unfold setN setI insA
  cases hh : hasN nm s with
  | true =>
    have hm := (placeN_mem hu s).1 ((hasN_iff nm s).1 hh)
    have hlt := (List.getElem?_eq_some_iff.1 hm).1
    exact ⟨hm, by simp only; rw [List.getElem?_set_self (by omega)]⟩
  | false =>
    simp only
    constructor
    · rw [List.getElem?_append_right (by rw [List.length_take]; omega), List.length_take, Nat.min_eq_left hle, Nat.sub_self]; rfl
    · rw [List.getElem?_append_right (by rw [List.length_take]; omega), List.length_take, Nat.min_eq_left (by omega), Nat.sub_self]; rfl
theorem set_gt {nm : List ByteArray} {it : List JV} {s : ByteArray} {y : JV} {j : Nat} (hl : nm.length = it.length) (h : placeN nm s ≤ j) : (setN nm s)[if hasN nm s = true then j else j + 1]? = nm[j]? ∧ (hasN nm s = true → placeN nm s ≠ j → (setI nm it s y)[j]? = it[j]?) ∧ (hasN nm s = false → (setI nm it s y)[j + 1]? = it[j]?) := by
  have hle := placeN_le nm s
  unfold setN setI insA
  cases hh : hasN nm s with
  | true => exact ⟨rfl, (fun _ h => by simp only; rw [List.getElem?_set_ne h]), fun h => by cases h⟩
  | false =>
    refine ⟨?_, (fun h => by cases h), fun _ => ?_⟩
    · simp only [Bool.false_eq_true, if_false]
      rw [List.getElem?_append_right (by rw [List.length_take]; omega), List.length_take, Nat.min_eq_left hle, show j + 1 - placeN nm s = (j - placeN nm s) + 1 by omega, List.getElem?_cons_succ, List.getElem?_drop]
      congr 1; omega
    · simp only
      rw [List.getElem?_append_right (by rw [List.length_take]; omega), List.length_take, Nat.min_eq_left (by omega), show j + 1 - placeN nm s = (j - placeN nm s) + 1 by omega, List.getElem?_cons_succ, List.getElem?_drop]
      congr 1; omega

end Go.Proofs.YtkhhbckpddkhlaaDoor
