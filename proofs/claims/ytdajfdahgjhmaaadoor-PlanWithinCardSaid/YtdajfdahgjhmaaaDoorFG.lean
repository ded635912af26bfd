/- Filters, plainly. -/
import Derived.Test.YtdajfdahgjhmaaaDoorFP
import Derived.Test.YtdajfdahgjhmaaaDoorFO
import Derived.Test.YtdajfdahgjhmaaaDoorSA
namespace Go.Proofs.YtdajfdahgjhmaaaDoor

abbrev sAnd : List UInt8 := [36, 97, 110, 100]
abbrev sOr : List UInt8 := [36, 111, 114]
abbrev sNot : List UInt8 := [36, 110, 111, 116]
abbrev sEq : List UInt8 := [36, 101, 113]
abbrev sNe : List UInt8 := [36, 110, 101]
abbrev sLt : List UInt8 := [36, 108, 116]
abbrev sLe : List UInt8 := [36, 108, 101]
abbrev sGt : List UInt8 := [36, 103, 116]
abbrev sGe : List UInt8 := [36, 103, 101]
abbrev sIn : List UInt8 := [36, 105, 110]
abbrev sHas : List UInt8 := [36, 104, 97, 115]
/-- a name is this one -/
def isN (s : ByteArray) (l : List UInt8) : Bool := s.toList == l

/-- a name begins with a dollar -/
def signF (s : ByteArray) : Bool := s.data.toList.head? == some 36
/-- an Item is a list of tests -/
def testsF (v : JV) : Bool := v.names.any signF
/-- a formed test -/
def testF (s : ByteArray) (v : JV) : Bool :=
  if isN s sEq || isN s sNe || isN s sLt || isN s sLe || isN s sGt || isN s sGe then true
  else if isN s sIn then decide (v.kind = 5) else if isN s sHas then decide (v.kind = 2) || decide (v.kind = 1) else false

/-- a sum, from so much on, if all are there -/
def sumO : Nat → List (Option Nat) → Option Nat
  | n, [] => some n
  | _, none :: _ => none
  | n, some k :: l => sumO (n + k) l
/-- conditions of a clause -/
def clauseF (cnt : JV → Option Nat) (s : ByteArray) (v : JV) : Option Nat :=
  if isN s sAnd || isN s sOr then (if v.kind = 5 ∧ v.items.length ≠ 0 then sumO 1 (v.items.map cnt) else none)
  else if isN s sNot then (cnt v).map (· + 1)
  else if signF s then none
  else if (stepsF s).isNone then none
  else if testsF v && !((v.names.zip v.items).all fun p => testF p.1 p.2) then none else some 1
/-- conditions of a filter; none: it is none -/
def countF : Nat → JV → Option Nat
  | 0, _ => none
  | d + 1, f => if f.kind = 6 then sumO 0 ((f.names.zip f.items).map fun p => clauseF (countF d) p.1 p.2) else none
/-- what Check answers -/
def checkF (f : JV) : Int := if formedF 6 f = true then (match countF 6 f with | none => 2 | some n => if 12 < n then 3 else 0) else 2

/-- a clause holds -/
def oneF (pass : ByteArray → JV → Option JV → Bool) (eq : JV → JV → Bool) (h : JV → Bool) (s : ByteArray) (v doc : JV) : Bool :=
  if isN s sAnd then v.items.all h else if isN s sOr then v.items.any h else if isN s sNot then !h v
  else if testsF v then (v.names.zip v.items).all fun p => pass p.1 p.2 (getF doc s)
  else match getF doc s with
    | some x => eq x v
    | none => false
/-- a filter holds -/
def holdsF (pass : ByteArray → JV → Option JV → Bool) (eq : JV → JV → Bool) : Nat → JV → JV → Bool
  | 0, _, _ => false
  | d + 1, f, doc => (f.names.zip f.items).all fun p => oneF pass eq (fun g => holdsF pass eq d g doc) p.1 p.2 doc

/-- what the numbers of a comparison tell -/
def byName (s : ByteArray) (c : Int) (other : Bool) : Bool :=
  if isN s sEq then decide (c = 0) else if isN s sNe then decide (c ≠ 0) else if isN s sLt then decide (c < 0) else if isN s sLe then decide (c ≤ 0) else if isN s sGt then decide (0 < c) else other
/-- a test passes, as the program has it -/
noncomputable def passP (s : ByteArray) (v : JV) (x : Option JV) : Bool :=
  if isN s sHas then (x.isSome == decide (v.kind = 2))
  else match x with
    | none => isN s sNe
    | some x => if isN s sIn then v.items.any (sameB x) else byName s (cmpF 6 x v) (decide (0 ≤ cmpF 6 x v))
/-- a test passes, as the reference has it -/
def passR (s : ByteArray) (v : JV) (x : Option JV) : Bool :=
  if isN s sHas then (x.isSome && decide (v.kind = 2) || !x.isSome && decide (v.kind = 1))
  else match x with
    | none => isN s sNe
    | some x => byName s (cmpF 6 x v) (if isN s sGe then decide (0 ≤ cmpF 6 x v) else v.items.any fun y => decide (cmpF 6 x y = 0))
def eqR (x v : JV) : Bool := decide (cmpF 6 x v = 0)

/-- what Holds answers -/
noncomputable def HoldsP (f doc : JV) : Bool := decide (checkF f = 0) && decide (doc.kind = 6) && formedF 6 doc && holdsF passP sameB 6 f doc
def HoldsR (f doc : JV) : Bool := decide (checkF f = 0) && formedF 6 doc && decide (doc.kind = 6) && holdsF passR eqR 6 f doc

/-! alike: compared as 0 -/
theorem orI_iff {a b : Int} : orI a b = 0 ↔ a = 0 ∧ b = 0 := by
  unfold orI; split
  · rename_i h; exact ⟨fun e => ⟨h, e⟩, fun e => e.2⟩
  · rename_i h; exact ⟨fun e => absurd e h, fun e => absurd e.1 h⟩
theorem memb_zero {f : JV → JV → Int} {P : JV → Prop} (hf : ∀ x y, P x → P y → (f x y = 0 ↔ x = y)) (k : Int) : ∀ (it ju : List JV) (nm nu : List ByteArray), (∀ x ∈ it, P x) → (∀ x ∈ ju, P x) → nm.length = (if k = 6 then it.length else 0) → nu.length = (if k = 6 then ju.length else 0) → (membC f k it ju nm nu = 0 ↔ it = ju ∧ nm = nu)
  | [], [], nm, nu, _, _, h1, h2 => by
    have e1 : nm = [] := List.length_eq_zero_iff.1 (by rw [h1]; split <;> rfl)
    have e2 : nu = [] := List.length_eq_zero_iff.1 (by rw [h2]; split <;> rfl)
    simp [membC, e1, e2]
  | [], _ :: _, _, _, _, _, _, _ => by simp [membC]
  | _ :: _, [], _, _, _, _, _, _ => by simp [membC]
  | x :: it, y :: ju, nm, nu, hi, hj, h1, h2 => by
    rw [membC, orI_iff, orI_iff, hf x y (hi x (by simp)) (hj y (by simp))]
    by_cases hk : k = 6
    · rw [if_pos hk] at h1 h2 ⊢
      cases nm with
      | nil => simp at h1
      | cons a nm =>
        cases nu with
        | nil => simp at h2
        | cons b nu =>
          have ih := memb_zero hf k it ju nm nu (fun z hz => hi z (by simp [hz])) (fun z hz => hj z (by simp [hz])) (by rw [if_pos hk]; simpa using h1) (by rw [if_pos hk]; simpa using h2)
          simp only [List.headD_cons, List.tail_cons, cmpS_zero, ih, List.cons.injEq]
          constructor
          · rintro ⟨a, b, c, d⟩; exact ⟨⟨b, c⟩, a, d⟩
          · rintro ⟨⟨b, c⟩, a, d⟩; exact ⟨a, b, c, d⟩
    · rw [if_neg hk] at h1 h2 ⊢
      have e1 : nm = [] := List.length_eq_zero_iff.1 h1
      have e2 : nu = [] := List.length_eq_zero_iff.1 h2
      subst e1 e2
      have ih := memb_zero hf k it ju [] [] (fun z hz => hi z (by simp [hz])) (fun z hz => hj z (by simp [hz])) (by simp [hk]) (by simp [hk])
      simp only [List.tail_nil, ih, List.cons.injEq, and_true, true_and]
theorem cmp_zero : ∀ (d : Nat) (a b : JV), formedF d a = true → formedF d b = true → (cmpF d a b = 0 ↔ a = b)
  | 0, a, b, h, _ => by simp [formedF] at h
  | d + 1, .mk k n t nm it, .mk q m u nu ju, ha, hb => by
    have ht : ∀ {k n : Int} {t : ByteArray} {nm : List ByteArray} {it : List JV}, formedF (d + 1) (.mk k n t nm it) = true → (∀ x ∈ it, formedF d x = true) ∧ nm.length = (if k = 6 then it.length else 0) := by
      intro k n t nm it h
      by_cases hk : k < 5
      · rw [formedF, if_pos hk, Bool.and_eq_true] at h
        have h1 := of_decide_eq_true h.2
        have e1 := List.length_eq_zero_iff.1 h1.1
        have e2 := List.length_eq_zero_iff.1 h1.2
        subst e1 e2
        exact ⟨fun x hx => by simp at hx, by rw [if_neg (by omega)]; rfl⟩
      · have := formed_body h hk
        exact ⟨this.2.2.2.1, this.2.1⟩
    obtain ⟨ia, la⟩ := ht ha
    obtain ⟨ib, lb⟩ := ht hb
    rw [cmpF, orI_iff, orI_iff, orI_iff, JV.ext_iff', cmpS_zero]
    constructor
    · rintro ⟨h1, h2, h3, h4⟩
      have e1 := cmpI_zero h1
      subst e1
      rw [memb_zero (fun x y hx hy => cmp_zero d x y hx hy) k it ju nm nu ia ib la lb] at h4
      exact ⟨rfl, cmpI_zero h2, h3, h4.2, h4.1⟩
    · rintro ⟨rfl, rfl, rfl, rfl, rfl⟩
      exact ⟨cmpI_self _, cmpI_self _, rfl, (memb_zero (fun x y hx hy => cmp_zero d x y hx hy) k it it nm nm ia ib la lb).2 ⟨rfl, rfl⟩⟩

theorem formed_mono : ∀ (d : Nat) (v : JV), formedF d v = true → formedF (d + 1) v = true
  | 0, v, h => by simp [formedF] at h
  | d + 1, .mk k n t nm it, h => by
    rw [formedF, Bool.and_eq_true] at h ⊢
    refine ⟨h.1, ?_⟩
    by_cases hk : k < 5
    · rw [if_pos hk] at h ⊢; exact h.2
    · rw [if_neg hk, Bool.and_eq_true] at h ⊢
      refine ⟨h.2.1, ?_⟩
      rw [List.all_eq_true]
      intro x hx
      exact formed_mono d x (List.all_eq_true.1 h.2.2 x hx)
theorem formed_up {d e : Nat} {v : JV} (h : formedF d v = true) (hde : d ≤ e) : formedF e v = true := by
  induction hde with
  | refl => exact h
  | step _ ih => exact formed_mono _ v ih

end Go.Proofs.YtdajfdahgjhmaaaDoor
