/- The order of values, plainly. Paths, plainly. -/
import Derived.Test.YtcmfanfkcbjeoaaGreatDoorJD
namespace Go.Proofs.YtcmfanfkcbjeoaaGreatDoor

/-- the first that isn't 0 -/
def orI (a b : Int) : Int := if a = 0 then b else a
def cmpI (a b : Int) : Int := if a < b then -1 else if b < a then 1 else 0
def cmpS (a b : ByteArray) : Int := if strLt a b = true then -1 else if a = b then 0 else 1
/-- members, one by one -/
def membC (f : JV → JV → Int) (k : Int) : List JV → List JV → List ByteArray → List ByteArray → Int
  | [], [], _, _ => 0
  | [], _ :: _, _, _ => -1
  | _ :: _, [], _, _ => 1
  | x :: it, y :: ju, nm, nu => orI (if k = 6 then cmpS (nm.headD ⟨#[]⟩) (nu.headD ⟨#[]⟩) else 0) (orI (f x y) (membC f k it ju nm.tail nu.tail))
/-- the order of values, going down d -/
def cmpF : Nat → JV → JV → Int
  | 0, _, _ => 0
  | d + 1, .mk k n t nm it, .mk q m u nu ju => orI (cmpI k q) (orI (cmpI n m) (orI (cmpS t u) (membC (cmpF d) k it ju nm nu)))

theorem cmpI_self (a : Int) : cmpI a a = 0 := by simp [cmpI]
theorem cmpI_zero {a b : Int} (h : cmpI a b = 0) : a = b := by
  unfold cmpI at h; split at h
  · cases h
  · split at h
    · cases h
    · omega
theorem cmpI_small (a b : Int) : -1 ≤ cmpI a b ∧ cmpI a b ≤ 1 := by
  unfold cmpI
  repeat' split
  all_goals omega
theorem cmpS_small (a b : ByteArray) : -1 ≤ cmpS a b ∧ cmpS a b ≤ 1 := by
  unfold cmpS
  repeat' split
  all_goals omega
theorem orI_small {a b : Int} (ha : -1 ≤ a ∧ a ≤ 1) (hb : -1 ≤ b ∧ b ≤ 1) : -1 ≤ orI a b ∧ orI a b ≤ 1 := by unfold orI; split <;> assumption
theorem membC_small {f : JV → JV → Int} (hf : ∀ x y, -1 ≤ f x y ∧ f x y ≤ 1) (k : Int) : ∀ it ju nm nu, -1 ≤ membC f k it ju nm nu ∧ membC f k it ju nm nu ≤ 1
  | [], [], _, _ => by simp [membC]
  | [], _ :: _, _, _ => by simp [membC]
  | _ :: _, [], _, _ => by simp [membC]
  | x :: it, y :: ju, nm, nu => by
    rw [membC]
    refine orI_small ?_ (orI_small (hf x y) (membC_small hf k it ju _ _))
    split
    · exact cmpS_small _ _
    · omega
theorem cmpF_small : ∀ d a b, -1 ≤ cmpF d a b ∧ cmpF d a b ≤ 1
  | 0, _, _ => by simp [cmpF]
  | d + 1, .mk k n t nm it, .mk q m u nu ju => by
    rw [cmpF]
    exact orI_small (cmpI_small _ _) (orI_small (cmpI_small _ _) (orI_small (cmpS_small _ _) (membC_small (cmpF_small d) _ _ _ _ _)))

/-! where a loop stands -/
theorem memb_end {f : JV → JV → Int} {k : Int} {it ju : List JV} {nm nu : List ByteArray} {j : Nat} (h : ¬ (j < it.length ∧ j < ju.length)) (h1 : j ≤ it.length) (h2 : j ≤ ju.length) :
    membC f k (it.drop j) (ju.drop j) nm nu = cmpI it.length ju.length := by
  by_cases a : j < it.length
  · have b : ju.drop j = [] := List.drop_eq_nil_of_le (by omega)
    rw [b, List.drop_eq_getElem_cons a, membC]
    unfold cmpI; rw [if_neg (by omega), if_pos (by omega)]
  · have a2 : it.drop j = [] := List.drop_eq_nil_of_le (by omega)
    rw [a2]
    by_cases b : j < ju.length
    · rw [List.drop_eq_getElem_cons b, membC]
      unfold cmpI; rw [if_pos (by omega)]
    · have b2 : ju.drop j = [] := List.drop_eq_nil_of_le (by omega)
      rw [b2, membC]
      unfold cmpI; rw [if_neg (by omega), if_neg (by omega)]
theorem memb_step {f : JV → JV → Int} {k : Int} {it ju : List JV} {nm nu : List ByteArray} {j : Nat} {x y : JV} (hx : it[j]? = some x) (hy : ju[j]? = some y) :
    membC f k (it.drop j) (ju.drop j) (nm.drop j) (nu.drop j) = orI (if k = 6 then cmpS (nm.getD j ⟨#[]⟩) (nu.getD j ⟨#[]⟩) else 0) (orI (f x y) (membC f k (it.drop (j + 1)) (ju.drop (j + 1)) (nm.drop (j + 1)) (nu.drop (j + 1)))) := by
  obtain ⟨h1, e1⟩ := List.getElem?_eq_some_iff.1 hx
  obtain ⟨h2, e2⟩ := List.getElem?_eq_some_iff.1 hy
  rw [List.drop_eq_getElem_cons h1, List.drop_eq_getElem_cons h2, membC, e1, e2, List.tail_drop, List.tail_drop]
  have e : ∀ l : List ByteArray, (l.drop j).headD ⟨#[]⟩ = l.getD j ⟨#[]⟩ := fun l => by
    rw [List.headD_eq_head?_getD, List.head?_drop, List.getD_eq_getElem?_getD]
  rw [e, e]

/-! bytes -/
/-- byte by byte -/
def lexC : List UInt8 → List UInt8 → Int
  | [], [] => 0
  | [], _ :: _ => -1
  | _ :: _, [] => 1
  | a :: l, b :: m => if a.toNat < b.toNat then -1 else if b.toNat < a.toNat then 1 else lexC l m
theorem lexC_less : ∀ l m : List UInt8, lexC l m = if Op.bytesLess l m = true then -1 else if l = m then 0 else 1
  | [], [] => by simp [lexC, Op.bytesLess]
  | [], _ :: _ => by simp [lexC, Op.bytesLess]
  | _ :: _, [] => by simp [lexC, Op.bytesLess]
  | a :: l, b :: m => by
    have ih := lexC_less l m
    rw [lexC]
    by_cases h1 : a.toNat < b.toNat
    · have : a < b := UInt8.lt_iff_toNat_lt.2 h1
      rw [if_pos h1, if_pos (by simp [Op.bytesLess, this])]
    · rw [if_neg h1]
      have n1 : ¬ a < b := fun h => h1 (UInt8.lt_iff_toNat_lt.1 h)
      by_cases h2 : b.toNat < a.toNat
      · have : b < a := UInt8.lt_iff_toNat_lt.2 h2
        have ne : a ≠ b := by rintro rfl; omega
        rw [if_pos h2, if_neg (by simp [Op.bytesLess, n1, ne]), if_neg (by simp [ne])]
      · have e : a = b := UInt8.toNat_inj.1 (by omega)
        subst e
        rw [if_neg h2, ih]
        simp [Op.bytesLess]
theorem lexC_cmp (a b : ByteArray) : lexC a.data.toList b.data.toList = cmpS a b := by
  rw [lexC_less]
  unfold cmpS strLt
  rw [ByteArray.toList_eq, ByteArray.toList_eq]
  have e : (a.data.toList = b.data.toList) = (a = b) := by
    apply propext
    constructor
    · intro h; cases a; cases b; exact congrArg ByteArray.mk (Array.toList_inj.1 h)
    · rintro rfl; rfl
  simp only [e]
theorem lex_step {a b : List UInt8} {j : Nat} {c d : UInt8} (hc : a[j]? = some c) (hd : b[j]? = some d) : lexC (a.drop j) (b.drop j) = if c.toNat < d.toNat then -1 else if d.toNat < c.toNat then 1 else lexC (a.drop (j + 1)) (b.drop (j + 1)) := by
  obtain ⟨h1, e1⟩ := List.getElem?_eq_some_iff.1 hc
  obtain ⟨h2, e2⟩ := List.getElem?_eq_some_iff.1 hd
  rw [List.drop_eq_getElem_cons h1, List.drop_eq_getElem_cons h2, lexC, e1, e2]
theorem lex_end {a b : List UInt8} {j : Nat} (h : ¬ (j < a.length ∧ j < b.length)) (h1 : j ≤ a.length) (h2 : j ≤ b.length) : lexC (a.drop j) (b.drop j) = cmpI a.length b.length := by
  by_cases x : j < a.length
  · have y : b.drop j = [] := List.drop_eq_nil_of_le (by omega)
    rw [y, List.drop_eq_getElem_cons x, lexC]
    unfold cmpI; rw [if_neg (by omega), if_pos (by omega)]
  · have x2 : a.drop j = [] := List.drop_eq_nil_of_le (by omega)
    rw [x2]
    by_cases y : j < b.length
    · rw [List.drop_eq_getElem_cons y, lexC]
      unfold cmpI; rw [if_pos (by omega)]
    · have y2 : b.drop j = [] := List.drop_eq_nil_of_le (by omega)
      rw [y2, lexC]
      unfold cmpI; rw [if_neg (by omega), if_neg (by omega)]
theorem strLt_self (a : ByteArray) : strLt a a = false := by
  have h := lexC_less a.data.toList a.data.toList
  have h2 : ∀ l : List UInt8, lexC l l = 0 := by
    intro l
    induction l with
    | nil => rfl
    | cons c l ih => rw [lexC, if_neg (by omega), if_neg (by omega), ih]
  rw [h2] at h
  unfold strLt
  rw [ByteArray.toList_eq]
  cases e : Op.bytesLess a.data.toList a.data.toList with
  | false => rfl
  | true => rw [e] at h; simp at h
theorem cmpS_zero {a b : ByteArray} : cmpS a b = 0 ↔ a = b := by
  constructor
  · intro h
    unfold cmpS at h; split at h
    · cases h
    · split at h
      · assumption
      · cases h
  · rintro rfl; unfold cmpS; rw [strLt_self]; simp

end Go.Proofs.YtcmfanfkcbjeoaaGreatDoor

namespace Go.Proofs.YtcmfanfkcbjeoaaGreatDoor

/-- steps from the place i on, the last one begun at fr -/
def stepsGo (s : ByteArray) : Nat → Nat → Nat → List ByteArray → Option (List ByteArray)
  | 0, _, _, out => some out
  | m + 1, fr, i, out =>
    if i < s.size ∧ s.data.toList[i]? ≠ some 46 then stepsGo s m fr (i + 1) out
    else if i = fr ∨ 60 < i - fr ∨ out.length = 4 ∨ Lib.validD (s.extract fr i).data.toList = false then none
    else stepsGo s m (i + 1) (i + 1) (out ++ [s.extract fr i])
/-- the steps of a path -/
def stepsF (s : ByteArray) : Option (List ByteArray) := stepsGo s (s.size + 1) 0 0 []

theorem stepsGo_len (s : ByteArray) : ∀ m fr i out r, out.length ≤ 4 → stepsGo s m fr i out = some r → r.length ≤ 4
  | 0, _, _, out, r, h, e => by rw [stepsGo] at e; cases e; exact h
  | m + 1, fr, i, out, r, h, e => by
    rw [stepsGo] at e
    split at e
    · exact stepsGo_len s m _ _ _ r h e
    · split at e
      · cases e
      · rename_i hc
        refine stepsGo_len s m _ _ _ r ?_ e
        rw [List.length_append, List.length_singleton]
        have : out.length ≠ 4 := fun h4 => hc (.inr (.inr (.inl h4)))
        omega

/-- digits, from so much on -/
def numGo : List UInt8 → Nat → Int
  | [], n => n
  | c :: l, n => if c.toNat < 48 ∨ 57 < c.toNat then -1 else numGo l (n * 10 + (c.toNat - 48))
/-- the number of a step; -1: it is none -/
def numF (s : ByteArray) : Int := if s.size = 0 ∨ 4 < s.size ∨ 1 < s.size ∧ s.data.toList[0]? = some 48 then -1 else numGo s.data.toList 0

/-- the first place of a name -/
def idxGo (s : ByteArray) : List ByteArray → Nat → Int
  | [], _ => -1
  | n :: l, j => if n = s then j else idxGo s l (j + 1)
/-- the place of a step in a value; -1: there is none -/
def placeF (v : JV) (s : ByteArray) : Int :=
  if v.kind = 5 ∧ numF s < v.items.length then numF s else if v.kind = 6 then idxGo s v.names 0 else -1

/-- going down the steps -/
def walkF : List ByteArray → JV → Option JV
  | [], v => some v
  | s :: l, v => if placeF v s < 0 then none else (v.items[(placeF v s).toNat]?).bind (walkF l)
/-- what lies at a path -/
def getJ (v : JV) (p : ByteArray) : Option JV := (stepsF p).bind fun l => if formedF 6 v = true then walkF l v else none

theorem idxGo_ge (s : ByteArray) : ∀ l j, idxGo s l j = -1 ∨ ∃ q : Nat, idxGo s l j = (j + q : Nat) ∧ q < l.length
  | [], j => .inl rfl
  | n :: l, j => by
    rw [idxGo]; split
    · exact .inr ⟨0, rfl, by simp⟩
    · rcases idxGo_ge s l (j + 1) with h | ⟨q, h, hq⟩
      · exact .inl h
      · exact .inr ⟨q + 1, by rw [h]; congr 1; omega, by simp; omega⟩

end Go.Proofs.YtcmfanfkcbjeoaaGreatDoor
