/- Reading, plainly: what ParseInt answers of digits; where a name stands among rising ones. -/
import Derived.Test.YtdhilnnohokoeaaDoorRB
import Derived.Lib.ParseIntB
import Derived.Sort.Walk0
import Derived.Lib.RowBridge
namespace Go.Proofs.YtdhilnnohokoeaaDoor
open Go.RowKit

def valA (a : Nat) (ds : List UInt8) : Nat := ds.foldl (fun a c => a * 10 + (c.toNat - 48)) a
theorem valA_cons (a : Nat) (c : UInt8) (r : List UInt8) : valA a (c :: r) = valA (a * 10 + (c.toNat - 48)) r := by rw [valA, valA, List.foldl_cons]
theorem valA_snoc (a : Nat) (c : UInt8) (r : List UInt8) : valA a (r ++ [c]) = valA a r * 10 + (c.toNat - 48) := by rw [valA, valA, List.foldl_append, List.foldl_cons, List.foldl_nil]
theorem valA_ge : ∀ (ds : List UInt8) (a : Nat), a ≤ valA a ds
  | [], a => Nat.le_refl _
  | c :: r, a => by rw [valA_cons]; have := valA_ge r (a * 10 + (c.toNat - 48)); omega
theorem uintM_dig : ∀ (ds : List UInt8) (a : Nat), (∀ c ∈ ds, isD c = true) → a ≤ 18446744073709551615 →
    Lib.parseUintM 18446744073709551615 a ds = if valA a ds ≤ 18446744073709551615 then .ok (valA a ds) else .range
  | [], a, _, ha => by rw [Lib.parseUintM, show valA a [] = a from rfl, if_pos ha]
  | c :: r, a, hd, ha => by
    have hc : 48 ≤ c.toNat ∧ c.toNat ≤ 57 := of_decide_eq_true (hd c (by simp))
    have hg := valA_ge r (a * 10 + (c.toNat - 48))
    rw [Lib.parseUintM, if_pos hc, valA_cons]
    by_cases h1 : 1844674407370955162 ≤ a
    · rw [if_pos h1, if_neg (by omega)]
    rw [if_neg h1]
    by_cases h2 : 18446744073709551615 < a * 10 + (c.toNat - 48)
    · rw [if_pos h2, if_neg (by omega)]
    rw [if_neg h2, uintM_dig r _ (fun x hx => hd x (by simp [hx])) (by omega)]
theorem uint_dig {ds : List UInt8} (hd : ∀ c ∈ ds, isD c = true) (hne : ds ≠ []) : Lib.parseUintB 64 ds = if valD ds ≤ 18446744073709551615 then .ok (valD ds) else .range := by
  unfold Lib.parseUintB
  rw [if_neg hne, show (2 : Nat) ^ 64 - 1 = 18446744073709551615 from rfl, uintM_dig ds 0 hd (by decide)]
  rfl
theorem parse_int (c : UInt8) (r : List UInt8) : Lib.parseIntB 64 (c :: r) = (match Lib.parseUintB 64 (if c.toNat = 43 ∨ c.toNat = 45 then r else c :: r) with
    | .syntax => .syntax
    | .range => .range
    | .ok u => if ¬ c.toNat = 45 ∧ 9223372036854775808 ≤ u then .range else if c.toNat = 45 ∧ 9223372036854775808 < u then .range else .ok (if c.toNat = 45 then -(u : Int) else u)) := rfl
theorem parse_pos {ds : List UInt8} (hd : ∀ c ∈ ds, isD c = true) (hne : ds ≠ []) : Lib.parseIntB 64 ds = if valD ds < 9223372036854775808 then .ok (valD ds : Int) else .range := by
  cases ds with
  | nil => exact absurd rfl hne
  | cons c r =>
    have hc : 48 ≤ c.toNat ∧ c.toNat ≤ 57 := of_decide_eq_true (hd c (by simp))
    have h1 : ¬ (c.toNat = 43 ∨ c.toNat = 45) := by omega
    have h2 : ¬ c.toNat = 45 := by omega
    rw [parse_int, if_neg h1, uint_dig hd hne]
    generalize valD (c :: r) = v
    by_cases h3 : v ≤ 18446744073709551615
    · rw [if_pos h3]
      dsimp only
      rw [if_neg (show ¬ (c.toNat = 45 ∧ 9223372036854775808 < v) from fun h => h2 h.1), if_neg h2]
      by_cases h4 : v < 9223372036854775808
      · rw [if_pos h4, if_neg (by omega)]
      · rw [if_neg h4, if_pos ⟨h2, by omega⟩]
    · rw [if_neg h3, if_neg (by omega)]
theorem parse_neg {ds : List UInt8} (hd : ∀ c ∈ ds, isD c = true) (hne : ds ≠ []) : Lib.parseIntB 64 (45 :: ds) = if valD ds ≤ 9223372036854775808 then .ok (-(valD ds : Int)) else .range := by
  have h2 : (45 : UInt8).toNat = 45 := rfl
  rw [parse_int, if_pos (.inr h2), uint_dig hd hne]
  generalize valD ds = v
  by_cases h3 : v ≤ 18446744073709551615
  · rw [if_pos h3]
    dsimp only
    rw [if_neg (show ¬ (¬ (45 : UInt8).toNat = 45 ∧ 9223372036854775808 ≤ v) from fun h => h.1 h2), if_pos h2]
    by_cases h4 : v ≤ 9223372036854775808
    · rw [if_pos h4, if_neg (by omega)]
    · rw [if_neg h4, if_pos ⟨h2, by omega⟩]
  · rw [if_neg h3, if_neg (by omega)]
theorem parse_none : Lib.parseIntB 64 [45] = .syntax := rfl

/-- names that rise -/
def upN (nm : List ByteArray) : Prop := nm.Pairwise fun a b => strLt a b = true
def tbR (s : ByteArray) : List UInt8 := s.data.toList
theorem tbR_inj {a b : ByteArray} (h : tbR a = tbR b) : a = b := by cases a; cases b; exact congrArg ByteArray.mk (Array.toList_inj.1 h)
theorem strLt_tbR (a b : ByteArray) : strLt a b = decide (tbR a < tbR b) := by unfold strLt tbR; rw [ByteArray.toList_eq, ByteArray.toList_eq, bytesLess_eq]
theorem strLt_trans {a b c : ByteArray} (h : strLt a b = true) (k : strLt b c = true) : strLt a c = true := by
  rw [strLt_tbR] at *
  exact decide_eq_true (List.lt_trans (of_decide_eq_true h) (of_decide_eq_true k))
theorem strLt_irrefl (a : ByteArray) : strLt a a = false := by
  rw [strLt_tbR]; exact decide_eq_false (List.lt_irrefl _)
theorem strLt_total {a b : ByteArray} (h : strLt a b = false) (hne : a ≠ b) : strLt b a = true := by
  rw [strLt_tbR] at *
  have h1 : ¬ tbR a < tbR b := of_decide_eq_false h
  have h2 : tbR b ≤ tbR a := List.not_lt.1 h1
  refine decide_eq_true ?_
  rcases List.le_iff_lt_or_eq.1 h2 with h3 | h3
  · exact h3
  · exact absurd (tbR_inj h3.symm) hne

theorem hasN_iff (nm : List ByteArray) (s : ByteArray) : hasN nm s = true ↔ s ∈ nm := by
  unfold hasN
  rw [List.any_eq_true]
  refine ⟨fun ⟨x, hx, h⟩ => ?_, fun h => ⟨s, h, decide_eq_true rfl⟩⟩
  rw [← tbR_inj (of_decide_eq_true h)]; exact hx
theorem placeN_le (nm : List ByteArray) (s : ByteArray) : placeN nm s ≤ nm.length := by
  unfold placeN
  induction nm with
  | nil => simp
  | cons x l ih => rw [List.takeWhile_cons]; split <;> simp <;> omega
theorem placeN_lt : ∀ {nm : List ByteArray} {s : ByteArray} {t : Nat} {x : ByteArray}, t < placeN nm s → nm[t]? = some x → strLt x s = true := by
  intro nm s
  unfold placeN
  induction nm with
  | nil => intro t x h; simp at h
  | cons y l ih =>
    intro t x h hx
    rw [List.takeWhile_cons] at h
    split at h
    · rename_i hy
      cases t with
      | zero => simp at hx; subst hx; exact hy
      | succ t => rw [List.length_cons] at h; exact ih (t := t) (by omega) (by simpa using hx)
    · simp at h
theorem placeN_at : ∀ {nm : List ByteArray} {s x : ByteArray}, nm[placeN nm s]? = some x → strLt x s = false := by
  intro nm s
  unfold placeN
  induction nm with
  | nil => intro x h; simp at h
  | cons y l ih =>
    intro x h
    rw [List.takeWhile_cons] at h
    split at h
    · rw [List.length_cons] at h; exact ih (by simpa using h)
    · rename_i hy
      simp at h; subst h; simpa using hy
theorem placeN_ge {nm : List ByteArray} (hu : upN nm) {s : ByteArray} {t : Nat} {x : ByteArray} (h : placeN nm s ≤ t) (hx : nm[t]? = some x) : strLt x s = false := by
  have ht : t < nm.length := (List.getElem?_eq_some_iff.1 hx).1
  have hp : placeN nm s < nm.length := by omega
  have h1 := placeN_at (List.getElem?_eq_getElem hp)
  rcases Nat.lt_or_ge (placeN nm s) t with h2 | h2
  · cases e : strLt x s with
    | false => rfl
    | true =>
      have h3 := (List.pairwise_iff_getElem.1 hu) (placeN nm s) t hp ht h2
      rw [(List.getElem?_eq_some_iff.1 hx).2] at h3
      rw [strLt_trans h3 e] at h1; cases h1
  · obtain rfl : t = placeN nm s := by omega
    exact placeN_at hx
theorem placeN_mem {nm : List ByteArray} (hu : upN nm) (s : ByteArray) : s ∈ nm ↔ nm[placeN nm s]? = some s := by
  refine ⟨fun h => ?_, fun h => List.mem_of_getElem? h⟩
  obtain ⟨t, ht, e⟩ := List.mem_iff_getElem.1 h
  have hx : nm[t]? = some s := by rw [List.getElem?_eq_getElem ht, e]
  have h1 : placeN nm s ≤ t := by
    rcases Nat.lt_or_ge t (placeN nm s) with h2 | h2
    · have := placeN_lt h2 hx; rw [strLt_irrefl] at this; cases this
    · exact h2
  have hp : placeN nm s < nm.length := by omega
  have h2 := placeN_at (List.getElem?_eq_getElem hp)
  rcases Nat.lt_or_ge (placeN nm s) t with h3 | h3
  · have h4 := (List.pairwise_iff_getElem.1 hu) (placeN nm s) t hp ht h3
    rw [e, h2] at h4; cases h4
  · rw [show placeN nm s = t by omega]; exact hx
theorem insA_len {α : Type} (k : Nat) (x : α) (l : List α) (h : k ≤ l.length) : (insA k x l).length = l.length + 1 := by
  unfold insA; rw [List.length_append, List.length_cons, List.length_take, List.length_drop]; omega
theorem upN_ins {nm : List ByteArray} (hu : upN nm) {s : ByteArray} (hs : s ∉ nm) : upN (insA (placeN nm s) s nm) := by
  unfold upN insA
  rw [List.pairwise_append]
  refine ⟨hu.sublist (List.take_sublist _ _), ?_, ?_⟩
  · rw [List.pairwise_cons]
    refine ⟨fun y hy => ?_, hu.sublist (List.drop_sublist _ _)⟩
    obtain ⟨t, ht, e⟩ := List.mem_iff_getElem.1 hy
    rw [List.getElem_drop] at e
    have hx : nm[placeN nm s + t]? = some y := by rw [List.getElem?_eq_getElem (by rw [List.length_drop] at ht; omega), e]
    exact strLt_total (placeN_ge hu (Nat.le_add_right _ _) hx) (fun h => hs (h ▸ List.mem_of_getElem? hx))
  · intro a ha b hb
    obtain ⟨t, ht, e⟩ := List.mem_iff_getElem.1 ha
    rw [List.getElem_take] at e
    have ht2 : t < placeN nm s := by rw [List.length_take] at ht; omega
    have hx : nm[t]? = some a := by rw [List.getElem?_eq_getElem (by rw [List.length_take] at ht; omega), e]
    have h1 := placeN_lt ht2 hx
    rcases List.mem_cons.1 hb with rfl | hb
    · exact h1
    · obtain ⟨q, hq, e2⟩ := List.mem_iff_getElem.1 hb
      rw [List.getElem_drop] at e2
      have hq2 : placeN nm s + q < nm.length := by rw [List.length_drop] at hq; omega
      have := (List.pairwise_iff_getElem.1 hu) t (placeN nm s + q) (by omega) hq2 (by omega)
      rw [e2] at this
      obtain ⟨_, e3⟩ := List.getElem?_eq_some_iff.1 hx
      rw [e3] at this
      exact this

end Go.Proofs.YtdhilnnohokoeaaDoor
