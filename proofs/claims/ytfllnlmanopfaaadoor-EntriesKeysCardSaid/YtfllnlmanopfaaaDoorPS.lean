/- What a formed value's text is, and how long it may be. -/
import Derived.Test.YtfllnlmanopfaaaDoorJG
import Derived.Lib.ItoaNum
import Derived.Lib.ItoaLen
namespace Go.Proofs.YtfllnlmanopfaaaDoor
open Go.RowKit

def hexD (n : Nat) : UInt8 := if n < 10 then (48 + n).toUInt8 else (87 + n).toUInt8
/-- a byte within quotes -/
def escF (c : UInt8) : List UInt8 :=
  if c = 34 then [92, 34] else if c = 92 then [92, 92] else if c = 8 then [92, 98] else if c = 9 then [92, 116] else if c = 10 then [92, 110] else if c = 12 then [92, 102] else if c = 13 then [92, 114]
  else if c.toNat < 32 then [92, 117, 48, 48, hexD (c.toNat / 16), hexD (c.toNat % 16)] else [c]
def quotedF (s : List UInt8) : List UInt8 := 34 :: (s.flatMap escF ++ [34])

theorem escF_len (c : UInt8) : (escF c).length ≤ 6 := by
  unfold escF; repeat' split
  all_goals simp
theorem flatMap_len {l : List UInt8} : (l.flatMap escF).length ≤ 6 * l.length := by
  induction l with
  | nil => simp
  | cons c l ih => rw [List.flatMap_cons, List.length_append, List.length_cons]; have := escF_len c; omega
theorem size_list (s : ByteArray) : s.data.toList.length = s.size := rfl
theorem quotedF_len {s : ByteArray} : (quotedF s.data.toList).length ≤ 6 * s.size + 2 := by
  have := @flatMap_len s.data.toList
  rw [size_list] at this
  rw [quotedF, List.length_cons, List.length_append, List.length_singleton]; omega

/-- the words of the three kinds without anything -/
def wordF (k : Int) : List UInt8 := if k = 0 then [110, 117, 108, 108] else if k = 1 then [102, 97, 108, 115, 101] else [116, 114, 117, 101]
/-- a member's head: the comma, the name -/
def headF (k : Int) (nm : List ByteArray) (j : Nat) : List UInt8 :=
  (if j = 0 then [] else [44]) ++ (if k = 6 then quotedF (nm.getD j ⟨#[]⟩).data.toList ++ [58] else [])
/-- the first j members -/
def partF (f : JV → List UInt8) (k : Int) (nm : List ByteArray) (it : List JV) : Nat → List UInt8
  | 0 => []
  | j + 1 => partF f k nm it j ++ (headF k nm j ++ ((it[j]?).map f).getD [])
/-- a value's text, going down so far -/
def showF : Nat → JV → List UInt8
  | 0, _ => []
  | d + 1, .mk k n t nm it =>
    if k = 3 then Lib.itoa n else if k = 4 then quotedF t.data.toList
    else if k = 5 then [91] ++ partF (showF d) 5 nm it it.length ++ [93]
    else if k = 6 then [123] ++ partF (showF d) 6 nm it it.length ++ [125] else wordF k

/-- how long a text may be -/
def lenB : Nat → Nat
  | 0 => 0
  | d + 1 => 400 + 24 * (lenB d + 400)

theorem formed_head {d : Nat} {k n : Int} {t : ByteArray} {nm : List ByteArray} {it : List JV} (h : formedF (d + 1) (.mk k n t nm it) = true) : headOk k n t := by
  rw [formedF, Bool.and_eq_true] at h
  exact of_decide_eq_true h.1
theorem formed_body {d : Nat} {k n : Int} {t : ByteArray} {nm : List ByteArray} {it : List JV} (h : formedF (d + 1) (.mk k n t nm it) = true) (hk : ¬ k < 5) :
    it.length ≤ 24 ∧ nm.length = (if k = 6 then it.length else 0) ∧ (∀ s ∈ nm, textF s = true) ∧ (∀ x ∈ it, formedF d x = true) ∧ rises nm = true := by
  rw [formedF, Bool.and_eq_true, if_neg hk, Bool.and_eq_true] at h
  obtain ⟨_, hb, hi⟩ := h
  unfold bodyOk at hb
  simp only [Bool.and_eq_true, decide_eq_true_eq, List.all_eq_true] at hb hi
  exact ⟨hb.1.1.1, hb.1.1.2, hb.1.2, hi, hb.2⟩
theorem text_size {s : ByteArray} (h : textF s = true) : s.size ≤ 60 := by
  unfold textF at h
  rw [Bool.and_eq_true] at h
  exact of_decide_eq_true h.1

theorem headF_len {k : Int} {nm : List ByteArray} {j : Nat} (hn : ∀ s ∈ nm, textF s = true) : (headF k nm j).length ≤ 400 := by
  have h1 : (quotedF (nm.getD j ⟨#[]⟩).data.toList).length ≤ 362 := by
    have h2 : (nm.getD j ⟨#[]⟩).size ≤ 60 := by
      rw [List.getD_eq_getElem?_getD]
      cases e : nm[j]? with
      | none => simp [ByteArray.size]
      | some s => exact text_size (hn s (List.mem_of_getElem? e))
    have := @quotedF_len (nm.getD j ⟨#[]⟩)
    omega
  unfold headF
  rw [List.length_append]
  have a1 : (if j = 0 then ([] : List UInt8) else [44]).length ≤ 1 := by split <;> simp
  have a2 : (if k = 6 then quotedF (nm.getD j ⟨#[]⟩).data.toList ++ [58] else []).length ≤ 363 := by
    split
    · rw [List.length_append, List.length_singleton]; omega
    · exact Nat.zero_le _
  omega
theorem partF_len {f : JV → List UInt8} {k : Int} {nm : List ByteArray} {it : List JV} {L : Nat} (hn : ∀ s ∈ nm, textF s = true) (hf : ∀ x ∈ it, (f x).length ≤ L) : ∀ j : Nat, (partF f k nm it j).length ≤ j * (L + 400)
  | 0 => by simp [partF]
  | j + 1 => by
    have ih := partF_len (k := k) hn hf j
    have h1 := @headF_len k nm j hn
    have h2 : (((it[j]?).map f).getD []).length ≤ L := by
      cases e : it[j]? with
      | none => simp
      | some x => exact hf x (List.mem_of_getElem? e)
    rw [partF, List.length_append, List.length_append, Nat.add_mul, Nat.one_mul]
    omega

theorem wf_i64 {n : Int} (h : (Lit.int .i64 n).wf = true) : -9223372036854775808 ≤ n ∧ n ≤ 9223372036854775807 := by
  simp [Lit.wf] at h
  exact ⟨by have := h.1; rw [show IntKind.i64.min = -9223372036854775808 by kernel_rfl] at this; exact this, h.2⟩

theorem JAt.item {c : CF} {it : List JV} {v : Value} (h : ItemsAt c v it) {x : JV} (hx : x ∈ it) : ∃ y, JAt c x y := by
  obtain ⟨a, cap, _, _, hi⟩ := h
  obtain ⟨i, hi2⟩ := List.getElem?_of_mem hx
  obtain ⟨b, off, k, n, t, nm, it2, na, ncap, ia, icap, _, _, _, _, _, _, _, h8⟩ := hi i x hi2
  exact ⟨_, h8⟩

theorem wordF_len (k : Int) : (wordF k).length ≤ 5 := by unfold wordF; repeat' split
                                                         all_goals simp

theorem showF_len : ∀ (d : Nat) (v : JV) (c : CF) (x : Value), JAt c v x → formedF d v = true → (showF d v).length ≤ lenB d
  | 0, _, _, _, _, _ => by simp [showF]
  | d + 1, v, c, x, hv, hf => by
    obtain ⟨k, n, t, nm, it, na, ncap, ia, icap, rfl, rfl, _, hn, _, _, hit⟩ := hv.open
    have h1 := formed_head hf
    have h2 := wf_i64 hn
    have ht := text_size h1.2.2.2.2
    have hL : ∀ j : Nat, j ≤ 24 → j * (lenB d + 400) ≤ 24 * (lenB d + 400) := fun j hj => Nat.mul_le_mul_right _ hj
    have hp : ¬ k < 5 → ∀ q : Int, (partF (showF d) q nm it it.length).length ≤ 24 * (lenB d + 400) := fun hk q => by
      obtain ⟨h24, _, hnm, hfi, _⟩ := formed_body hf hk
      refine Nat.le_trans (partF_len hnm (fun x hx => ?_) it.length) (hL _ h24)
      obtain ⟨y, hy⟩ := JAt.item hit hx
      exact showF_len d x c y hy (hfi x hx)
    rw [showF, lenB]
    by_cases h3 : k = 3
    · rw [if_pos h3]; have := Lib.itoa_length_le n h2.1 h2.2; omega
    rw [if_neg h3]
    by_cases h4 : k = 4
    · rw [if_pos h4]; have := @quotedF_len t; omega
    rw [if_neg h4]
    by_cases h5 : k = 5
    · rw [if_pos h5]; have := hp (by omega) 5; simp; omega
    rw [if_neg h5]
    by_cases h6 : k = 6
    · rw [if_pos h6]; have := hp (by omega) 6; simp; omega
    rw [if_neg h6]
    have := wordF_len k
    omega

end Go.Proofs.YtfllnlmanopfaaaDoor
