/- Reading, plainly: places in a text; how far it is read; the reader's box. -/
import Derived.Test.YtdhilnnohokoeaaDoorRA
import Derived.Deep.AppendLies
import Derived.Laws.Cover4
namespace Go.Proofs.YtdhilnnohokoeaaDoor
open Go.RowKit

theorem skipL_len : ∀ l : List UInt8, (skipL l).length ≤ l.length
  | [] => Nat.le_refl _
  | c :: r => by
    unfold skipL; split
    · have := skipL_len r; rw [List.length_cons]; omega
    · exact Nat.le_refl _
theorem skipL_skip : ∀ l : List UInt8, skipL (skipL l) = skipL l
  | [] => rfl
  | c :: r => by
    by_cases h : isB c = true
    · rw [skipL, if_pos h, skipL_skip r]
    · rw [skipL, if_neg h, skipL, if_neg h]
theorem skipL_yes {c : UInt8} {r : List UInt8} (h : isB c = true) : skipL (c :: r) = skipL r := by rw [skipL, if_pos h]
theorem skipL_no {c : UInt8} {r : List UInt8} (h : isB c = false) : skipL (c :: r) = c :: r := by rw [skipL, if_neg (by rw [h]; simp)]
theorem skipL_head {l r : List UInt8} {c : UInt8} (h : skipL l = c :: r) : isB c = false := by
  induction l with
  | nil => cases h
  | cons x l ih =>
    by_cases hx : isB x = true
    · rw [skipL_yes hx] at h; exact ih h
    · have hx2 : isB x = false := by simpa using hx
      rw [skipL_no hx2] at h; cases h; exact hx2

/-- what stands from a place on -/
def dl (s : ByteArray) (i : Nat) : List UInt8 := s.data.toList.drop i
theorem dl_len (s : ByteArray) (i : Nat) : (dl s i).length = s.size - i := by unfold dl; rw [List.length_drop, size_list]
theorem dl_cons {s : ByteArray} {i : Nat} (h : i < s.size) : dl s i = s[i] :: dl s (i + 1) := by
  unfold dl
  rw [List.drop_eq_getElem_cons (by rw [size_list]; exact h)]
  rfl
theorem dl_end (s : ByteArray) : dl s s.size = [] := by unfold dl; exact List.drop_eq_nil_iff.2 (by rw [size_list]; exact Nat.le_refl _)
theorem dl_zero (s : ByteArray) : dl s 0 = s.data.toList := rfl
theorem dl_drop (s : ByteArray) (i k : Nat) : (dl s i).drop k = dl s (i + k) := by unfold dl; rw [List.drop_drop]
theorem dl_split {s : ByteArray} {i : Nat} {c : UInt8} {r : List UInt8} (h : dl s i = c :: r) : ∃ hi : i < s.size, s[i] = c ∧ dl s (i + 1) = r := by
  have hi : i < s.size := by
    have := dl_len s i
    rw [h, List.length_cons] at this; omega
  rw [dl_cons hi] at h
  exact ⟨hi, (List.cons.inj h).1, (List.cons.inj h).2⟩
theorem dl_take {s : ByteArray} {i j : Nat} : (s.extract i j).data.toList = (dl s i).take (j - i) := by
  unfold dl
  rw [ByteArray.data_extract, Array.toList_extract, List.extract_eq_take_drop]

theorem wordL_some {p l r : List UInt8} (h : wordL p l = some r) : l = p ++ r := by
  unfold wordL at h
  split at h
  · rename_i hp
    obtain ⟨t, rfl⟩ := List.isPrefixOf_iff_prefix.1 hp
    have := Option.some.inj h
    rw [List.drop_left] at this
    rw [this]
  · cases h
theorem digL_rest {neg : Bool} {ds r r2 : List UInt8} {v : Int} (h : digL neg ds r = some (v, r2)) : r2 = r ∧ ds ≠ [] ∧ -9223372036854775808 ≤ v ∧ v ≤ 9223372036854775807 := by
  unfold digL at h
  split at h
  · cases h
  · rename_i hd
    have hne : ds ≠ [] := fun e => hd (.inl e)
    split at h
    · split at h
      · have := Option.some.inj h
        simp only [Prod.mk.injEq] at this
        exact ⟨this.2.symm, hne, by omega, by omega⟩
      · cases h
    · split at h
      · have := Option.some.inj h
        simp only [Prod.mk.injEq] at this
        exact ⟨this.2.symm, hne, by omega, by omega⟩
      · cases h
theorem take_drop_len (p : UInt8 → Bool) : ∀ l : List UInt8, (l.takeWhile p).length + (l.dropWhile p).length = l.length := fun l => by
  rw [← List.length_append, List.takeWhile_append_dropWhile]
theorem numL_len {l r : List UInt8} {v : Int} (h : numL l = some (v, r)) : r.length < l.length := by
  unfold numL at h
  split at h
  · rename_i hh
    obtain ⟨rfl, hne, _⟩ := digL_rest h
    have h1 := take_drop_len isD l.tail
    have h2 := List.length_pos_iff.2 hne
    have h3 : l.tail.length ≤ l.length := by simp
    omega
  · obtain ⟨rfl, hne, _⟩ := digL_rest h
    have h1 := take_drop_len isD l
    have h2 := List.length_pos_iff.2 hne
    omega
theorem hex4L_len {l r : List UInt8} {n : Nat} (h : hex4L l = some (n, r)) : l.length = r.length + 4 := by
  unfold hex4L at h
  split at h
  · cases h
  · obtain ⟨m, _, e⟩ := Option.map_eq_some_iff.1 h
    simp only [Prod.mk.injEq] at e
    rw [← e.2, List.length_drop]; omega
theorem four_of (s : ByteArray) (h : s.size ≤ 4) : s.data.toList.length ≤ 4 := by rw [size_list]; exact h
theorem encL_eq (n : Nat) : encL n = (Utf8.encode (n : Int)).data.toList := by rw [encL]
theorem encL_len (n : Nat) : (encL n).length ≤ 4 := by
  have h := encode_size_le (n : Int)
  rw [encL_eq]
  generalize Utf8.encode (n : Int) = s at h ⊢
  exact four_of s h
theorem uniL_len {l r b : List UInt8} (h : uniL l = some (b, r)) : r.length < l.length ∧ b.length ≤ 4 := by
  unfold uniL at h
  split at h
  · cases h
  · rename_i n r1 h1
    have e1 := hex4L_len h1
    split at h
    · split at h
      · split at h
        · cases h
        · rename_i m r2 h2
          have e2 := hex4L_len h2
          rw [List.length_drop] at e2
          split at h
          · have := Option.some.inj h
            simp only [Prod.mk.injEq] at this
            rw [← this.1, ← this.2]
            exact ⟨by omega, encL_len _⟩
          · cases h
      · cases h
    · split at h
      · cases h
      · have := Option.some.inj h
        simp only [Prod.mk.injEq] at this
        rw [← this.1, ← this.2]
        exact ⟨by omega, encL_len _⟩
theorem escL_len {l r b : List UInt8} (h : escL l = some (b, r)) : r.length < l.length ∧ b.length ≤ 4 := by
  cases l with
  | nil => cases h
  | cons c l =>
    rw [escL] at h
    split at h
    · have := Option.some.inj h
      simp only [Prod.mk.injEq] at this
      rw [← this.1, ← this.2]
      simp
    · split at h
      · have := uniL_len h
        rw [List.length_cons]; omega
      · cases h
theorem quoL_len : ∀ (n : Nat) (l acc t r : List UInt8), quoL n l acc = some (t, r) → r.length < l.length ∧ t.length + 4 * r.length ≤ acc.length + 4 * l.length
  | 0, _, _, _, _, h => by cases h
  | _ + 1, [], _, _, _, h => by cases h
  | n + 1, c :: l, acc, t, r, h => by
    unfold quoL at h
    split at h
    · cases h
    · split at h
      · have := Option.some.inj h
        simp only [Prod.mk.injEq] at this
        rw [← this.1, ← this.2, List.length_cons]; omega
      · split at h
        · split at h
          · cases h
          · rename_i b r2 h2
            have h3 := escL_len h2
            have h4 := quoL_len n _ _ _ _ h
            rw [List.length_append] at h4
            rw [List.length_cons]; omega
        · have h4 := quoL_len n _ _ _ _ h
          rw [List.length_append, List.length_singleton] at h4
          rw [List.length_cons]; omega
theorem strL_len {l r : List UInt8} {t : ByteArray} (h : strL l = some (t, r)) : r.length < l.length ∧ t.size ≤ 4 * l.length := by
  cases l with
  | nil => cases h
  | cons c l =>
    rw [strL] at h
    split at h
    · obtain ⟨⟨u, r2⟩, h1, e⟩ := Option.map_eq_some_iff.1 h
      simp only [Prod.mk.injEq] at e
      have := quoL_len _ _ _ _ _ h1
      rw [← e.1, ← e.2, ba_size, List.length_cons]
      rw [List.length_nil] at this
      omega
    · cases h
mutual
theorem valL_len : ∀ (n : Nat) (l r : List UInt8) (v : JV), valL n l = some (v, r) → r.length < l.length
  | 0, _, _, _, h => by simp [valL] at h
  | n + 1, l, r, v, h => by
    unfold valL at h
    have hs := skipL_len l
    split at h
    · cases h
    · rename_i c r0 he
      rw [he, List.length_cons] at hs
      have hk := skipL_len r0
      repeat' split at h
      · obtain ⟨r1, h1, e⟩ := Option.map_eq_some_iff.1 h
        simp only [Prod.mk.injEq] at e
        have := wordL_some h1
        have := congrArg List.length this
        simp at this
        rw [← e.2]; omega
      · obtain ⟨r1, h1, e⟩ := Option.map_eq_some_iff.1 h
        simp only [Prod.mk.injEq] at e
        have := wordL_some h1
        have := congrArg List.length this
        simp at this
        rw [← e.2]; omega
      · obtain ⟨r1, h1, e⟩ := Option.map_eq_some_iff.1 h
        simp only [Prod.mk.injEq] at e
        have := wordL_some h1
        have := congrArg List.length this
        simp at this
        rw [← e.2]; omega
      · obtain ⟨⟨t, r1⟩, h1, e⟩ := Option.map_eq_some_iff.1 h
        simp only [Prod.mk.injEq] at e
        have := strL_len h1
        rw [List.length_cons] at this
        rw [← e.2]; omega
      · obtain ⟨⟨t, r1⟩, h1, e⟩ := Option.map_eq_some_iff.1 h
        simp only [Prod.mk.injEq] at e
        have := numL_len h1
        rw [List.length_cons] at this
        rw [← e.2]; omega
      · have := Option.some.inj h
        simp only [Prod.mk.injEq] at this
        rw [← this.2, List.length_tail]; omega
      · have := arrL_len n _ _ _ _ h; omega
      · have := Option.some.inj h
        simp only [Prod.mk.injEq] at this
        rw [← this.2, List.length_tail]; omega
      · have := objL_len n _ _ _ _ _ h; omega
      · cases h
theorem arrL_len : ∀ (n : Nat) (l r : List UInt8) (xs : List JV) (v : JV), arrL n l xs = some (v, r) → r.length < l.length
  | 0, _, _, _, _, h => by simp [arrL] at h
  | n + 1, l, r, xs, v, h => by
    unfold arrL at h
    split at h
    · cases h
    · rename_i x r1 h1
      have h2 := valL_len n _ _ _ h1
      have h3 := skipL_len r1
      split at h
      · cases h
      · rename_i c r2 he
        rw [he, List.length_cons] at h3
        split at h
        · have := arrL_len n _ _ _ _ h; omega
        · split at h
          · have := Option.some.inj h
            simp only [Prod.mk.injEq] at this
            rw [← this.2]; omega
          · cases h
theorem objL_len : ∀ (n : Nat) (l r : List UInt8) (nm : List ByteArray) (xs : List JV) (v : JV), objL n l nm xs = some (v, r) → r.length < l.length
  | 0, _, _, _, _, _, h => by simp [objL] at h
  | n + 1, l, r, nm, xs, v, h => by
    unfold objL at h
    have h0 := skipL_len l
    split at h
    · cases h
    · rename_i s r1 h1
      have h2 := strL_len h1
      have h3 := skipL_len r1
      split at h
      · cases h
      · rename_i c r2 he
        rw [he, List.length_cons] at h3
        split at h
        · cases h
        · split at h
          · cases h
          · rename_i x r3 h4
            have h5 := valL_len n _ _ _ h4
            have h6 := skipL_len r3
            split at h
            · cases h
            · rename_i c4 r4 he4
              rw [he4, List.length_cons] at h6
              split at h
              · have := objL_len n _ _ _ _ _ h; omega
              · split at h
                · have := Option.some.inj h
                  simp only [Prod.mk.injEq] at this
                  rw [← this.2]; omega
                · cases h
end

end Go.Proofs.YtdhilnnohokoeaaDoor
