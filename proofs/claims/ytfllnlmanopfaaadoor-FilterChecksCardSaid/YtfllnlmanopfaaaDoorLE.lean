/- Filters: sorted and cut of what is twice is put in one by one. -/
import Derived.Test.YtfllnlmanopfaaaDoorLD
import Derived.Test.YtfllnlmanopfaaaDoorFLays
import Derived.Sort.Walk0
import Derived.Lib.RowBridge
namespace Go.Proofs.YtfllnlmanopfaaaDoor
open Go.RowKit

def tb (s : ByteArray) : List UInt8 := s.data.toList
theorem tb_inj {a b : ByteArray} (h : tb a = tb b) : a = b := by cases a; cases b; exact congrArg ByteArray.mk (Array.toList_inj.1 h)
theorem strLt_tb (a b : ByteArray) : strLt a b = decide (tb a < tb b) := by unfold strLt tb; rw [ByteArray.toList_eq, ByteArray.toList_eq, bytesLess_eq]
theorem up_ext : ∀ {l m : List (List UInt8)}, l.Pairwise (· < ·) → m.Pairwise (· < ·) → (∀ x, x ∈ l ↔ x ∈ m) → l = m
  | [], [], _, _, _ => rfl
  | [], b :: m, _, _, h => by have := (h b).2 (by simp); cases this
  | a :: l, [], _, _, h => by have := (h a).1 (by simp); cases this
  | a :: l, b :: m, hl, hm, h => by
    rw [List.pairwise_cons] at hl hm
    have e : a = b := by
      have h1 := (h a).1 (by simp)
      have h2 := (h b).2 (by simp)
      rcases List.mem_cons.1 h1 with e | h1
      · exact e
      rcases List.mem_cons.1 h2 with e | h2
      · exact e.symm
      exact absurd (List.lt_trans (hm.1 a h1) (hl.1 b h2)) (List.lt_irrefl b)
    subst e
    congr 1
    refine up_ext hl.2 hm.2 fun x => ⟨fun hx => ?_, fun hx => ?_⟩
    · rcases List.mem_cons.1 ((h x).1 (by simp [hx])) with e | h'
      · subst e; exact absurd (hl.1 x hx) (List.lt_irrefl x)
      · exact h'
    · rcases List.mem_cons.1 ((h x).2 (by simp [hx])) with e | h'
      · subst e; exact absurd (hm.1 x hx) (List.lt_irrefl x)
      · exact h'
theorem putL_mem (s : ByteArray) : ∀ (l : List ByteArray) (x : List UInt8), x ∈ (putL s l).map tb ↔ x = tb s ∨ x ∈ l.map tb
  | [], x => by simp [putL]
  | a :: l, x => by
    rw [putL]
    split
    · rw [List.map_cons, List.mem_cons, putL_mem s l, List.map_cons, List.mem_cons]
      constructor
      · rintro (h | h | h)
        · exact .inr (.inl h)
        · exact .inl h
        · exact .inr (.inr h)
      · rintro (h | h | h)
        · exact .inr (.inl h)
        · exact .inl h
        · exact .inr (.inr h)
    · split
      · rename_i e; subst e; simp
      · simp
theorem putL_up (s : ByteArray) : ∀ l : List ByteArray, (l.map tb).Pairwise (· < ·) → ((putL s l).map tb).Pairwise (· < ·)
  | [], _ => by simp [putL]
  | a :: l, h => by
    rw [List.map_cons, List.pairwise_cons] at h
    rw [putL]
    split
    · rename_i e
      rw [List.map_cons, List.pairwise_cons]
      refine ⟨fun x hx => ?_, putL_up s l h.2⟩
      rcases (putL_mem s l x).1 hx with rfl | hx
      · rw [strLt_tb] at e; exact of_decide_eq_true e
      · exact h.1 x hx
    · rename_i e0
      split
      · rename_i e; subst e; rw [List.map_cons, List.pairwise_cons]; exact h
      · rename_i e
        have hlt : tb s < tb a := by
          rw [strLt_tb] at e0
          have h1 : tb s ≤ tb a := List.not_lt.1 (fun h => e0 (decide_eq_true h))
          exact Decidable.byContradiction fun hn => e (tb_inj (List.le_antisymm (List.not_lt.1 hn) h1))
        rw [List.map_cons, List.pairwise_cons, List.map_cons, List.pairwise_cons]
        refine ⟨fun x hx => ?_, h⟩
        rcases List.mem_cons.1 hx with rfl | hx
        · exact hlt
        · exact List.lt_trans hlt (h.1 x hx)
theorem foldP_mem : ∀ (ys xs : List ByteArray) (x : List UInt8), x ∈ (foldP xs ys).map tb ↔ x ∈ xs.map tb ∨ x ∈ ys.map tb
  | [], xs, x => by simp [foldP]
  | s :: ys, xs, x => by
    rw [show foldP xs (s :: ys) = foldP (putL s xs) ys from rfl, foldP_mem ys, putL_mem, List.map_cons, List.mem_cons]
    constructor
    · rintro ((h | h) | h)
      · exact .inr (.inl h)
      · exact .inl h
      · exact .inr (.inr h)
    · rintro (h | h | h)
      · exact .inl (.inr h)
      · exact .inl (.inl h)
      · exact .inr h
theorem foldP_up : ∀ (ys xs : List ByteArray), (xs.map tb).Pairwise (· < ·) → ((foldP xs ys).map tb).Pairwise (· < ·)
  | [], _, h => h
  | s :: ys, xs, h => foldP_up ys (putL s xs) (putL_up s xs h)
theorem compact_up (zs : List (List UInt8)) (h : zs.Pairwise (· ≤ ·)) : (Lib.compact zs).Pairwise (· < ·) ∧ ∀ x, x ∈ Lib.compact zs ↔ x ∈ zs := by
  have hd : ∀ i j, i < j → j < zs.length → zs.toArray[i]! ≤ zs.toArray[j]! := fun i j hij hj => by
    have := List.pairwise_iff_getElem.1 h i j (by omega) hj hij
    simpa [getElem!_pos, hj, show i < zs.length by omega] using this
  have key : ∀ m, m ≤ zs.length → (Lib.compactUpTo zs.toArray m).Pairwise (· < ·) ∧ ∀ x, x ∈ Lib.compactUpTo zs.toArray m ↔ ∃ j, j < m ∧ zs.toArray[j]! = x := by
    intro m
    induction m with
    | zero => intro _; simp [Lib.compactUpTo]
    | succ m ih =>
      intro hm
      obtain ⟨h1, h2⟩ := ih (by omega)
      rw [Lib.compactUpTo_succ]
      cases hk : Lib.keeps zs.toArray m with
      | true =>
        rw [if_pos rfl]
        constructor
        · rw [List.pairwise_append]
          refine ⟨h1, by simp, fun a ha b hb => ?_⟩
          obtain ⟨j, hj, rfl⟩ := (h2 a).1 ha
          rw [List.mem_singleton] at hb
          subst hb
          have hne : zs.toArray[m]! ≠ zs.toArray[m - 1]! := by
            unfold Lib.keeps at hk
            rcases of_decide_eq_true hk with h0 | h0
            · omega
            · exact h0
          have hle : zs.toArray[m - 1]! ≤ zs.toArray[m]! := hd _ _ (by omega) (by omega)
          have hlt : zs.toArray[m - 1]! < zs.toArray[m]! := Decidable.byContradiction fun hn => hne (List.le_antisymm (List.not_lt.1 hn) hle)
          by_cases e : j = m - 1
          · rw [e]; exact hlt
          · exact List.lt_of_le_of_lt (hd _ _ (by omega) (by omega)) hlt
        · intro x
          rw [List.mem_append, h2, List.mem_singleton]
          constructor
          · rintro (⟨j, hj, e⟩ | e)
            · exact ⟨j, by omega, e⟩
            · exact ⟨m, by omega, e.symm⟩
          · rintro ⟨j, hj, e⟩
            by_cases c : j = m
            · subst c; exact .inr e.symm
            · exact .inl ⟨j, by omega, e⟩
      | false =>
        have hm0 : m ≠ 0 ∧ zs.toArray[m]! = zs.toArray[m - 1]! := by
          unfold Lib.keeps at hk
          have := of_decide_eq_false hk
          exact ⟨fun h => this (.inl h), Decidable.byContradiction fun h => this (.inr h)⟩
        rw [if_neg (by simp), List.append_nil]
        refine ⟨h1, fun x => ?_⟩
        rw [h2]
        constructor
        · rintro ⟨j, hj, e⟩; exact ⟨j, by omega, e⟩
        · rintro ⟨j, hj, e⟩
          by_cases c : j = m
          · subst c; exact ⟨j - 1, by omega, by rw [← hm0.2]; exact e⟩
          · exact ⟨j, by omega, e⟩
  obtain ⟨h1, h2⟩ := key zs.length (Nat.le_refl _)
  refine ⟨h1, fun x => ?_⟩
  show x ∈ Lib.compactUpTo _ _ ↔ _
  rw [h2, List.mem_iff_getElem]
  constructor
  · rintro ⟨j, hj, e⟩; exact ⟨j, hj, by simpa [getElem!_pos, hj] using e⟩
  · rintro ⟨j, hj, e⟩; exact ⟨j, hj, by simpa [getElem!_pos, hj] using e⟩
theorem paths_law (ss : List ByteArray) : Lib.compact ((ss.map tb).mergeSort fun x y => decide (x ≤ y)) = (foldP [] ss).map tb := by
  have hs := List.pairwise_mergeSort (le := fun x y : List UInt8 => decide (x ≤ y)) (fun a b c h1 h2 => decide_eq_true (List.le_trans (of_decide_eq_true h1) (of_decide_eq_true h2))) (fun a b => by rcases List.le_total a b with h | h <;> simp [h]) (ss.map tb)
  obtain ⟨h1, h2⟩ := compact_up _ (hs.imp fun h => of_decide_eq_true h)
  refine up_ext h1 (foldP_up ss [] List.Pairwise.nil) fun x => ?_
  rw [h2, List.mem_mergeSort, foldP_mem]; simp
theorem foldP_le (ss : List ByteArray) : (foldP [] ss).length ≤ ss.length := by have := foldP_len [] ss; simpa using this

end Go.Proofs.YtfllnlmanopfaaaDoor
