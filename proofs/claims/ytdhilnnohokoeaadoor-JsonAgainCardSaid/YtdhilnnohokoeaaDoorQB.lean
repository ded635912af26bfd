/- What is printed again is no longer than six times what was read; and is read as it was. -/
import Derived.Test.YtdhilnnohokoeaaDoorQA
namespace Go.Proofs.YtdhilnnohokoeaaDoor
open Go.Shelf Go.RowKit

def SLn (d : Nat) (ys : List JV) : Nat := (ys.map fun y => (showF d y).length + 1).sum
def SNm (nm : List ByteArray) : Nat := (nm.map fun s => (quotedF s.data.toList).length + 1).sum
theorem sum_ins {α : Type} (g : α → Nat) (k : Nat) (x : α) (l : List α) : ((insA k x l).map g).sum = g x + (l.map g).sum := by
  have h : (l.map g).sum = ((l.take k).map g).sum + ((l.drop k).map g).sum := by
    rw [← List.sum_append, ← List.map_append, List.take_append_drop]
  unfold insA
  rw [List.map_append, List.map_cons, List.sum_append, List.sum_cons, h]; omega
theorem mems_len5 (d : Nat) : ∀ (it : List JV) (j : Nat) (nm : List ByteArray), (memsF (showF d) 5 j nm it).length ≤ SLn d it
  | [], _, _ => by unfold memsF; exact Nat.zero_le _
  | x :: it, j, nm => by
    have ih := mems_len5 d it (j + 1) nm.tail
    rw [memsF]
    unfold SLn at *
    rw [if_neg (show ¬ (5 : Int) = 6 by decide), List.map_cons, List.sum_cons]
    have : (if j = 0 then [] else [44] : List UInt8).length ≤ 1 := by split <;> simp
    simp only [List.length_append, List.length_nil]
    omega
theorem mems_len6 (d : Nat) : ∀ (it : List JV) (j : Nat) (nm : List ByteArray), nm.length = it.length → (memsF (showF d) 6 j nm it).length ≤ SLn d it + SNm nm
  | [], _, _, _ => by unfold memsF; exact Nat.zero_le _
  | x :: it, j, nm, h => by
    obtain ⟨s, nm, rfl⟩ : ∃ a b, nm = a :: b := by
      cases nm with
      | nil => simp at h
      | cons a b => exact ⟨a, b, rfl⟩
    have ih := mems_len6 d it (j + 1) nm (by simpa using h)
    rw [memsF]
    unfold SLn SNm at *
    rw [if_pos rfl, List.map_cons, List.sum_cons, List.map_cons, List.sum_cons]
    have : (if j = 0 then [] else [44] : List UInt8).length ≤ 1 := by split <;> simp
    simp only [List.length_append, List.length_singleton, List.tail_cons, List.headD_cons]
    omega
theorem show5_len {d : Nat} {n : Int} {t : ByteArray} {nm : List ByteArray} {it : List JV} : (showF (d + 1) (.mk 5 n t nm it)).length ≤ SLn d it + 2 := by
  show ([91] ++ partF (showF d) 5 nm it it.length ++ [93]).length ≤ _
  rw [part_all]
  have := mems_len5 d it 0 nm
  simp only [List.length_append, List.length_singleton]
  omega
theorem show6_len {d : Nat} {n : Int} {t : ByteArray} {nm : List ByteArray} {it : List JV} (h : nm.length = it.length) : (showF (d + 1) (.mk 6 n t nm it)).length ≤ SLn d it + SNm nm + 2 := by
  show ([123] ++ partF (showF d) 6 nm it it.length ++ [125]).length ≤ _
  rw [part_all]
  have := mems_len6 d it 0 nm h
  simp only [List.length_append, List.length_singleton]
  omega
theorem formed_items {d : Nat} {k n : Int} {t : ByteArray} {nm : List ByteArray} {it : List JV} (hk : ¬ k < 5) (h : formedF (d + 1) (.mk k n t nm it) = true) : ∀ y ∈ it, formedF d y = true := fun y hy => by
  rw [formedF, Bool.and_eq_true, if_neg hk, Bool.and_eq_true] at h
  exact List.all_eq_true.1 h.2.2 y hy
theorem word_sz {p l r : List UInt8} (h : wordL p l = some r) : p.length + r.length = l.length := by
  have := congrArg List.length (wordL_some h)
  simp at this
  omega

mutual
theorem val_sz : ∀ (n : Nat) (l r : List UInt8) (v : JV), valL n l = some (v, r) → ∀ d, formedF d v = true → (showF d v).length + 6 * r.length ≤ 6 * l.length
  | 0, _, _, _, h => by simp [valL] at h
  | n + 1, l, r, v, h => by
    intro d hd
    obtain ⟨d, rfl⟩ : ∃ q, d = q + 1 := by
      cases d with
      | zero => simp [formedF] at hd
      | succ d => exact ⟨d, rfl⟩
    unfold valL at h
    have hs := skipL_len l
    split at h
    · cases h
    · rename_i c r0 he
      rw [he, List.length_cons] at hs
      have hk := skipL_len r0
      repeat' split at h
      · obtain ⟨r1, h1, e⟩ := Option.map_eq_some_iff.1 h
        simp only [Prod.mk.injEq] at e
        have h2 := word_sz h1
        rw [← e.1, ← e.2]
        show ([110, 117, 108, 108] : List UInt8).length + _ ≤ _
        simp only [List.length_cons, List.length_nil] at h2 ⊢
        omega
      · obtain ⟨r1, h1, e⟩ := Option.map_eq_some_iff.1 h
        simp only [Prod.mk.injEq] at e
        have h2 := word_sz h1
        rw [← e.1, ← e.2]
        show ([102, 97, 108, 115, 101] : List UInt8).length + _ ≤ _
        simp only [List.length_cons, List.length_nil] at h2 ⊢
        omega
      · obtain ⟨r1, h1, e⟩ := Option.map_eq_some_iff.1 h
        simp only [Prod.mk.injEq] at e
        have h2 := word_sz h1
        rw [← e.1, ← e.2]
        show ([116, 114, 117, 101] : List UInt8).length + _ ≤ _
        simp only [List.length_cons, List.length_nil] at h2 ⊢
        omega
      · obtain ⟨⟨t, r1⟩, h1, e⟩ := Option.map_eq_some_iff.1 h
        simp only [Prod.mk.injEq] at e
        have h2 := str_small h1
        rw [List.length_cons] at h2
        rw [← e.1, ← e.2]
        show (quotedF t.data.toList).length + _ ≤ _
        omega
      · obtain ⟨⟨t, r1⟩, h1, e⟩ := Option.map_eq_some_iff.1 h
        simp only [Prod.mk.injEq] at e
        have h2 := num_small h1
        rw [List.length_cons] at h2
        rw [← e.1, ← e.2]
        show (Lib.itoa t).length + _ ≤ _
        omega
      · have := Option.some.inj h
        simp only [Prod.mk.injEq] at this
        rw [← this.1, ← this.2, List.length_tail]
        have h2 := @show5_len d 0 ⟨#[]⟩ [] []
        have h3 : SLn d [] = 0 := rfl
        omega
      · obtain ⟨ys, rfl, h2⟩ := arr_sz n _ _ _ _ h
        have h3 := h2 d (formed_items (by decide) hd)
        have h4 := @show5_len d 0 ⟨#[]⟩ [] ([] ++ ys)
        rw [List.nil_append] at *
        omega
      · have := Option.some.inj h
        simp only [Prod.mk.injEq] at this
        rw [← this.1, ← this.2, List.length_tail]
        have h2 := @show6_len d 0 ⟨#[]⟩ [] [] rfl
        have h3 : SLn d [] = 0 := rfl
        have h4 : SNm [] = 0 := rfl
        omega
      · obtain ⟨nm, ys, rfl, hl, h2⟩ := obj_sz n _ _ _ _ _ h rfl
        have h3 := h2 d (formed_items (by decide) hd)
        have h4 := @show6_len d 0 ⟨#[]⟩ nm ys hl
        have h5 : SLn d [] = 0 := rfl
        have h6 : SNm [] = 0 := rfl
        omega
      · cases h
theorem arr_sz : ∀ (n : Nat) (l r : List UInt8) (xs : List JV) (v : JV), arrL n l xs = some (v, r) → ∃ ys, v = .mk 5 0 ⟨#[]⟩ [] (xs ++ ys) ∧ ∀ d, (∀ y ∈ xs ++ ys, formedF d y = true) → SLn d ys + 6 * r.length ≤ 6 * l.length
  | 0, _, _, _, _, h => by simp [arrL] at h
  | n + 1, l, r, xs, v, h => by
    unfold arrL at h
    split at h
    · cases h
    · rename_i x r1 h1
      have h2 := val_sz n _ _ _ h1
      have h3 := skipL_len r1
      split at h
      · cases h
      · rename_i c r2 he
        rw [he, List.length_cons] at h3
        split at h
        · obtain ⟨ys, e, h4⟩ := arr_sz n _ _ _ _ h
          refine ⟨x :: ys, by rw [e, List.append_assoc]; rfl, fun d hd => ?_⟩
          have h5 := h4 d (fun y hy => hd y (by simpa using hy))
          have h6 := h2 d (hd x (by simp))
          unfold SLn at *
          rw [List.map_cons, List.sum_cons]
          omega
        · split at h
          · have := Option.some.inj h
            simp only [Prod.mk.injEq] at this
            refine ⟨[x], this.1.symm, fun d hd => ?_⟩
            have h6 := h2 d (hd x (by simp))
            rw [← this.2]
            unfold SLn
            rw [List.map_cons, List.sum_cons, List.map_nil, List.sum_nil]
            omega
          · cases h
theorem obj_sz : ∀ (n : Nat) (l r : List UInt8) (nm : List ByteArray) (xs : List JV) (v : JV), objL n l nm xs = some (v, r) → nm.length = xs.length → ∃ nm' ys, v = .mk 6 0 ⟨#[]⟩ nm' ys ∧ nm'.length = ys.length ∧ ∀ d, (∀ y ∈ ys, formedF d y = true) → SLn d ys + SNm nm' + 6 * r.length ≤ SLn d xs + SNm nm + 6 * l.length
  | 0, _, _, _, _, _, h => by simp [objL] at h
  | n + 1, l, r, nm, xs, v, h => by
    intro hl
    unfold objL at h
    have h0 := skipL_len l
    split at h
    · cases h
    · rename_i s r1 h1
      have h2 := str_small h1
      have h3 := skipL_len r1
      split at h
      · cases h
      · rename_i c r2 he
        rw [he, List.length_cons] at h3
        split at h
        · cases h
        · split at h
          · cases h
          · rename_i x r3 h4
            have h5 := val_sz n _ _ _ h4
            have h6 := skipL_len r3
            have hp := placeN_le nm s
            have hln : (insA (placeN nm s) s nm).length = (insA (placeN nm s) x xs).length := by rw [insA_len _ _ _ hp, insA_len _ _ _ (by omega), hl]
            have hsn : SNm (insA (placeN nm s) s nm) = (quotedF s.data.toList).length + 1 + SNm nm := sum_ins _ _ _ _
            have hsl : ∀ d, SLn d (insA (placeN nm s) x xs) = (showF d x).length + 1 + SLn d xs := fun d => sum_ins _ _ _ _
            split at h
            · cases h
            · rename_i c4 r4 he4
              rw [he4, List.length_cons] at h6
              split at h
              · obtain ⟨nm', ys, e, hl', h7⟩ := obj_sz n _ _ _ _ _ h hln
                refine ⟨nm', ys, e, hl', fun d hd => ?_⟩
                have h8 := h7 d hd
                have hx : formedF d x = true := hd x (obj_has n _ _ _ _ _ h e x (by unfold insA; simp))
                have h9 := h5 d hx
                rw [hsn, hsl] at h8
                omega
              · split at h
                · have := Option.some.inj h
                  simp only [Prod.mk.injEq] at this
                  refine ⟨_, _, this.1.symm, hln, fun d hd => ?_⟩
                  have hx : formedF d x = true := hd x (by unfold insA; simp)
                  have h9 := h5 d hx
                  rw [hsn, hsl, ← this.2]
                  omega
                · cases h
theorem obj_has : ∀ (n : Nat) (l r : List UInt8) (nm : List ByteArray) (xs : List JV) (v : JV) {nm' : List ByteArray} {ys : List JV}, objL n l nm xs = some (v, r) → v = .mk 6 0 ⟨#[]⟩ nm' ys → ∀ x ∈ xs, x ∈ ys
  | 0, _, _, _, _, _, _, _, h, _ => by simp [objL] at h
  | n + 1, l, r, nm, xs, v, nm', ys, h, e => by
    intro y hy
    have hin : ∀ (k : Nat) (x : JV), y ∈ insA k x xs := fun k x => by
      unfold insA
      rw [← List.take_append_drop k xs] at hy
      rcases List.mem_append.1 hy with h | h
      · exact List.mem_append_left _ h
      · exact List.mem_append_right _ (List.mem_cons_of_mem _ h)
    unfold objL at h
    split at h
    · cases h
    · split at h
      · cases h
      · split at h
        · cases h
        · split at h
          · cases h
          · split at h
            · cases h
            · split at h
              · exact obj_has n _ _ _ _ _ h e y (hin _ _)
              · split at h
                · have := Option.some.inj h
                  simp only [Prod.mk.injEq] at this
                  rw [e] at this
                  have h2 := this.1
                  injection h2 with _ _ _ _ h3
                  rw [← h3]; exact hin _ _
                · cases h
end

/-- what is printed is read back whole -/
theorem read_show {l : List UInt8} {v : JV} (h : readF l = (v, 0)) (hl : l.length ≤ 2000) (hc : ∃ c x, JAt c v x) : formedF 6 v = true ∧ readF (showF 6 v) = (v, 0) := by
  unfold readF at h
  rw [if_neg (by omega)] at h
  split at h
  · simp at h
  · split at h
    · simp at h
    · rename_i v0 r0 hv
      split at h
      · split at h
        · rename_i hf
          obtain rfl : v0 = v := by simpa using h
          refine ⟨hf, ?_⟩
          have h1 := val_sz _ _ _ _ hv 6 hf
          have h2 := valid_show 6 v0 hf []
          rw [List.append_nil] at h2
          have h3 := (show_back 6 v0 ⟨hf, hc⟩).2 [] (2 * (showF 6 v0).length + 1) (fun c r e => by cases e) (by simp)
          rw [List.append_nil] at h3
          unfold readF
          rw [if_neg (by omega), if_neg (by rw [h2]; decide), h3]
          dsimp only
          rw [if_pos (show skipL [] = [] from rfl), if_pos hf]
        · simp at h
      · simp at h

end Go.Proofs.YtdhilnnohokoeaaDoor
