/- Catalogs: what CatalogShows leans on, plainly. -/
import Derived.Test.YtfpphpjobkhalaaGreatDoorZ32
import Derived.Test.YtfpphpjobkhalaaGreatDoorZ44
import Derived.Test.YtfpphpjobkhalaaGreatDoorZ47
namespace Go.Proofs.YtfpphpjobkhalaaGreatDoor
open Go.Shelf Go.RowKit

def showCX (l : List CX) : JV := if formC l = true then showC l else zeroJE
theorem showC_post {l : List CX} {w w' : World} {e : Ending} (h : ShowPostC l w e w') : ∃ y, e = .returned (.tuple #[y, .int .i64 (errI (formC l))]) ∧ JAt (cf w') (showCX l) y ∧ Below w.heap.size w w' := by
  obtain ⟨h1, h2⟩ := h
  unfold showCX
  cases hf : formC l with
  | true =>
    rw [if_pos hf] at h1
    obtain ⟨y, e1, hy⟩ := h1
    exact ⟨y, e1, by simpa using hy, h2⟩
  | false =>
    rw [if_neg (by rw [hf]; simp)] at h1
    exact ⟨_, h1, by simpa using zeroJ_at _, h2⟩
theorem form_sized {l : List CX} (h : formC l = true) : SizedP l := by
  have h1 := formC_iff.1 h
  refine ⟨by omega, fun x hx => ?_⟩
  have h2 := formX_iff.1 (h1.2.2.1 x hx)
  refine ⟨by omega, fun p hp => ?_⟩
  have := (form_fields (h2.2.2.2 p hp)).1
  omega
theorem parseC_sized (v : JV) : SizedP (parseC v).1 := by
  have h0 : SizedP [] := ⟨by simp, fun x hx => by simp at hx⟩
  unfold parseC
  split
  · split
    · rename_i h; exact form_sized h.1
    · exact h0
  · exact h0
theorem few_itemZ {v i : JV} (h : fewF v = true) (hi : i ∈ v.items) : fewF i = true := by
  obtain ⟨k, n, t, nm, it⟩ := v
  rw [fewF, fewL_all] at h
  simp only [Bool.and_eq_true] at h
  exact List.all_eq_true.1 h.2 i hi
theorem few_len {v : JV} (h : fewF v = true) : v.items.length ≤ 1000 := by
  obtain ⟨k1, n1, t1, nm1, it1⟩ := v
  rw [fewF, fewL_all] at h
  simp only [Bool.and_eq_true, decide_eq_true_eq] at h
  have h2 := h.1.1.1.1
  rw [nodesF] at h2
  have h3 := few_item_le (l := 0) 1 (it1.map (nodesF 39)) (fun m hm => by obtain ⟨q, _, rfl⟩ := List.mem_map.1 hm; exact nodes_pos _ _) (by simp only [JV.items] at h2; omega)
  simp only [JV.items, List.length_map] at h2 h3 ⊢
  omega
theorem few_parsableC {v : JV} (h : fewF v = true) : (∀ r ∈ v.items, ∀ c ∈ r.items, parsable c) ∧ v.items.length ≤ 1000 :=
  ⟨fun _ hr _ hc => few_parsable (few_itemZ (few_itemZ h hr) hc), few_len h⟩
theorem few_spaces {l : List CX} (h : FewC l) : (spacesC l).length ≤ 1000000 := by
  have : ∀ l : List CX, (∀ x ∈ l, x.ixs.length ≤ 8) → (spacesC l).length ≤ 9 * l.length := by
    intro l
    induction l with
    | nil => intro _; simp [spacesC]
    | cons x l ih =>
      intro h
      have h4 := ih fun y hy => h y (List.mem_cons_of_mem _ hy)
      have h5 := h x (List.mem_cons_self ..)
      unfold spacesC at h4 ⊢
      rw [List.flatMap_cons, List.length_append, List.length_cons]
      simp only [spacesX, List.length_cons, List.length_map]
      omega
  have := this l fun x hx => (h.2 x hx).1
  have := h.1
  omega
end Go.Proofs.YtfpphpjobkhalaaGreatDoor
