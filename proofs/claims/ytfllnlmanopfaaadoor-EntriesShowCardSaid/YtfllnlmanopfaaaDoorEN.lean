/- Indexes: what is shown and read, plainly. -/
import Derived.Test.YtfllnlmanopfaaaDoorEM
import Derived.Test.YtfllnlmanopfaaaDoorEF
import Derived.Test.YtfllnlmanopfaaaDoorJC
import Derived.Test.YtfllnlmanopfaaaDoorJH
namespace Go.Proofs.YtfllnlmanopfaaaDoor
open Go.RowKit

def zeroJ : JV := .mk 0 0 ⟨#[]⟩ [] []
def zeroX : IX := ⟨⟨#[]⟩, [], false⟩
def showX (x : IX) : JV := if formI x = true then showJ x else zeroJ
def errI (b : Bool) : Int := if b then 0 else 2
theorem zeroJ_at (c : CF) : JAt c zeroJ (.agg #[.int .i64 0, .int .i64 0, .string ⟨#[]⟩, .slice none 0 0, .slice none 0 0]) := by
  refine JAt.shut (by decide) (by decide) (by decide) ⟨none, 0, rfl, by decide, fun i s h => by simp at h⟩ ⟨none, 0, rfl, by decide, fun i s h => by simp at h⟩
theorem zeroX_at (c : CF) : IAt c zeroX (.agg zeroI) := ⟨by decide, .slice none 0 0, rfl, none, 0, rfl, by decide, by decide, fun i p h => by simp [zeroX] at h⟩
theorem show_post {x : IX} {w w' : World} {e : Ending} (h : ShowPost x w e w') : ∃ y, e = .returned (.tuple #[y, .int .i64 (errI (formI x))]) ∧ JAt (cf w') (showX x) y ∧ Below w.heap.size w w' := by
  obtain ⟨h1, h2⟩ := h
  unfold showX
  cases hf : formI x with
  | true =>
    rw [if_pos hf] at h1
    obtain ⟨y, e1, hy⟩ := h1
    exact ⟨y, e1, by simpa using hy, h2⟩
  | false =>
    rw [if_neg (by rw [hf]; simp)] at h1
    exact ⟨_, h1, by simpa using zeroJ_at _, h2⟩
noncomputable def parseX (v : JV) : IX := (parseF v).getD zeroX
theorem parse_post {v : JV} {w w' : World} {e : Ending} (h : ParsePost v w e w') : ∃ y, e = .returned (.tuple #[y, .int .i64 (errI (parseF v).isSome)]) ∧ IAt (cf w') (parseX v) y ∧ Below w.heap.size w w' := by
  obtain ⟨h1, h2⟩ := h
  unfold parseX
  cases hf : parseF v with
  | some x =>
    rw [hf] at h1
    obtain ⟨y, e1, hy⟩ := h1
    exact ⟨y, e1, hy, h2⟩
  | none =>
    rw [hf] at h1
    exact ⟨_, h1, zeroX_at _, h2⟩

theorem few_item_le {l : Nat} : ∀ (n : Nat) (ns : List Nat), (∀ m ∈ ns, 1 ≤ m) → addTo n ns ≤ 1000 → n + ns.length ≤ addTo n ns
  | n, [], _, _ => by simp [addTo]
  | n, m :: ns, h1, h => by
    by_cases hn : n ≤ 1000
    · rw [addTo_step hn] at h ⊢
      have := few_item_le (l := l) (n + m) ns (fun q hq => h1 q (List.mem_cons_of_mem _ hq)) h
      have := h1 m (List.mem_cons_self ..)
      simp only [List.length_cons]; omega
    · rw [addTo_stop hn] at h; omega
theorem nodes_pos : ∀ (l : Nat) (v : JV), 1 ≤ nodesF l v
  | 0, _ => by simp [nodesF]
  | l + 1, v => by
    rw [nodesF]
    have : ∀ (ns : List Nat) (n : Nat), 1 ≤ n → 1 ≤ addTo n ns := by
      intro ns
      induction ns with
      | nil => intro n h; simpa [addTo] using h
      | cons m ns ih =>
        intro n h
        by_cases hn : n ≤ 1000
        · rw [addTo_step hn]; exact ih _ (by omega)
        · rw [addTo_stop hn]; exact h
    have := this (v.items.map (nodesF l)) 1 (Nat.le_refl _)
    omega
theorem few_parsable {v : JV} (h : fewF v = true) : parsable v := by
  intro i0 hi0
  obtain ⟨k, n, t, nm, it⟩ := v
  rw [fewF, fewL_all] at h
  simp only [Bool.and_eq_true] at h
  have h1 := List.all_eq_true.1 h.2 i0 hi0
  obtain ⟨k1, n1, t1, nm1, it1⟩ := i0
  rw [fewF, fewL_all] at h1
  simp only [Bool.and_eq_true, decide_eq_true_eq] at h1
  refine ⟨?_, fun j hj => ?_⟩
  · have h2 := h1.1.1.1.1
    rw [nodesF] at h2
    have h3 := few_item_le (l := 0) 1 (it1.map (nodesF 39)) (fun m hm => by obtain ⟨q, _, rfl⟩ := List.mem_map.1 hm; exact nodes_pos _ _) (by simp only [JV.items] at h2; omega)
    simp only [JV.items, List.length_map] at h2 h3 ⊢
    omega
  · have h2 := List.all_eq_true.1 h1.2 j hj
    obtain ⟨k2, n2, t2, nm2, it2⟩ := j
    rw [fewF, fewL_all] at h2
    simp only [Bool.and_eq_true, decide_eq_true_eq] at h2
    have := h2.1.1.2
    simp only [JV.text]
    omega
theorem dash_len (s : ByteArray) (d : Bool) : (dashS s d).size ≤ s.size + 1 := by
  unfold dashS; split
  · rw [ByteArray.size_append]; show 1 + _ ≤ _; omega
  · omega
theorem show_parsable {x : IX} (h : formI x = true) : parsable (showJ x) := by
  obtain ⟨h1, h2, h3⟩ := form_parts h
  intro i0 hi0
  simp only [showJ, JV.items, List.mem_cons, List.not_mem_nil, or_false] at hi0
  rcases hi0 with rfl | rfl | rfl
  · refine ⟨?_, fun j hj => ?_⟩
    · simp only [JV.items, showItems, List.length_map]; omega
    · simp only [JV.items, showItems] at hj
      obtain ⟨f, hf, rfl⟩ := List.mem_map.1 hj
      have := h3 f hf
      have := dash_len f.1 f.2
      simp only [strJ, JV.text]; omega
  · exact ⟨by simp [strJ, JV.items], fun j hj => by simp [strJ, JV.items] at hj⟩
  · exact ⟨by simp [kindJ, JV.items], fun j hj => by simp [kindJ, JV.items] at hj⟩

end Go.Proofs.YtfllnlmanopfaaaDoor
