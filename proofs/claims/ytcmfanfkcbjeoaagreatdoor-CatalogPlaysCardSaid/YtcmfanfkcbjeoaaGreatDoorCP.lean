/- Catalogs: what comes of a formed catalog is formed (plain). -/
import Derived.Test.YtcmfanfkcbjeoaaGreatDoorCL
import Derived.Test.YtcmfanfkcbjeoaaGreatDoorCO
namespace Go.Proofs.YtcmfanfkcbjeoaaGreatDoor
open Go.RowKit

theorem fresh_or (zs : List Int) : ∀ k : Nat, (∀ m : Nat, 1 ≤ m → m ≤ k → (m : Int) ∈ zs) ∨ ∃ n, IsFresh zs n
  | 0 => .inl fun m h1 h2 => by omega
  | k + 1 => by
    rcases fresh_or zs k with h | h
    · by_cases hm : ((k + 1 : Nat) : Int) ∈ zs
      · refine .inl fun m h1 h2 => ?_
        by_cases e : m = k + 1
        · subst e; exact hm
        · exact h m h1 (by omega)
      · exact .inr ⟨k + 1, by omega, hm, fun m h1 h2 => h m h1 (by omega)⟩
    · exact .inr h
theorem fresh_le {zs : List Int} {n : Nat} (h : IsFresh zs n) : n ≤ zs.length + 1 := by
  have := fill_le (n - 1) zs fun m h1 h2 => h.all m h1 (by have := h.pos; omega)
  omega
theorem fresh_ok (zs : List Int) : ∃ n : Nat, IsFresh zs n ∧ freshZ zs = (n : Int) ∧ n ≤ zs.length + 1 := by
  rcases fresh_or zs (zs.length + 1) with h | ⟨n, h⟩
  · have := fill_le _ zs h; omega
  · exact ⟨n, h, freshZ_eq h, fresh_le h⟩
theorem findI_neg {α : Type} {p : α → Bool} {l : List α} (h : findI p l < 0) : ∀ x ∈ l, p x = false := by
  unfold findI at h
  split at h
  · omega
  · rename_i e
    intro x hx
    have := List.findIdx?_eq_none_iff.1 e x hx
    simpa using this
theorem findI_pos {α : Type} {p : α → Bool} {l : List α} {x : α} (hx : x ∈ l) (hp : p x = true) : 0 ≤ findI p l := by
  rcases Int.lt_or_le (findI p l) 0 with h | h
  · rw [findI_neg h x hx] at hp; cases hp
  · exact h
theorem bytes_eq {a b : ByteArray} : (a.toList == b.toList) = true ↔ a = b := by
  rw [beq_iff_eq, ByteArray.toList_eq, ByteArray.toList_eq]
  exact ⟨fun h => tbZ_inj h, fun h => by rw [h]⟩
theorem nameIs_iff {s : ByteArray} {x : CX} : nameIs s x = true ↔ x.name = s := by unfold nameIs; exact bytes_eq
theorem nameIsP_iff {s : ByteArray} {x : PX} : nameIsP s x = true ↔ x.ix.name = s := by unfold nameIsP; exact bytes_eq
theorem found_not {nm : List ByteArray} {s : ByteArray} (h : ∀ x ∈ nm, x ≠ s) : foundZ nm s = false :=
  decide_eq_false fun e => h s (List.mem_of_getElem? e) rfl
theorem up_insZ {nm : List ByteArray} {s : ByteArray} (hu : upZ nm) (hf : foundZ nm s = false) : upZ (insZ (placeZ nm s) s nm) := by
  have hsplit := List.take_append_drop (placeZ nm s) nm
  have hp : upZ (nm.take (placeZ nm s) ++ nm.drop (placeZ nm s)) := by rw [hsplit]; exact hu
  unfold upZ at hp
  rw [List.pairwise_append] at hp
  obtain ⟨h1, h2, h3⟩ := hp
  have hne : ∀ c, nm[placeZ nm s]? = some c → strLt s c = true := fun c hc => strLtZ_total (placeZ_at hc) fun e => by
    subst e
    unfold foundZ at hf
    exact absurd hc (of_decide_eq_false hf)
  have hlo : ∀ a ∈ nm.take (placeZ nm s), strLt a s = true := fun a ha => by
    obtain ⟨i, hi⟩ := List.getElem?_of_mem ha
    rw [List.getElem?_take] at hi
    split at hi
    · rename_i hlt; exact placeZ_lt hlt hi
    · cases hi
  have hhi : ∀ b ∈ nm.drop (placeZ nm s), strLt s b = true := fun b hb => by
    obtain ⟨i, hi⟩ := List.getElem?_of_mem hb
    rw [List.getElem?_drop] at hi
    cases i with
    | zero => exact hne b hi
    | succ i =>
      obtain ⟨c, hc⟩ : ∃ c, nm[placeZ nm s]? = some c := ⟨_, List.getElem?_eq_getElem (by have := (List.getElem?_eq_some_iff.1 hi).1; omega)⟩
      exact strLtZ_trans (hne c hc) (upZ_lt hu (by omega) hc hi)
  unfold upZ insZ
  rw [List.pairwise_append]
  refine ⟨h1, List.pairwise_cons.2 ⟨hhi, h2⟩, fun a ha b hb => ?_⟩
  rcases List.mem_cons.1 hb with rfl | hb
  · exact hlo a ha
  · exact h3 a ha b hb
theorem up_delZ {nm : List ByteArray} (hu : upZ nm) (k : Nat) : upZ (delZ k nm) := by
  unfold upZ delZ
  refine hu.sublist ?_
  have h := List.take_append_drop k nm
  conv => rhs; rw [← h]
  refine List.Sublist.append (List.Sublist.refl _) ?_
  rw [← List.drop_drop]
  exact List.drop_sublist _ _
theorem insZ_map {α β : Type} (f : α → β) (k : Nat) (x : α) (l : List α) : (insZ k x l).map f = insZ k (f x) (l.map f) := by simp [insZ, List.map_take, List.map_drop]
theorem delZ_map {α β : Type} (f : α → β) (k : Nat) (l : List α) : (delZ k l).map f = delZ k (l.map f) := by simp [delZ, List.map_take, List.map_drop]
theorem mem_insZ {α : Type} {k : Nat} {x y : α} {l : List α} (h : y ∈ insZ k x l) : y = x ∨ y ∈ l := by
  unfold insZ at h
  rcases List.mem_append.1 h with h | h
  · exact .inr (List.mem_of_mem_take h)
  · rcases List.mem_cons.1 h with h | h
    · exact .inl h
    · exact .inr (List.mem_of_mem_drop h)
theorem mem_delZ {α : Type} {k : Nat} {y : α} {l : List α} (h : y ∈ delZ k l) : y ∈ l := by
  unfold delZ at h
  rcases List.mem_append.1 h with h | h
  · exact List.mem_of_mem_take h
  · exact List.mem_of_mem_drop h
theorem insZ_in {α : Type} (k : Nat) (x : α) (l : List α) : x ∈ insZ k x l := by unfold insZ; simp
theorem insZ_perm {α : Type} (k : Nat) (x : α) (l : List α) : (insZ k x l).Perm (x :: l) := by
  unfold insZ
  have h := List.perm_middle (a := x) (l₁ := l.take k) (l₂ := l.drop k)
  rwa [List.take_append_drop] at h
theorem delZ_sub {α : Type} (k : Nat) (l : List α) : (delZ k l).Sublist l := by
  unfold delZ
  have h := List.take_append_drop k l
  conv => rhs; rw [← h]
  refine List.Sublist.append (List.Sublist.refl _) ?_
  rw [← List.drop_drop]
  exact List.drop_sublist _ _
theorem spacesOk_iff {zs : List Int} : spacesOk zs = true ↔ zs.Nodup ∧ ∀ z ∈ zs, 1 ≤ z ∧ z ≤ 200 := by
  unfold spacesOk
  simp only [Bool.and_eq_true, decide_eq_true_eq, List.all_eq_true]
theorem spacesOk_fresh {zs ys : List Int} (hp : ys.Perm (freshZ zs :: zs)) (h : spacesOk zs = true) (hl : zs.length ≤ 20) : spacesOk ys = true := by
  rw [spacesOk_iff] at h ⊢
  obtain ⟨n, hn, e, hle⟩ := fresh_ok zs
  rw [e] at hp
  refine ⟨hp.nodup_iff.2 (List.nodup_cons.2 ⟨hn.not_, h.1⟩), fun z hz => ?_⟩
  rcases List.mem_cons.1 (hp.mem_iff.1 hz) with rfl | hz
  · have := hn.pos; omega
  · exact h.2 z hz
theorem spacesOk_sub {zs ys : List Int} (hp : ys.Sublist zs) (h : spacesOk zs = true) : spacesOk ys = true := by
  rw [spacesOk_iff] at h ⊢
  exact ⟨h.1.sublist hp, fun z hz => h.2 z (hp.mem hz)⟩
theorem formX_iff {x : CX} : formX x = true ↔ nameF x.name = true ∧ x.ixs.length ≤ 4 ∧ upZ (namesP x.ixs) ∧ ∀ p ∈ x.ixs, formI p.ix = true := by
  unfold formX
  simp only [Bool.and_eq_true, decide_eq_true_eq, Bool.not_eq_true', List.any_eq_false, Bool.not_eq_false]
  constructor
  · rintro ⟨⟨⟨h1, h2⟩, h3⟩, h4⟩; exact ⟨h1, h2, rises_upZ h3, h4⟩
  · rintro ⟨h1, h2, h3, h4⟩; exact ⟨⟨⟨h1, h2⟩, up_risesZ h3⟩, h4⟩
theorem formC_iff {l : List CX} : formC l = true ↔ l.length ≤ 4 ∧ upZ (namesC l) ∧ (∀ x ∈ l, formX x = true) ∧ spacesOk (spacesC l) = true := by
  unfold formC
  simp only [Bool.and_eq_true, decide_eq_true_eq, List.all_eq_true]
  constructor
  · rintro ⟨⟨⟨h1, h2⟩, h3⟩, h4⟩; exact ⟨h1, rises_upZ h2, h3, h4⟩
  · rintro ⟨h1, h2, h3, h4⟩; exact ⟨⟨⟨h1, up_risesZ h2⟩, h3⟩, h4⟩
theorem spaces_ins (k : Nat) (x : CX) (l : List CX) : (spacesC (insZ k x l)).Perm (spacesX x ++ spacesC l) :=
  ((insZ_perm k x l).flatMap_right spacesX).trans (List.Perm.of_eq (by unfold spacesC; rw [List.flatMap_cons]))
theorem spaces_del (k : Nat) (l : List CX) : (spacesC (delZ k l)).Sublist (spacesC l) := by
  unfold spacesC delZ
  have h := List.take_append_drop k l
  conv => rhs; rw [← h]
  rw [List.flatMap_append, List.flatMap_append]
  refine List.Sublist.append (List.Sublist.refl _) ?_
  rw [← List.drop_drop]
  cases l.drop k with
  | nil => exact List.Sublist.refl _
  | cons a t => rw [List.drop_succ_cons, List.drop_zero, List.flatMap_cons]; exact List.sublist_append_right _ _
theorem split_at {l : List CX} {k : Nat} {y : CX} (hy : l[k]? = some y) : l = l.take k ++ y :: l.drop (k + 1) := by
  obtain ⟨h1, rfl⟩ := List.getElem?_eq_some_iff.1 hy
  rw [← List.drop_eq_getElem_cons h1, List.take_append_drop]
theorem set_at {l : List CX} {k : Nat} {y z : CX} (hy : l[k]? = some y) : l.set k z = l.take k ++ z :: l.drop (k + 1) := by
  obtain ⟨h1, rfl⟩ := List.getElem?_eq_some_iff.1 hy
  rw [List.set_eq_take_append_cons_drop, if_pos h1]
theorem names_set {l : List CX} {k : Nat} {y z : CX} (hy : l[k]? = some y) (hz : z.name = y.name) : namesC (l.set k z) = namesC l := by
  rw [set_at hy]
  conv => rhs; rw [split_at hy]
  simp only [List.map_append, List.map_cons, hz]
theorem spaces_set {l : List CX} {k : Nat} {y z : CX} (hy : l[k]? = some y) : spacesC (l.set k z) = spacesC (l.take k) ++ (spacesX z ++ spacesC (l.drop (k + 1))) ∧ spacesC l = spacesC (l.take k) ++ (spacesX y ++ spacesC (l.drop (k + 1))) := by
  refine ⟨?_, ?_⟩
  · rw [set_at hy]; unfold spacesC; rw [List.flatMap_append, List.flatMap_cons]
  · conv => lhs; rw [split_at hy]
    unfold spacesC; rw [List.flatMap_append, List.flatMap_cons]
theorem mem_setZ {l : List CX} {k : Nat} {x z : CX} (h : x ∈ l.set k z) : x = z ∨ x ∈ l := by
  rcases List.mem_or_eq_of_mem_set h with h | h
  · exact .inr h
  · exact .inl h

theorem create_ok {l l' : List CX} {s : ByteArray} (h : createF l s = (l', 0)) : formC l = true ∧ nameF s = true ∧ findI (nameIs s) l < 0 ∧ l.length ≠ 4 ∧ l' = insZ (placeZ (namesC l) s) ⟨s, freshZ (spacesC l), []⟩ l := by
  unfold createF at h
  split at h
  · simp at h
  · rename_i h1
    split at h
    · simp at h
    · rename_i h2
      split at h
      · simp at h
      · rename_i h3
        simp only [Bool.and_eq_true, Bool.not_eq_false] at h1
        injection h with h _
        exact ⟨h1.1, h1.2, by omega, h3, h.symm⟩
theorem create_form {l l' : List CX} {s : ByteArray} (h : createF l s = (l', 0)) : formC l' = true ∧ 0 ≤ findI (nameIs s) l' := by
  obtain ⟨h1, h2, h3, h4, rfl⟩ := create_ok h
  have h20 := spaces_four h1
  rw [formC_iff] at h1
  obtain ⟨g1, g2, g3, g4⟩ := h1
  refine ⟨formC_iff.2 ⟨?_, ?_, fun x hx => ?_, ?_⟩, findI_pos (insZ_in _ _ _) (nameIs_iff.2 rfl)⟩
  · rw [(insZ_perm _ _ _).length_eq, List.length_cons]; omega
  · rw [show namesC (insZ (placeZ (namesC l) s) ⟨s, freshZ (spacesC l), []⟩ l) = insZ (placeZ (namesC l) s) s (namesC l) from insZ_map _ _ _ _]
    refine up_insZ g2 (found_not fun x hx e => ?_)
    obtain ⟨y, hy, rfl⟩ := List.mem_map.1 hx
    have := findI_neg h3 y hy
    rw [nameIs_iff.2 e] at this; cases this
  · rcases mem_insZ hx with rfl | hx
    · exact formX_iff.2 ⟨h2, by simp, List.Pairwise.nil, fun p hp => by cases hp⟩
    · exact g3 x hx
  · exact spacesOk_fresh (spaces_ins _ _ _) g4 h20
theorem drop_form {l l' : List CX} {s : ByteArray} (h : dropF l s = (l', 0)) : formC l' = true := by
  unfold dropF at h
  split at h
  · simp at h
  · rename_i h1
    split at h
    · simp at h
    · injection h with h _
      subst h
      simp only [Bool.not_eq_false] at h1
      rw [formC_iff] at h1 ⊢
      obtain ⟨g1, g2, g3, g4⟩ := h1
      refine ⟨?_, ?_, fun x hx => g3 x (mem_delZ hx), spacesOk_sub (spaces_del _ _) g4⟩
      · have := (delZ_sub (findI (nameIs s) l).toNat l).length_le; omega
      · rw [show namesC (delZ (findI (nameIs s) l).toNat l) = delZ _ (namesC l) from delZ_map _ _ _]
        exact up_delZ g2 _
theorem add_ok {l l' : List CX} {s : ByteArray} {x : IX} (h : addF l s x = (l', 0)) : formC l = true ∧ formI x = true ∧ ∃ (k : Nat) (y : CX), findI (nameIs s) l = (k : Int) ∧ l[k]? = some y ∧ foundZ (namesP y.ixs) x.name = false ∧ y.ixs.length ≠ 4 ∧ l' = l.set k ⟨y.name, y.sp, insZ (placeZ (namesP y.ixs) x.name) ⟨x, freshZ (spacesC l)⟩ y.ixs⟩ := by
  unfold addF at h
  split at h
  · simp at h
  · rename_i h1
    simp only [Bool.and_eq_true, Bool.not_eq_false] at h1
    split at h
    · simp at h
    · rename_i y hy
      split at h
      · simp at h
      · rename_i h2
        split at h
        · simp at h
        · rename_i h3
          split at h
          · simp at h
          · rename_i h4
            injection h with h _
            exact ⟨h1.1, h1.2, _, y, by omega, hy, by simpa using h3, h4, h.symm⟩
theorem add_form {l l' : List CX} {s : ByteArray} {x : IX} (h : addF l s x = (l', 0)) : formC l' = true := by
  obtain ⟨h1, h2, k, y, h3, hy, hf, h4, rfl⟩ := add_ok h
  have h20 := spaces_four h1
  rw [formC_iff] at h1 ⊢
  obtain ⟨g1, g2, g3, g4⟩ := h1
  have hym := g3 y (List.mem_of_getElem? hy)
  rw [formX_iff] at hym
  obtain ⟨f1, f2, f3, f4⟩ := hym
  refine ⟨by rw [List.length_set]; exact g1, by rw [names_set hy (by rfl)]; exact g2, fun z hz => ?_, ?_⟩
  · rcases mem_setZ hz with rfl | hz
    · refine formX_iff.2 ⟨f1, ?_, ?_, fun p hp => ?_⟩
      · simp only; rw [(insZ_perm _ _ _).length_eq, List.length_cons]; omega
      · show upZ (namesP (insZ (placeZ (namesP y.ixs) x.name) ⟨x, freshZ (spacesC l)⟩ y.ixs))
        rw [show namesP (insZ (placeZ (namesP y.ixs) x.name) ⟨x, freshZ (spacesC l)⟩ y.ixs) = insZ (placeZ (namesP y.ixs) x.name) x.name (namesP y.ixs) from insZ_map _ _ _ _]
        exact up_insZ f3 hf
      · rcases mem_insZ hp with rfl | hp
        · exact h2
        · exact f4 p hp
    · exact g3 z hz
  · obtain ⟨e1, e2⟩ := spaces_set (z := ⟨y.name, y.sp, insZ (placeZ (namesP y.ixs) x.name) ⟨x, freshZ (spacesC l)⟩ y.ixs⟩) hy
    refine spacesOk_fresh ?_ g4 h20
    rw [e1]
    conv => rhs; rhs; rw [e2]
    have hx : (spacesX ⟨y.name, y.sp, insZ (placeZ (namesP y.ixs) x.name) ⟨x, freshZ (spacesC l)⟩ y.ixs⟩).Perm (freshZ (spacesC l) :: spacesX y) := by
      unfold spacesX
      refine ((insZ_perm _ _ _).map (fun p : PX => p.sp)).cons _ |>.trans ?_
      exact List.Perm.swap _ _ _
    refine ((hx.append_right _).append_left _).trans ?_
    rw [List.cons_append]
    exact List.perm_middle
theorem dropI_ok {l l' : List CX} {s t : ByteArray} (h : dropIF l s t = (l', 0)) : formC l = true ∧ ∃ (k : Nat) (y : CX) (m : Nat), findI (nameIs s) l = (k : Int) ∧ l[k]? = some y ∧ findI (nameIsP t) y.ixs = (m : Nat) ∧ l' = l.set k ⟨y.name, y.sp, delZ m y.ixs⟩ := by
  unfold dropIF at h
  split at h
  · simp at h
  · rename_i h1
    simp only [Bool.not_eq_false] at h1
    split at h
    · simp at h
    · rename_i y hy
      split at h
      · simp at h
      · rename_i h2
        split at h
        · simp at h
        · rename_i h3
          injection h with h _
          exact ⟨h1, _, y, _, by omega, hy, by omega, h.symm⟩
theorem dropI_form {l l' : List CX} {s t : ByteArray} (h : dropIF l s t = (l', 0)) : formC l' = true := by
  obtain ⟨h1, k, y, m, h3, hy, hm, rfl⟩ := dropI_ok h
  rw [formC_iff] at h1 ⊢
  obtain ⟨g1, g2, g3, g4⟩ := h1
  have hym := g3 y (List.mem_of_getElem? hy)
  rw [formX_iff] at hym
  obtain ⟨f1, f2, f3, f4⟩ := hym
  refine ⟨by rw [List.length_set]; exact g1, by rw [names_set hy (by rfl)]; exact g2, fun z hz => ?_, ?_⟩
  · rcases mem_setZ hz with rfl | hz
    · refine formX_iff.2 ⟨f1, ?_, ?_, fun p hp => f4 p (mem_delZ hp)⟩
      · have := (delZ_sub m y.ixs).length_le; simp only; omega
      · show upZ (namesP (delZ m y.ixs))
        rw [show namesP (delZ m y.ixs) = delZ m (namesP y.ixs) from delZ_map _ _ _]
        exact up_delZ f3 _
    · exact g3 z hz
  · obtain ⟨e1, e2⟩ := spaces_set (z := ⟨y.name, y.sp, delZ m y.ixs⟩) hy
    refine spacesOk_sub ?_ g4
    rw [e1]
    conv => rhs; rw [e2]
    refine List.Sublist.append (List.Sublist.refl _) (List.Sublist.append ?_ (List.Sublist.refl _))
    unfold spacesX
    exact ((delZ_sub m y.ixs).map (fun p : PX => p.sp)).cons_cons _
theorem good_paths {all : List Fd} : ∀ {l : List Fd} {j : Nat}, goodF all j l = true → ∀ f ∈ l, pathOk f.1 = true
  | [], _, _, f, hf => by cases hf
  | g :: l, j, h, f, hf => by
    rw [goodF] at h
    simp only [Bool.and_eq_true] at h
    rcases List.mem_cons.1 hf with rfl | hf
    · exact h.1.1
    · exact good_paths h.2 f hf
theorem form_fields {x : IX} (h : formI x = true) : x.fields.length ≤ 3 ∧ ∀ f ∈ x.fields, f.1.size ≤ 24 := by
  unfold formI at h
  simp only [Bool.and_eq_true, decide_eq_true_eq] at h
  refine ⟨h.1.2.2, fun f hf => ?_⟩
  have h1 := good_paths h.2 f hf
  unfold pathOk simpleF at h1
  simp only [Bool.and_eq_true, decide_eq_true_eq] at h1
  exact h1.2.2
theorem small_form {l : List CX} (h : formC l = true) : SmallC l ∧ Sized l := by
  rw [formC_iff] at h
  refine ⟨fun x hx p hp f hf => ?_, by omega, fun x hx => ⟨?_, fun p hp => ?_⟩⟩
  · have := (form_fields ((formX_iff.1 (h.2.2.1 x hx)).2.2.2 p hp)).2 f hf; omega
  · have := (formX_iff.1 (h.2.2.1 x hx)).2.1; omega
  · have := (form_fields ((formX_iff.1 (h.2.2.1 x hx)).2.2.2 p hp)).1; omega
theorem form_nil : formC [] = true := by
  rw [formC_iff]
  exact ⟨by simp, List.Pairwise.nil, fun x hx => by (cases hx), by decide⟩

/-- what an act leaves -/
def keepR (l : List CX) (r : List CX × Int) : List CX × Int := if r.2 = 0 then r else (l, r.2)
noncomputable def actF (l : List CX) (o : OpX) : List CX × Int :=
  if o.kind = 1 then keepR l (createF l o.name) else if o.kind = 2 then keepR l (dropF l o.name) else if o.kind = 3 then keepR l (addF l o.name o.x) else if o.kind = 4 then keepR l (dropIF l o.name o.x.name) else (l, 0)
theorem keep_form {l : List CX} {r : List CX × Int} (h : formC l = true) (hr : ∀ l', r = (l', 0) → formC l' = true) : formC (keepR l r).1 = true := by
  unfold keepR
  split
  · rename_i e; exact hr r.1 (by rw [← e])
  · exact h
theorem act_form {l : List CX} {o : OpX} (h : formC l = true) : formC (actF l o).1 = true := by
  unfold actF
  split
  · exact keep_form h fun l' e => (create_form e).1
  · split
    · exact keep_form h fun l' e => drop_form e
    · split
      · exact keep_form h fun l' e => add_form e
      · split
        · exact keep_form h fun l' e => dropI_form e
        · exact h
theorem act_found {l : List CX} {o : OpX} (hk : o.kind = 1) (h : (actF l o).2 = 0) : 0 ≤ findI (nameIs o.name) (actF l o).1 := by
  unfold actF at h ⊢
  rw [if_pos hk] at h ⊢
  unfold keepR at h ⊢
  split
  · rename_i e; exact (create_form (l' := (createF l o.name).1) (by rw [← e])).2
  · rename_i e; rw [if_neg e] at h; exact absurd h e
theorem findI_at_of {α : Type} {p : α → Bool} {l : List α} (h : 0 ≤ findI p l) : ∃ (k : Nat) (x : α), findI p l = (k : Int) ∧ l[k]? = some x ∧ p x = true := by
  rcases findI_cases p l with e | ⟨k, x, e, hx, hp⟩
  · omega
  · exact ⟨k, x, e, hx, hp⟩
theorem create_err {l : List CX} {s : ByteArray} (h : (createF l s).2 ≠ 0) : (createF l s).1 = [] := by
  unfold createF at h ⊢
  split
  · rfl
  · rename_i h1
    rw [if_neg h1] at h
    split
    · rfl
    · rename_i h2
      rw [if_neg h2] at h
      split
      · rfl
      · rename_i h3
        rw [if_neg h3] at h
        exact absurd rfl h
/-- a collection that is created lies in the least space that none has -/
theorem create_least {l l' : List CX} {s : ByteArray} (h : createF l s = (l', 0)) : ∃ (k n : Nat), findI (nameIs s) l' = (k : Int) ∧ l'[k]? = some ⟨s, (n : Int), []⟩ ∧ IsFresh (spacesC l) n ∧ n ≤ 21 ∧ (spacesC l').length = (spacesC l).length + 1 := by
  obtain ⟨_, h0⟩ := create_form h
  obtain ⟨h1, h2, h3, h4, rfl⟩ := create_ok h
  obtain ⟨n, hn, e, hle⟩ := fresh_ok (spacesC l)
  have h20 := spaces_four h1
  obtain ⟨k, x, hk, hx, hp⟩ := findI_at_of h0
  refine ⟨k, n, hk, ?_, hn, by omega, ?_⟩
  · rw [hx, ← e]
    rcases mem_insZ (List.mem_of_getElem? hx) with rfl | hm
    · rfl
    · rw [findI_neg h3 x hm] at hp; cases hp
  · rw [(spaces_ins _ _ _).length_eq]
    unfold spacesX
    simp <;> omega

end Go.Proofs.YtcmfanfkcbjeoaaGreatDoor
