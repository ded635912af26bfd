/- Plans: helps for span: what is asked is formed; ends by two names; own rows beside a box. -/
import Derived.Test.YtcmfanfkcbjeoaaGreatDoorHJ
namespace Go.Proofs.YtcmfanfkcbjeoaaGreatDoor
open Go.RowKit

theorem first_mem {L : List AskP} {p t : ByteArray} {v : JV} (h : firstF L p t = some v) : ∃ a ∈ L, a.2.2 = v := by
  unfold firstF at h
  rw [Option.map_eq_some_iff] at h
  obtain ⟨a, h1, h2⟩ := h
  exact ⟨a, List.mem_of_find?_eq_some h1, h2⟩
theorem items_formed {d : Nat} {v u : JV} (h : formedF d v = true) (hu : u ∈ v.items) : formedF d u = true := by
  obtain ⟨k, n, t, nm, it⟩ := v
  exact item_up h rfl u hu
theorem asks_formed : ∀ (d : Nat) (f : JV), formedF d f = true → ∀ a ∈ asksF d f, formedF d a.2.2 = true
  | 0, f, h => by simp [formedF] at h
  | d + 1, .mk k n t nm it, h => by
    intro a ha
    rw [asksF, List.mem_flatMap] at ha
    obtain ⟨⟨s, v⟩, hp, ha⟩ := ha
    have hv : formedF d v = true := (formed_nm h).2.2 v (List.of_mem_zip hp).2
    simp only at ha
    unfold asksC at ha
    split at ha
    · rw [List.mem_flatMap] at ha
      obtain ⟨u, hu, ha⟩ := ha
      exact formed_mono d _ (asks_formed d u (items_formed hv hu) a ha)
    · split at ha
      · simp at ha
      · unfold asksV at ha
        split at ha
        · rw [List.mem_map] at ha
          obtain ⟨q, hq, rfl⟩ := ha
          exact formed_mono d _ (items_formed hv (List.of_mem_zip hq).2)
        · rw [List.mem_singleton] at ha
          subst ha
          exact formed_mono d _ hv
theorem form_items {e : Nat} {v : JV} (h : formedF (e + 1) v = true) : v.items.length ≤ 24 ∧ ∀ u ∈ v.items, formedF e u = true := by
  obtain ⟨k, n, t, nm, it⟩ := v
  refine ⟨?_, (formed_nm h).2.2⟩
  by_cases h5 : k < 5
  · rw [formedF, if_pos h5, Bool.and_eq_true] at h
    have h1 := of_decide_eq_true h.2
    show it.length ≤ 24
    omega
  · exact (formed_body h h5).1
theorem flat_len {α : Type} (F : α → List AskP) (N : Nat) : ∀ l : List α, (∀ u ∈ l, (F u).length ≤ N) → (l.flatMap F).length ≤ l.length * N
  | [], _ => by simp
  | u :: l, h => by
    rw [List.flatMap_cons, List.length_append, List.length_cons, Nat.add_mul, Nat.one_mul]
    have h1 := h u (by simp)
    have h2 := flat_len F N l (fun y hy => h y (by simp [hy]))
    omega
theorem asks_count : ∀ (e d : Nat) (f : JV), e ≤ d → formedF e f = true → (asksF d f).length ≤ 25 ^ e
  | 0, _, f, _, h => by simp [formedF] at h
  | 1, 0, _, hd, _ => by omega
  | 1, d + 1, f, _, h => by
    obtain ⟨_, hfi⟩ := form_items h
    have : f.items = [] := by
      cases e : f.items with
      | nil => rfl
      | cons u l => have := hfi u (by rw [e]; simp); simp [formedF] at this
    rw [asksF, this, List.zip_nil_right]
    simp
  | e + 2, 0, _, hd, _ => by omega
  | e + 2, d + 1, f, hd, h => by
    obtain ⟨h24, hfi⟩ := form_items h
    have hp : 0 < 25 ^ e := Nat.pow_pos (by decide)
    have hone : ∀ q ∈ f.names.zip f.items, (asksC (asksF d) q.1 q.2).length ≤ 25 * 25 ^ e := fun q hq => by
      have hv := hfi q.2 (List.of_mem_zip hq).2
      obtain ⟨hv24, hvi⟩ := form_items hv
      unfold asksC
      split
      · have h1 := flat_len (asksF d) (25 ^ e) q.2.items (fun u hu => asks_count e d u (by omega) (hvi u hu))
        have h2 : q.2.items.length * 25 ^ e ≤ 25 * 25 ^ e := Nat.mul_le_mul_right _ (by omega)
        omega
      · split
        · simp
        · unfold asksV
          split
          · rw [List.length_map, List.length_zip]; omega
          · simp; omega
    have h1 := flat_len (fun q : ByteArray × JV => asksC (asksF d) q.1 q.2) (25 * 25 ^ e) (f.names.zip f.items) hone
    have h2 : (f.names.zip f.items).length * (25 * 25 ^ e) ≤ 25 * (25 * 25 ^ e) := Nat.mul_le_mul_right _ (by rw [List.length_zip]; omega)
    rw [asksF, Nat.pow_succ, Nat.pow_succ]
    rw [Nat.mul_comm (25 ^ e) 25, Nat.mul_comm (25 * 25 ^ e) 25]
    omega
/-- of two names the first one that is asked -/
theorem bound_at {L : List AskP} {p : List UInt8} {f : Fd} {n1 n2 : ByteArray} {one : Bool} (hne : n1.toList ≠ n2.toList) {q : Nat} {s : ByteArray} {v : JV} (hs : [n1, n2][q]? = some s) (hall : ∀ (i : Nat) t, i < q → [n1, n2][i]? = some t → firstF L f.1 t = none) (hv : firstF L f.1 s = some v) :
    boundF L p f n1 n2 one = some (p ++ partK v f.2 ++ (if (s.toList == (if one = true then n1 else n2).toList) = true then [255] else [])) := by
  match q, hs with
  | 0, hs =>
    cases hs
    unfold boundF
    rw [hv]
    cases one <;> simp [hne]
  | 1, hs =>
    cases hs
    have h0 := hall 0 n1 (by omega) rfl
    unfold boundF
    rw [h0, hv]
    have hne2 : ¬ n2.toList = n1.toList := fun e => hne e.symm
    cases one <;> simp [hne2]
  | q + 2, hs => simp at hs
theorem bound_none {L : List AskP} {p : List UInt8} {f : Fd} {n1 n2 : ByteArray} {one : Bool} (hall : ∀ (i : Nat) t, i < 2 → [n1, n2][i]? = some t → firstF L f.1 t = none) : boundF L p f n1 n2 one = none := by
  unfold boundF
  rw [hall 0 n1 (by omega) rfl, hall 1 n2 (by omega) rfl]
/-- an own row stands while a box of another kind is written -/
theorem BRow.but {B ob : Nat} {w w' : World} {sv : Value} {l : List UInt8} (h : BRow B w sv l) {cs : Array Value} (hob : w.heap[ob]? = some (.cells cs 31 (0, 0))) (k : w.grownBy w' (some ob)) : BRow B w' sv l := by
  refine ⟨h.own.kept k ?_, Nat.le_trans h.le k.size⟩
  rcases h.own.2 with ⟨hv, _⟩ | ⟨g, cap, cur, hv, _, hg, _⟩
  · rw [hv]; exact .inl rfl
  · rw [hv]
    refine .inr (fun e => ?_)
    obtain rfl : g = ob := Option.some.inj e
    rw [hob] at hg
    have := Option.some.inj hg
    injection this with _ h2
    revert h2
    decide
theorem grown_block {w w' : World} {ob q : Nat} {o : Obj} (k : w.grownBy w' (some ob)) (h : w.heap[q]? = some o) (hne : q ≠ ob) : w'.heap[q]? = some o := by
  rw [k.block q (heap_lt h) (fun e => hne (Option.some.inj e))]; exact h
theorem grown_set (w : World) (ob o : Nat) (v : Value) : w.grownBy (w.setCell ⟨ob, o, none⟩ v) (some ob) :=
  ⟨rfl, rfl, rfl, by simp [World.setCell], fun q _ hne => Below.heap_setCell _ _ _ _ (fun e => hne (by rw [e]))⟩
theorem grown_low {B ob : Nat} {w w' : World} (k : w.grownBy w' (some ob)) (hB : B ≤ w.heap.size) (ho : B ≤ ob) : Below B w w' := (Below.refl B w).grown k hB (fun q e => by cases e; exact ho)
theorem setP {w : World} {b o : Nat} {cs : Array Value} {t : TypeId} {u : Value} (h : w.heap[b]? = some (.cells cs t (0, 0))) : (w.setCell ⟨b, o, none⟩ u).heap[b]? = some (.cells (cs.setIfInBounds o u) t (0, 0)) := by
  obtain ⟨hb, he⟩ := Array.getElem?_eq_some_iff.1 h
  show (w.heap.modify b _)[b]? = _
  rw [Array.getElem?_modify]
  simp [h]

end Go.Proofs.YtcmfanfkcbjeoaaGreatDoor
