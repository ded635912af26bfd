/- Paths: what lies at one, walked. -/
import Derived.Test.YtdajfdahgjhmaaaDoorFB
import Derived.Test.YtdajfdahgjhmaaaDoorJL
import Derived.StillTailTactics
namespace Go.Proofs.YtdajfdahgjhmaaaDoor
open Go.RowKit

/-- the cells below B -/
def cfU (B : Nat) (w : World) : CF := fun b o => if b < B then w.cell? ⟨b, o, none⟩ else none
theorem cfU_keep {B : Nat} {w w' : World} (hb : Below B w w') : CLe (cfU B w) (cf w') := fun b o u h => by
  unfold cfU at h; split at h
  · rename_i hB; unfold cf; rw [hb.cell (p := ⟨b, o, none⟩) hB]; exact h
  · cases h
theorem cle_cfU (w : World) : CLe (cf w) (cfU w.heap.size w) := fun b o u h => by
  unfold cfU; rw [if_pos (lt_of_cell h)]; exact h

theorem cfU_cf (B : Nat) (w : World) : CLe (cfU B w) (cf w) := fun b o u h => by
  unfold cfU at h; split at h
  · exact h
  · cases h
/-- five stores into one box -/
abbrev set5 (w : World) (k : Nat) (c0 c1 c2 c3 c4 : Value) : World := ((((w.setCell ⟨k, 0, none⟩ c0).setCell ⟨k, 1, none⟩ c1).setCell ⟨k, 2, none⟩ c2).setCell ⟨k, 3, none⟩ c3).setCell ⟨k, 4, none⟩ c4
theorem set_self {w : World} {k o : Nat} {cs : Array Value} {t : TypeId} {fr : Nat × Nat} {c : Value} (h : w.heap[k]? = some (.cells cs t fr)) : (w.setCell ⟨k, o, none⟩ c).heap[k]? = some (.cells (cs.set! o c) t fr) := by
  simp [World.setCell, Array.getElem?_modify, h]
theorem set5_self {w : World} {k : Nat} {a0 a1 a2 a3 a4 c0 c1 c2 c3 c4 : Value} {t : TypeId} {fr : Nat × Nat} (h : w.heap[k]? = some (.cells #[a0, a1, a2, a3, a4] t fr)) : (set5 w k c0 c1 c2 c3 c4).heap[k]? = some (.cells #[c0, c1, c2, c3, c4] t fr) := by
  have := set_self (o := 4) (c := c4) (set_self (o := 3) (c := c3) (set_self (o := 2) (c := c2) (set_self (o := 1) (c := c1) (set_self (o := 0) (c := c0) h))))
  simpa using this
theorem set5_other {w : World} {k j : Nat} {c0 c1 c2 c3 c4 : Value} (h : j ≠ k) : (set5 w k c0 c1 c2 c3 c4).heap[j]? = w.heap[j]? := by
  rw [Below.heap_setCell _ _ _ _ h, Below.heap_setCell _ _ _ _ h, Below.heap_setCell _ _ _ _ h, Below.heap_setCell _ _ _ _ h, Below.heap_setCell _ _ _ _ h]
theorem set5_below {w a : World} {B k : Nat} {c0 c1 c2 c3 c4 : Value} (hb : Below B a w) (hB : B ≤ k) : Below B a (set5 w k c0 c1 c2 c3 c4) :=
  ((((hb.setCell (p := ⟨k, 0, none⟩) hB _).setCell (p := ⟨k, 1, none⟩) hB _).setCell (p := ⟨k, 2, none⟩) hB _).setCell (p := ⟨k, 3, none⟩) hB _).setCell (p := ⟨k, 4, none⟩) hB _
theorem free_box {w : World} {k : Nat} {cs : Array Value} {t : TypeId} (h : w.heap[k]? = some (.cells cs t (0, 0))) (o : Nat) : w.frozen? ⟨k, o, none⟩ = false := by simp [World.frozen?, h]
theorem set5_cells {w : World} {k : Nat} {c0 c1 c2 c3 c4 : Value} {b o : Nat} (h : b ≠ k) : (set5 w k c0 c1 c2 c3 c4).cell? ⟨b, o, none⟩ = w.cell? ⟨b, o, none⟩ := World.cell?_of_block (set5_other h)

/-- what Get hands back: what lies in the cells c -/
def GetPostC (c : CF) (v : JV) (p : ByteArray) (w : World) (e : Ending) (w' : World) : Prop := (match getF v p with
      | some u => ∃ x, e = .returned (.tuple #[x, .bool true]) ∧ JAt c u x
      | none => e = .returned (.tuple #[.agg #[.int .i64 0, .int .i64 0, .string ⟨#[]⟩, .slice none 0 0, .slice none 0 0], .bool false])) ∧ Below w.heap.size w w'
def GetPost (v : JV) (p : ByteArray) (w : World) : Ending → World → Prop := GetPostC (cfU w.heap.size w) v p w
theorem get_no {c : CF} {v : JV} {p : ByteArray} {w w' : World} (h : getF v p = none) (hb : Below w.heap.size w w') : GetPostC c v p w (.returned (.tuple #[.agg #[.int .i64 0, .int .i64 0, .string ⟨#[]⟩, .slice none 0 0, .slice none 0 0], .bool false])) w' := by
  unfold GetPostC; rw [h]; exact ⟨rfl, hb⟩
theorem get_yes {c : CF} {v u : JV} {p : ByteArray} {w w' : World} {x : Value} (h : getF v p = some u) (hx : JAt c u x) (hb : Below w.heap.size w w') : GetPostC c v p w (.returned (.tuple #[x, .bool true])) w' := by
  unfold GetPostC; rw [h]; exact ⟨⟨x, rfl, hx⟩, hb⟩

/-- in a formed value a place is one of an item -/
theorem place_item {d : Nat} {v : JV} {s : ByteArray} (hf : formedF d v = true) (h : ¬ placeF v s < 0) : ∃ q : Nat, placeF v s = q ∧ q < v.items.length := by
  cases d with
  | zero => simp [formedF] at hf
  | succ d =>
    obtain ⟨k, n, t, nm, it⟩ := v
    unfold placeF at h ⊢
    by_cases h5 : k = 5 ∧ numF s < it.length
    · rw [if_pos (show (JV.mk k n t nm it).kind = 5 ∧ numF s < (JV.mk k n t nm it).items.length from h5)] at h ⊢
      exact ⟨(numF s).toNat, by omega, by have := h5.2; show (numF s).toNat < it.length; omega⟩
    rw [if_neg (show ¬ ((JV.mk k n t nm it).kind = 5 ∧ numF s < (JV.mk k n t nm it).items.length) from h5)] at h ⊢
    by_cases h6 : k = 6
    · rw [if_pos (show (JV.mk k n t nm it).kind = 6 from h6)] at h ⊢
      obtain ⟨_, hl, _⟩ := formed_body hf (by omega)
      rw [if_pos h6] at hl
      rcases idxGo_ge s nm 0 with e | ⟨q, e, hq⟩
      · exact absurd (show idxGo s (JV.mk k n t nm it).names 0 < 0 by show idxGo s nm 0 < 0; rw [e]; decide) h
      · exact ⟨q, by show idxGo s nm 0 = _; rw [e, Nat.zero_add], by show q < it.length; omega⟩
    · rw [if_neg (show ¬ (JV.mk k n t nm it).kind = 6 from h6)] at h
      exact absurd (by decide) h

/-- where Get stands: at the value u, the j-th step next -/
structure GetAt (c : CF) (v : JV) (p : ByteArray) (l : List ByteArray) (sv : Value) (w wr : World) (j : Nat) (u : JV) (box : Array Value) : Prop where
  eq : getF v p = walkF (l.drop j) u
  formed : ∃ d, formedF d u = true
  at_ : JAt c u (.agg box)
  two : Two w wr box #[.int .i64 0, .int .i64 0, .string ⟨#[]⟩, .slice none 0 0, .slice none 0 0]
  strs : StrsAt (cfA (w.heap.size + 2) wr) sv l
theorem GetAt.next {c : CF} {v u : JV} {p : ByteArray} {l : List ByteArray} {sv : Value} {w wr w' : World} {j : Nat} {box : Array Value} (h : GetAt c v p l sv w wr j u box) (hb : Below wr.heap.size wr w') : GetAt c v p l sv w w' j u box :=
  ⟨h.eq, h.formed, h.at_, h.two.next hb, h.strs.mono fun b o x hx => by
    unfold cfA at hx ⊢; split at hx
    · rename_i hB; rw [if_pos hB]; exact cle_below hb b o x hx
    · cases hx⟩
theorem GetAt.put {c : CF} {v u u' : JV} {p : ByteArray} {l : List ByteArray} {sv : Value} {w wr : World} {j : Nat} {a0 a1 a2 a3 a4 c0 c1 c2 c3 c4 : Value} (h : GetAt c v p l sv w wr j u #[a0, a1, a2, a3, a4]) (he : walkF (l.drop j) u = walkF (l.drop (j + 1)) u') (hf : ∃ d, formedF d u' = true)
    (hj : JAt c u' (.agg #[c0, c1, c2, c3, c4])) : GetAt c v p l sv w (set5 wr w.heap.size c0 c1 c2 c3 c4) (j + 1) u' #[c0, c1, c2, c3, c4] :=
  ⟨h.eq.trans he, hf, hj, ⟨set5_below h.two.bel (Nat.le_refl _), set5_self h.two.one, by rw [set5_other (by omega)]; exact h.two.two⟩, h.strs.mono fun b o x hx => by
    unfold cfA at hx ⊢; split at hx
    · rename_i hB; rw [if_pos hB, set5_cells (by omega)]; exact hx
    · cases hx⟩
theorem walk_no {s : ByteArray} {l : List ByteArray} {j : Nat} {u : JV} (hs : l[j]? = some s) (h : placeF u s < 0) : walkF (l.drop j) u = none := by
  rw [drop_name hs, walkF, if_pos h]
theorem walk_on {s : ByteArray} {l : List ByteArray} {j q : Nat} {u u' : JV} (hs : l[j]? = some s) (h : placeF u s = q) (hu : u.items[q]? = some u') : walkF (l.drop j) u = walkF (l.drop (j + 1)) u' := by
  rw [drop_name hs, walkF, if_neg (by omega), h, Int.toNat_natCast, hu]; rfl
theorem formed_item {d : Nat} {k n : Int} {t : ByteArray} {nm : List ByteArray} {it : List JV} {x : JV} (hf : formedF d (.mk k n t nm it) = true) (hx : x ∈ it) : ∃ d, formedF d x = true := by
  cases d with
  | zero => simp [formedF] at hf
  | succ d =>
    by_cases hk : k < 5
    · rw [formedF, if_pos hk, Bool.and_eq_true] at hf
      have := (of_decide_eq_true hf.2).1
      rw [List.length_eq_zero_iff.1 this] at hx; cases hx
    · exact ⟨d, (formed_body hf hk).2.2.2.1 x hx⟩

theorem stepsGo_small {s : ByteArray} (hs : s.size ≤ 1000000) : ∀ m fr i out r, (∀ x ∈ out, x.size ≤ 1000000) → stepsGo s m fr i out = some r → ∀ x ∈ r, x.size ≤ 1000000
  | 0, _, _, out, r, h, e => by rw [stepsGo] at e; cases e; exact h
  | m + 1, fr, i, out, r, h, e => by
    rw [stepsGo] at e
    split at e
    · exact stepsGo_small hs m _ _ _ r h e
    · split at e
      · cases e
      · refine stepsGo_small hs m _ _ _ r (fun x hx => ?_) e
        rcases List.mem_append.1 hx with h1 | h1
        · exact h x h1
        · obtain rfl : x = s.extract fr i := by simpa using h1
          rw [ByteArray.size_extract]; omega
theorem steps_small {s : ByteArray} (hs : s.size ≤ 1000000) {l : List ByteArray} (h : stepsF s = some l) : ∀ x ∈ l, x.size ≤ 1000000 := stepsGo_small hs _ _ _ _ l (by simp) h

end Go.Proofs.YtdajfdahgjhmaaaDoor
